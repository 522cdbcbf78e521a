/- The law GenMakes holds: for every list of nodes, in whatever memory that holds the errors as they are laid, the call returns true, and all that was there stays as it was. -/
import Derived.Test.YthmcfphafofheaaDoorMakes2
import Derived.Test.YthmcfphafofheaaDoorNodeArg
open Go Go.Proofs
namespace Go.Proofs.YthmcfphafofheaaDoor
open Pat Go.ChangeShapes Go.WideShapes Go.ChangeAt Go.RowKit Go.Proofs.YthmcfphafofheaaDoor
set_option maxRecDepth 100000
namespace GenMakes
theorem contract (H : Type) (enc : TypeId × Value → H) (W : World) (base : Nat) (args : Array Value) (ds gs : List (DataW H)) (before : List MemPlace)
    (hval : ∀ (j : Nat) t v, Tryd.f6.params[j]? = some t → args[j]? = some v → Value.okWide Tryd.prog W .any base t v)
    (hW : DataW.Whole enc Tryd.prog Tryd.f6.params.toList Rows.genMakesSpec.vars false W args.toList ds gs before) (hwt : (DataW.weightsEach Tryd.prog (Tryd.f6.params.toList ++ (OpenSpec.ofChange Rows.genMakesSpec).bare.plain.varTypes Tryd.prog) (ds ++ gs)).all (· ≤ reachBytes) = true) (hL : laidMet Tryd.prog Rows.genMakesRow.laid W) :
    Calls Tryd.prog 6 args W fun e W' => ∃ v, e = .returned v ∧ Rows.genMakesSpec.post enc Tryd.prog Tryd.f6 false true false false W args v W' := by
  have hW' := hW
  obtain ⟨p, q, hA0, hV, rfl, hfz, hnd⟩ := hW
  have hA : DataW.TrodAll enc Tryd.prog W 0 (fun _ => true) true Tryd.f6.params.toList args.toList ds p := hA0
  rw [Tryd.params6] at hA hval
  obtain ⟨v0, vs0, d0, ds0, p0, q0, hargs, rfl, rfl, h0, r0⟩ := trodAll_cons hA
  obtain ⟨rfl, rfl, rfl⟩ := trodAll_nil r0
  obtain rfl : args = #[v0] := by cases args; simp_all
  obtain ⟨rfl, rfl⟩ := trodVars_none hV
  obtain ⟨A, hH⟩ := rel_of sentG Rows.genMakesRow.laid (by kernel_rfl) (by kernel_rfl)
    (by intro x hx; simp only [Rows.genMakesRow, List.mem_cons, List.not_mem_nil, or_false] at hx; rcases hx with rfl | rfl | rfl | rfl | rfl | rfl | rfl | rfl | rfl | rfl | rfl | rfl | rfl | rfl | rfl | rfl | rfl <;> exact ⟨_, rfl⟩) hL
  obtain ⟨a0, len, cap, rfl⟩ := okWide_slice Tryd.underlying23 (hval 0 23 v0 rfl rfl)
  have hw0 : (d0.weights Tryd.prog 23).all (· ≤ reachBytes) = true := by
    refine weightsEach_get hwt 0 23 d0 ?_ rfl
    rw [Tryd.params6]; rfl
  obtain ⟨l, hl1, hl2, hrep⟩ := arg_nodes (A := A) h0 hw0 rfl
  have hc := makes_spec (gs := sentG) (s := A) (σ := noHp) (K := fun v _ => v = .bool true) (fun g hg => hg) l hl2 rfl
  have hr : RepL A noHp W [.slice a0 len cap] [nodes l] := ⟨rfl, fun j x y hx hy => by
    match j, hx, hy with
    | 0, hx, hy => simp at hx hy; subst hx; subst hy; exact hrep
    | j + 1, hx, hy => simp at hx⟩
  have prm : ∀ t ∈ #[23].toList, Tryd.prog.readableRec t = true ∧ t < Tryd.prog.types.size := by
    have h1 : ([23].all fun t => Tryd.prog.readableRec t && decide (t < Tryd.prog.types.size)) = true := by kernel_rfl
    intro t ht
    have := List.all_eq_true.1 h1 t ht
    simpa using this
  refine (hc.law hH hr Tryd.func6 (by kernel_rfl) (by kernel_rfl)).mono fun e W' ⟨he, hb⟩ => ⟨_, he, ?_⟩
  exact law_post (tb := 4) (by kernel_rfl) hW' rfl rfl (by rw [Tryd.params6]; exact prm) (by kernel_rfl) Tryd.underlying4 hb
noncomputable abbrev wit (os : Os) : World := laidWorld os [(5, [116, 111, 111, 32, 108, 111, 110, 103]), (4, [110, 101, 115, 116, 101, 100, 32, 116, 111, 111, 32, 100, 101, 101, 112]), (6, [97, 32, 113, 117, 111, 116, 101, 32, 116, 104, 97, 116, 32, 100, 111, 101, 115, 32, 110, 111, 116, 32, 101, 110, 100]), (7, [97, 32, 98, 114, 97, 99, 107, 101, 116, 32, 116, 104, 97, 116, 32, 100, 111, 101, 115, 32, 110, 111, 116, 32, 101, 110, 100]), (8, [97, 32, 98, 114, 97, 99, 101, 32, 116, 104, 97, 116, 32, 100, 111, 101, 115, 32, 110, 111, 116, 32, 101, 110, 100]), (9, [110, 111, 32, 110, 97, 109, 101]), (10, [110, 111, 32, 116, 111, 107, 101, 110]), (11, [105, 116, 32, 100, 111, 101, 115, 32, 110, 111, 116, 32, 115, 116, 97, 110, 100, 32, 104, 101, 114, 101]), (12, [105, 116, 32, 101, 110, 100, 115, 32, 116, 111, 111, 32, 101, 97, 114, 108, 121]), (3, [110, 111, 32, 112, 114, 111, 103, 114, 97, 109]), (0, [116, 111, 111, 32, 109, 97, 110, 121]), (13, [116, 111, 111, 32, 109, 97, 110, 121, 32, 115, 116, 101, 112, 115]), (14, [99, 97, 108, 108, 101, 100, 32, 116, 111, 111, 32, 100, 101, 101, 112]), (15, [116, 111, 111, 32, 98, 105, 103]), (16, [105, 116, 32, 99, 97, 110, 110, 111, 116, 32, 98, 101, 32, 115, 97, 105, 100]), (1, [110, 111, 32, 99, 111, 100, 101]), (2, [110, 111, 32, 115, 117, 99, 104, 32, 110, 117, 109, 98, 101, 114])]
theorem laid_met (os : Os) (args : Array Value) : laidMet Tryd.prog Rows.genMakesRow.laid ((wit os).forCall (fun _ _ => 0) ⟨#[], args, []⟩).memory :=
  laidMet_of_run' 8 (by kernel_rfl) (by kernel_rfl)
theorem witness_row (os : Os) {H : Type} (enc : TypeId × Value → H) :
    (OpenSpec.ofChange Rows.genMakesSpec).preRow enc Tryd.prog Tryd.f6 Rows.genMakesRow.domain false Rows.genMakesRow.laid ((wit os).forCall (fun _ _ => 0) ⟨#[], #[.slice none 0 0], []⟩).memory #[.slice none 0 0] := by
  have hw : (DataW.whole enc Tryd.prog ((wit os).forCall (fun _ _ => 0) ⟨#[], #[.slice none 0 0], []⟩).memory Tryd.f6.params.toList Rows.genMakesSpec.vars false #[Value.slice none 0 0].toList 8).map (fun x => (x.1, x.2.1)) =
      some ([.nil], []) := by kernel_rfl
  obtain ⟨⟨x1, x2, x3⟩, hx, hx1⟩ := Option.map_eq_some_iff.1 hw
  simp only [Prod.mk.injEq] at hx1
  obtain ⟨rfl, rfl⟩ := hx1
  exact OpenSpec.preRow_of_cond 8 hx (by kernel_rfl) (fun k hk => by cases hk) (by kernel_rfl) (laid_met os _)
set_option maxHeartbeats 2000000 in
theorem lifted (os : Os) (started : os.Started) (H : Type) (enc : TypeId × Value → H) (F : Stop.Interp) :
    ReturnsInHanded {} Tryd.checked os 6 .any ((OpenSpec.ofChange Rows.genMakesSpec).preRow enc Tryd.prog Tryd.f6 Rows.genMakesRow.domain false Rows.genMakesRow.laid) (((OpenSpec.ofChange Rows.genMakesSpec).at F).post enc Tryd.prog Tryd.f6 false true false false) := by
  refine returnsInHanded_of_row (C := Tryd.checked) (s := OpenSpec.ofChange Rows.genMakesSpec) own started (by kernel_rfl) Tryd.func6
    (witness_row_atRef (enc := enc) (C := Tryd.checked) false (wit os) #[.slice none 0 0] rfl (by kernel_rfl) (by kernel_rfl) (by kernel_rfl) (witness_row os enc)) ?_
  intro W base args ds gs before hval hW _ _ hwt hL _ _
  exact contract H enc W base args ds gs before hval hW hwt hL
theorem said : Rows.GenMakesSaid :=
  OpenClaim.holds_of_cond 6 Tryd.f6 rfl rfl rfl rfl rfl rfl rfl ⟨rfl, rfl, rfl, rfl, rfl⟩ rfl rfl rfl rfl rfl (by kernel_rfl) Tryd.func6 (by kernel_rfl)
    (of_decide_eq_true (by kernel_rfl)) (by unfold Func.isWrapper; first | (rw [if_pos (by decide +kernel)]; kernel_rfl) | (rw [if_neg (by decide +kernel)]; exact ⟨rfl, rfl⟩))
    (fun os started H enc _ F => by rw [OpenClaim.pre_eq_preRow]; exact lifted os started H enc F)
theorem plain (f : FuncId) (fn : Func) (hf : Tryd.pinned.checked.prog.funcNamed "patois/patoislaw23.GenMakes" = some f) (hfn : Tryd.pinned.checked.prog.funcs[f]? = some fn) :
    true = Tryd.pinned.checked.prog.looks [] ∧ ∀ (j : Nat) t, fn.params[j]? = some t → Tryd.pinned.checked.prog.wantsStandIn t = false := by
  obtain rfl : f = 6 := Option.some.inj ((show Tryd.prog.funcNamed "patois/patoislaw23.GenMakes" = some 6 by kernel_rfl).symm.trans hf) |>.symm
  obtain rfl : fn = Tryd.f6 := (Option.some.inj (Tryd.func6.symm.trans hfn)).symm
  refine ⟨by kernel_rfl, fun j t ht => ?_⟩
  have h1 : (Tryd.f6.params.all fun t => !Tryd.prog.wantsStandIn t) = true := by kernel_rfl
  have := Array.all_eq_true_iff_forall_mem.1 h1 t (Array.mem_of_getElem? ht)
  have h2 : Tryd.prog.wantsStandIn t = false := by simpa using this
  exact h2
/-- THE CARD: whatever the two numbers, GenMakes returns true; the errors that it names are tied to the program's text. -/
theorem card : Rows.GenMakesCardSaid :=
  Claim7.holds_tied_plain_at .later [] _ _ _ _ said (fun _ h => by cases h) (by kernel_rfl) (fun _ h => by cases h) genMakes_row_tie rfl ⟨rfl, rfl⟩ (by kernel_rfl) rfl plain (by kernel_rfl)
#print axioms card
end GenMakes
end Go.Proofs.YthmcfphafofheaaDoor
