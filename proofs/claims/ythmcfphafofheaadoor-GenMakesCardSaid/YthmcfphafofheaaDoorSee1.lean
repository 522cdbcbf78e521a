/- Contracts: what errors tell. No statement of the seat is proved in this file. -/
import Derived.Test.YthmcfphafofheaaDoorCodeSee
import Derived.Test.YthmcfphafofheaaDoorCore4
import Derived.Test.YthmcfphafofheaaDoorGreat
open Go Go.Proofs
namespace Go.Proofs.YthmcfphafofheaaDoor
open Pat
set_option maxRecDepth 10000
set_option maxHeartbeats 1000000
set_option linter.unusedSimpArgs false
set_option linter.unusedVariables false
variable {gs : List Nat} {s : Nat → Addr} {σ : Hp} {K : AV → Hp → Prop}
def faultAV (c : Int) (ps : List Int) : AV := .agg [.int .i64 c, ints ps]
theorem fz_fault0 {E : Env} (σ σ' : Hp) (c : Int) : Fz E σ σ' (.agg [.int .i64 c, .nils]) (faultAV c []) := Fz.agg ⟨Fz.refl _ _ _, Fz.nils _ _ _, trivial⟩
theorem part2 (v w : AV) : Pat.part true 2 [v, w] 0 = some (.agg [v, w]) := rfl
theorem splice2 (a b v w : AV) : (AV.agg [a, b]).splice 0 [v, w] = .agg [v, w] := rfl
theorem part2a (v w : AV) : Pat.part true 2 (AV.agg [v, w]).cells 0 = some (.agg [v, w]) := rfl
theorem bare_spec (c : Int) (h : K (faultAV c []) σ) : ACalls (env gs s) 54 [.int .i64 c] σ K := by
  refine A54_call rfl ?_
  unfold A54
  simp only [ev0, ev1, ev2, ev3, ev4, ev5, ev6, ev7, ev8, ev9, ev10, ew, Nat.reduceEqDiff, reduceCtorEq, Nat.reduceAdd, Nat.reduceSub, Nat.reduceMul, Nat.reduceLT, Nat.reduceLeDiff, Int.reduceLT, Int.reduceLE, Int.reduceEq, Int.reduceNe, Int.reduceAdd, Int.reduceSub, Int.reduceMul, Int.reduceNeg, Int.reduceToNat]
  intro b hb
  try simp only [ev0, ev1, ev2, ev3, ev4, ev5, ev6, ev7, ev8, ev9, ev10, ew, Nat.reduceEqDiff, reduceCtorEq, Nat.reduceAdd, Nat.reduceSub, Nat.reduceMul, Nat.reduceLT, Nat.reduceLeDiff, Int.reduceLT, Int.reduceLE, Int.reduceEq, Int.reduceNe, Int.reduceAdd, Int.reduceSub, Int.reduceMul, Int.reduceNeg, Int.reduceToNat]
  refine ⟨by simp [partsOk, avc], ?_⟩; simp only [fillA, avc, List.take, List.drop, List.cons_append, List.nil_append, List.length_cons, List.length_nil, Nat.reduceAdd, ev0, ev1, ev2, ev3, ev4, ev5, ev6, ev7, ev8, ev9, ev10, ew, Nat.reduceEqDiff, reduceCtorEq, Nat.reduceAdd, Nat.reduceSub, Nat.reduceMul, Nat.reduceLT, Nat.reduceLeDiff, Int.reduceLT, Int.reduceLE, Int.reduceEq, Int.reduceNe, Int.reduceAdd, Int.reduceSub, Int.reduceMul, Int.reduceNeg, Int.reduceToNat]
  try simp only [ev0, ev1, ev2, ev3, ev4, ev5, ev6, ev7, ev8, ev9, ev10, ew, Nat.reduceEqDiff, reduceCtorEq, Nat.reduceAdd, Nat.reduceSub, Nat.reduceMul, Nat.reduceLT, Nat.reduceLeDiff, Int.reduceLT, Int.reduceLE, Int.reduceEq, Int.reduceNe, Int.reduceAdd, Int.reduceSub, Int.reduceMul, Int.reduceNeg, Int.reduceToNat, upd_same, upd_upd, List.set_cons_zero, avc, splice2]
  refine ⟨by simp [AV.scalar], ?_⟩
  rw [q_retc1 (b := b) (i := 0) (off := 0) (sz' := 2) 2 2 (by simp only [ev0, ev1, ev2, ev3, ev4, ev5, ev6, ev7, ev8, ev9, ev10, ew, Nat.reduceEqDiff, reduceCtorEq, Nat.reduceAdd, Nat.reduceSub, Nat.reduceMul, Nat.reduceLT, Nat.reduceLeDiff, Int.reduceLT, Int.reduceLE, Int.reduceEq, Int.reduceNe, Int.reduceAdd, Int.reduceSub, Int.reduceMul, Int.reduceNeg, Int.reduceToNat]) (upd_same _ _) rfl (part2a _ _)]
  exact Ret.as (Sub.upd hb) (fz_fault0 _ _ _) h
theorem none_spec (h : K (faultAV 0 []) σ) : ACalls (env gs s) 59 [] σ K := by
  refine A59_call rfl ?_
  unfold A59
  simp only [ev0, ev1, ev2, ev3, ev4, ev5, ev6, ev7, ev8, ev9, ev10, ew, Nat.reduceEqDiff, reduceCtorEq, Nat.reduceAdd, Nat.reduceSub, Nat.reduceMul, Nat.reduceLT, Nat.reduceLeDiff, Int.reduceLT, Int.reduceLE, Int.reduceEq, Int.reduceNe, Int.reduceAdd, Int.reduceSub, Int.reduceMul, Int.reduceNeg, Int.reduceToNat]
  intro b hb
  try simp only [ev0, ev1, ev2, ev3, ev4, ev5, ev6, ev7, ev8, ev9, ev10, ew, Nat.reduceEqDiff, reduceCtorEq, Nat.reduceAdd, Nat.reduceSub, Nat.reduceMul, Nat.reduceLT, Nat.reduceLeDiff, Int.reduceLT, Int.reduceLE, Int.reduceEq, Int.reduceNe, Int.reduceAdd, Int.reduceSub, Int.reduceMul, Int.reduceNeg, Int.reduceToNat]
  refine ⟨by simp [partsOk, avc], ?_⟩; simp only [fillA, avc, List.take, List.drop, List.cons_append, List.nil_append, List.length_cons, List.length_nil, Nat.reduceAdd, ev0, ev1, ev2, ev3, ev4, ev5, ev6, ev7, ev8, ev9, ev10, ew, Nat.reduceEqDiff, reduceCtorEq, Nat.reduceAdd, Nat.reduceSub, Nat.reduceMul, Nat.reduceLT, Nat.reduceLeDiff, Int.reduceLT, Int.reduceLE, Int.reduceEq, Int.reduceNe, Int.reduceAdd, Int.reduceSub, Int.reduceMul, Int.reduceNeg, Int.reduceToNat]
  try simp only [ev0, ev1, ev2, ev3, ev4, ev5, ev6, ev7, ev8, ev9, ev10, ew, Nat.reduceEqDiff, reduceCtorEq, Nat.reduceAdd, Nat.reduceSub, Nat.reduceMul, Nat.reduceLT, Nat.reduceLeDiff, Int.reduceLT, Int.reduceLE, Int.reduceEq, Int.reduceNe, Int.reduceAdd, Int.reduceSub, Int.reduceMul, Int.reduceNeg, Int.reduceToNat, upd_same, upd_upd, List.set_cons_zero, avc, splice2]
  refine ⟨by simp [AV.scalar], ?_⟩
  rw [q_retc1 (b := b) (i := 0) (off := 0) (sz' := 2) 0 2 (by simp only [ev0, ev1, ev2, ev3, ev4, ev5, ev6, ev7, ev8, ev9, ev10, ew, Nat.reduceEqDiff, reduceCtorEq, Nat.reduceAdd, Nat.reduceSub, Nat.reduceMul, Nat.reduceLT, Nat.reduceLeDiff, Int.reduceLT, Int.reduceLE, Int.reduceEq, Int.reduceNe, Int.reduceAdd, Int.reduceSub, Int.reduceMul, Int.reduceNeg, Int.reduceToNat]) (upd_same _ _) rfl (part2a _ _)]
  exact Ret.as (Sub.upd hb) (fz_fault0 _ _ _) h
theorem around2_spec (c : Int) (ps : List Int) (p : Int) (hc : c ≠ 0) (hl : ps.length ≤ 1000000) (h : K (faultAV c (p :: ps)) σ) : ACalls (env gs s) 104 [faultAV c ps, .int .i64 p] σ K := by
  refine A104_call rfl ?_
  unfold A104
  simp only [ev0, ev1, ev2, ev3, ev4, ev5, ev6, ev7, ev8, ev9, ev10, ew, Nat.reduceEqDiff, reduceCtorEq, Nat.reduceAdd, Nat.reduceSub, Nat.reduceMul, Nat.reduceLT, Nat.reduceLeDiff, Int.reduceLT, Int.reduceLE, Int.reduceEq, Int.reduceNe, Int.reduceAdd, Int.reduceSub, Int.reduceMul, Int.reduceNeg, Int.reduceToNat, faultAV, avc]
  intro b hb
  simp only [ev0, ev1, ev2, ev3, ev4, ev5, ev6, ev7, ev8, ev9, ev10, ew, Nat.reduceEqDiff, reduceCtorEq, Nat.reduceAdd, Nat.reduceSub, Nat.reduceMul, Nat.reduceLT, Nat.reduceLeDiff, Int.reduceLT, Int.reduceLE, Int.reduceEq, Int.reduceNe, Int.reduceAdd, Int.reduceSub, Int.reduceMul, Int.reduceNeg, Int.reduceToNat, part_f, avc, hc]
  refine DT104_3_go ?_
  unfold DT104_3
  have hne : ∀ {b' : Nat} {X : ABlk}, (σ.upd b X) b' = none → b' ≠ b := fun h e => by rw [e, upd_same] at h; cases h
  repeat' first
    | simp only [ev0, ev1, ev2, ev3, ev4, ev5, ev6, ev7, ev8, ev9, ev10, ew, Nat.reduceEqDiff, reduceCtorEq, Nat.reduceAdd, Nat.reduceSub, Nat.reduceMul, Nat.reduceLT, Nat.reduceLeDiff, Int.reduceLT, Int.reduceLE, Int.reduceEq, Int.reduceNe, Int.reduceAdd, Int.reduceSub, Int.reduceMul, Int.reduceNeg, Int.reduceToNat, part_f, avc, ints, view]
    | with_reducible refine And.intro ?_ ?_
    | intro b' hb'
  all_goals
    refine (Lst.one hb').app (ys := List.map (AV.int .i64) ps) (by simp [AV.cells]) (by simp [AV.cells, AV.scalar]) (by simp; omega) fun v' σ'' hv' => ?_
    obtain ⟨b2, hb2, rfl, rfl⟩ := hv'.ne (by simp)
    have hne2 : b ≠ b2 := (hne hb2).symm
    have hb20 : σ b2 = none := by rwa [upd_ne hne2.symm] at hb2
    have hlen : ([AV.int IntKind.i64 p] ++ List.map (AV.int IntKind.i64) ps).length = ps.length + 1 := by simp
    rw [hlen]
    have hfill : ∀ v w : AV, fillA [AV.int .i64 0, AV.nils] [(0, [v]), (1, [w])] = [v, w] := fun _ _ => rfl
    simp only [ev0, ev1, ev2, ev3, ev4, ev5, ev6, ev7, ev8, ev9, ev10, ew, Nat.reduceEqDiff, reduceCtorEq, Nat.reduceAdd, Nat.reduceSub, Nat.reduceMul, Nat.reduceLT, Nat.reduceLeDiff, Int.reduceLT, Int.reduceLE, Int.reduceEq, Int.reduceNe, Int.reduceAdd, Int.reduceSub, Int.reduceMul, Int.reduceNeg, Int.reduceToNat, part_f, avc]
    refine ⟨by simp [partsOk, avc], ?_⟩
    simp only [ev0, ev1, ev2, ev3, ev4, ev5, ev6, ev7, ev8, ev9, ev10, ew, Nat.reduceEqDiff, reduceCtorEq, Nat.reduceAdd, Nat.reduceSub, Nat.reduceMul, Nat.reduceLT, Nat.reduceLeDiff, Int.reduceLT, Int.reduceLE, Int.reduceEq, Int.reduceNe, Int.reduceAdd, Int.reduceSub, Int.reduceMul, Int.reduceNeg, Int.reduceToNat, upd_ne hne2, upd_same, hfill, splice2, List.set_cons_zero, avc]
    refine ⟨by simp [AV.scalar], ?_⟩
    rw [q_retc1 (b := b) (i := 0) (off := 0) (sz' := 2) 4 2 (by simp only [ev0, ev1, ev2, ev3, ev4, ev5, ev6, ev7, ev8, ev9, ev10, ew, Nat.reduceEqDiff, reduceCtorEq, Nat.reduceAdd, Nat.reduceSub, Nat.reduceMul, Nat.reduceLT, Nat.reduceLeDiff, Int.reduceLT, Int.reduceLE, Int.reduceEq, Int.reduceNe, Int.reduceAdd, Int.reduceSub, Int.reduceMul, Int.reduceNeg, Int.reduceToNat]) (upd_same _ _) rfl (part2a _ _)]
    have hrow : (AV.int IntKind.i64 p :: List.map (AV.int IntKind.i64) ps) = (p :: ps).map (AV.int .i64) := rfl
    rw [hrow]
    refine Ret.as (v' := faultAV c (p :: ps)) (σ' := σ) ?_ (Fz.agg ⟨Fz.refl _ _ _, ?_, trivial⟩) h
    · exact sub_upd (sub_upd (sub_upd (Sub.refl _) hb) hb20) hb
    · have := Fz.own (E := env gs s) (σ := ((σ.upd b (.row 2 [.agg [.int .i64 0, .nils]])).upd b2 (.row 1 ((p :: ps).map (AV.int .i64)))).upd b (.row 2 [.agg [.int .i64 c, .own b2 1 0 (ps.length + 1)]])) (σ' := σ) (b := b2) (sz := 1) (i := 0) (n := ps.length + 1) (els := (p :: ps).map (AV.int .i64)) (upd_some hne2.symm (upd_same _ _)) (by simp) hb20
      have hl2 : ((p :: ps).map (AV.int .i64)).length = ps.length + 1 := by simp
      rwa [List.drop_zero, ← hl2, List.take_length, hl2] at this
/-! The errors -/
inductive Er where
  | sent (i : Nat)
  | at' (pos : Int) (e : Er)
def sentG : List Nat := [5, 4, 6, 7, 8, 9, 10, 11, 12, 3, 0, 13, 14, 15, 16, 1, 2]
def Er.av : Er → AV
  | .sent i => errSent (sentG.getD i 0)
  | .at' p e => errAt p e.av
def Er.code : Er → Int
  | .sent i => 101 + i
  | .at' _ e => e.code
def Er.places : Er → List Int
  | .sent _ => []
  | .at' p e => p :: e.places
def Er.fit : Nat → Er → Prop
  | _, .sent i => i < 17
  | 0, .at' _ _ => False
  | n + 1, .at' _ e => e.fit n
theorem Er.code_ne : ∀ {e : Er}, e.code ≠ 0
  | .sent i => by simp only [Er.code]; omega
  | .at' _ e => e.code_ne
theorem Er.places_len : ∀ (n : Nat) (e : Er), e.fit n → e.places.length ≤ n
  | n, .sent i, _ => by simp [Er.places]
  | 0, .at' _ _, h => h.elim
  | n + 1, .at' _ e, h => by have := Er.places_len n e h; simp only [Er.places, List.length_cons]; omega
theorem sentG_inj : ∀ i j : Fin 17, (sentG.getD i.val 0 = sentG.getD j.val 0) ↔ i = j := by decide +kernel
theorem alike_spec (hg : ∀ g ∈ sentG, g ∈ gs) (i j : Nat) (hi : i < 17) (hj : j < 17) (h : K (.bool (decide (i = j))) σ) : ACalls (env gs s) 146 [errSent (sentG.getD i 0), errSent (sentG.getD j 0)] σ K := by
  refine A146_call rfl ?_
  unfold A146
  have hm : ∀ i, i < 17 → sentG.getD i 0 ∈ gs := fun i hi => hg _ (by
    have : i < sentG.length := hi
    rw [List.getD_eq_getElem?_getD, List.getElem?_eq_getElem this]; exact List.getElem_mem _)
  have he : (sentG.getD i 0 == sentG.getD j 0) = decide (i = j) := by
    have := sentG_inj ⟨i, hi⟩ ⟨j, hj⟩
    dsimp only at this
    rw [Bool.eq_iff_iff]
    simp only [beq_iff_eq, decide_eq_true_eq]
    rw [this]; simp
  simp only [ev0, ev1, ev2, ev3, ev4, ev5, ev6, ev7, ev8, ev9, ev10, ew, Nat.reduceEqDiff, reduceCtorEq, Nat.reduceAdd, Nat.reduceSub, Nat.reduceMul, Nat.reduceLT, Nat.reduceLeDiff, Int.reduceLT, Int.reduceLE, Int.reduceEq, Int.reduceNe, Int.reduceAdd, Int.reduceSub, Int.reduceMul, Int.reduceNeg, Int.reduceToNat, errSent, env_sent (hm i hi), env_sent (hm j hj), he, q_ret1]
  exact Ret.here h
theorem sentinels_spec (hg : ∀ g ∈ sentG, g ∈ gs) (h : K (.rd 1 (sentG.map errSent)) σ) : ACalls (env gs s) 145 [] σ K := by
  refine A145_call rfl ?_
  unfold A145
  simp only [ev0, ev1, ev2, ev3, ev4, ev5, ev6, ev7, ev8, ev9, ev10, ew, Nat.reduceEqDiff, reduceCtorEq, Nat.reduceAdd, Nat.reduceSub, Nat.reduceMul, Nat.reduceLT, Nat.reduceLeDiff, Int.reduceLT, Int.reduceLE, Int.reduceEq, Int.reduceNe, Int.reduceAdd, Int.reduceSub, Int.reduceMul, Int.reduceNeg, Int.reduceToNat, env_sent (hg 5 (by decide)), env_sent (hg 4 (by decide)), env_sent (hg 6 (by decide)), env_sent (hg 7 (by decide)), env_sent (hg 8 (by decide)), env_sent (hg 9 (by decide)), env_sent (hg 10 (by decide)), env_sent (hg 11 (by decide)), env_sent (hg 12 (by decide)), env_sent (hg 3 (by decide)), env_sent (hg 0 (by decide)), env_sent (hg 13 (by decide)), env_sent (hg 14 (by decide)), env_sent (hg 15 (by decide)), env_sent (hg 16 (by decide)), env_sent (hg 1 (by decide)), env_sent (hg 2 (by decide))]
  refine bsl_row rfl (by simp [AV.one]) fun b hb => ?_
  simp only [ev0, ev1, ev2, ev3, ev4, ev5, ev6, ev7, ev8, ev9, ev10, ew, Nat.reduceEqDiff, reduceCtorEq, Nat.reduceAdd, Nat.reduceSub, Nat.reduceMul, Nat.reduceLT, Nat.reduceLeDiff, Int.reduceLT, Int.reduceLE, Int.reduceEq, Int.reduceNe, Int.reduceAdd, Int.reduceSub, Int.reduceMul, Int.reduceNeg, Int.reduceToNat]
  have hq : ∀ {sl : Slots} {σ' : Hp}, bodyQ (env gs s) [.t 0] K .ret sl σ' = Ret (env gs s) K (sl 0) σ' := q_ret1 0
  rw [hq]
  have := Fz.own (E := env gs s) (σ := σ.upd b (.row 1 (sentG.map errSent))) (σ' := σ) (b := b) (sz := 1) (i := 0) (n := 17) (els := sentG.map errSent) (upd_same _ _) (by simp [sentG]) hb
  exact Ret.as (Sub.upd hb) this h
theorem sentinel_spec (hg : ∀ g ∈ sentG, g ∈ gs) (i : Nat) (hi : i < 17) (h : K (.int .i64 (101 + i)) σ) : ACalls (env gs s) 105 [errSent (sentG.getD i 0)] σ K := by
  refine A105_call rfl ?_
  unfold A105
  simp only [ev0, ev1, ev2, ev3, ev4, ev5, ev6, ev7, ev8, ev9, ev10, ew, Nat.reduceEqDiff, reduceCtorEq, Nat.reduceAdd, Nat.reduceSub, Nat.reduceMul, Nat.reduceLT, Nat.reduceLeDiff, Int.reduceLT, Int.reduceLE, Int.reduceEq, Int.reduceNe, Int.reduceAdd, Int.reduceSub, Int.reduceMul, Int.reduceNeg, Int.reduceToNat]
  refine go_callI (sentinels_spec hg ?_)
  simp only [ev0, ev1, ev2, ev3, ev4, ev5, ev6, ev7, ev8, ev9, ev10, ew, Nat.reduceEqDiff, reduceCtorEq, Nat.reduceAdd, Nat.reduceSub, Nat.reduceMul, Nat.reduceLT, Nat.reduceLeDiff, Int.reduceLT, Int.reduceLE, Int.reduceEq, Int.reduceNe, Int.reduceAdd, Int.reduceSub, Int.reduceMul, Int.reduceNeg, Int.reduceToNat]
  refine go_block ?_
  refine go_loop W105_0 [0, 3] [errSent (sentG.getD i 0), .rd 1 (sentG.map errSent)] [4] (fun n vs σ' => ∃ j : Nat, vs = [.int .i64 j] ∧ σ' = σ ∧ n + j = i ∧ j ≤ i) A105_0_wr rfl ?_ ?_ ?_
  · simp only [ev0, ev1, ev2, ev3, ev4, ev5, ev6, ev7, ev8, ev9, ev10, ew, Nat.reduceEqDiff, reduceCtorEq, Nat.reduceAdd, Nat.reduceSub, Nat.reduceMul, Nat.reduceLT, Nat.reduceLeDiff, Int.reduceLT, Int.reduceLE, Int.reduceEq, Int.reduceNe, Int.reduceAdd, Int.reduceSub, Int.reduceMul, Int.reduceNeg, Int.reduceToNat]
  · refine ⟨_, _, _, Sub.refl _, FzL.refl _ _ _, 0, ?_, rfl, rfl, by omega⟩
    simp only [ev0, ev1, ev2, ev3, ev4, ev5, ev6, ev7, ev8, ev9, ev10, ew, Nat.reduceEqDiff, reduceCtorEq, Nat.reduceAdd, Nat.reduceSub, Nat.reduceMul, Nat.reduceLT, Nat.reduceLeDiff, Int.reduceLT, Int.reduceLE, Int.reduceEq, Int.reduceNe, Int.reduceAdd, Int.reduceSub, Int.reduceMul, Int.reduceNeg, Int.reduceToNat]
  · rintro n vs σ' - ⟨j, rfl, rfl, hn, hj⟩
    unfold A105_0
    have hl : (sentG.map errSent).length = 17 := rfl
    have hj17 : (j : Int) < ((17 : Nat) : Int) := by omega
    have hjl : j < sentG.length := by show j < 17; omega
    have hx : (sentG.map errSent)[j]? = some (errSent (sentG.getD j 0)) := by
      rw [List.getElem?_map, List.getElem?_eq_getElem hjl, List.getD_eq_getElem?_getD, List.getElem?_eq_getElem hjl]; rfl
    have hp : ∀ g, Pat.part false 1 (errSent g).cells 0 = some (errSent g) := fun _ => rfl
    have hw : IntKind.i64.wrap ((j : Int) + 1) = (j + 1 : Nat) := i64_id _ (by omega) (by omega)
    have hw2 : IntKind.i64.wrap (101 + (j : Int)) = 101 + j := i64_id _ (by omega) (by omega)
    generalize sentG.map errSent = SG at hl hx
    simp only [ev0, ev1, ev2, ev3, ev4, ev5, ev6, ev7, ev8, ev9, ev10, ew, Nat.reduceEqDiff, reduceCtorEq, Nat.reduceAdd, Nat.reduceSub, Nat.reduceMul, Nat.reduceLT, Nat.reduceLeDiff, Int.reduceLT, Int.reduceLE, Int.reduceEq, Int.reduceNe, Int.reduceAdd, Int.reduceSub, Int.reduceMul, Int.reduceNeg, Int.reduceToNat, hl, hj17]
    refine go_block ?_
    simp only [ev0, ev1, ev2, ev3, ev4, ev5, ev6, ev7, ev8, ev9, ev10, ew, Nat.reduceEqDiff, reduceCtorEq, Nat.reduceAdd, Nat.reduceSub, Nat.reduceMul, Nat.reduceLT, Nat.reduceLeDiff, Int.reduceLT, Int.reduceLE, Int.reduceEq, Int.reduceNe, Int.reduceAdd, Int.reduceSub, Int.reduceMul, Int.reduceNeg, Int.reduceToNat, hx, hp]
    refine go_callI (alike_spec hg i j hi (by omega) ?_)
    by_cases hij : i = j
    · subst hij
      simp only [ev0, ev1, ev2, ev3, ev4, ev5, ev6, ev7, ev8, ev9, ev10, ew, Nat.reduceEqDiff, reduceCtorEq, Nat.reduceAdd, Nat.reduceSub, Nat.reduceMul, Nat.reduceLT, Nat.reduceLeDiff, Int.reduceLT, Int.reduceLE, Int.reduceEq, Int.reduceNe, Int.reduceAdd, Int.reduceSub, Int.reduceMul, Int.reduceNeg, Int.reduceToNat, hw2, loop_ret, kont_gox, q_ret1]
      exact Ret.here h
    · simp only [ev0, ev1, ev2, ev3, ev4, ev5, ev6, ev7, ev8, ev9, ev10, ew, Nat.reduceEqDiff, reduceCtorEq, Nat.reduceAdd, Nat.reduceSub, Nat.reduceMul, Nat.reduceLT, Nat.reduceLeDiff, Int.reduceLT, Int.reduceLE, Int.reduceEq, Int.reduceNe, Int.reduceAdd, Int.reduceSub, Int.reduceMul, Int.reduceNeg, Int.reduceToNat, hij, hw]
      refine loop_next (n - 1) (by omega) ⟨j + 1, ?_, rfl, by omega, by omega⟩
      simp only [ev0, ev1, ev2, ev3, ev4, ev5, ev6, ev7, ev8, ev9, ev10, ew, Nat.reduceEqDiff, reduceCtorEq, Nat.reduceAdd, Nat.reduceSub, Nat.reduceMul, Nat.reduceLT, Nat.reduceLeDiff, Int.reduceLT, Int.reduceLE, Int.reduceEq, Int.reduceNe, Int.reduceAdd, Int.reduceSub, Int.reduceMul, Int.reduceNeg, Int.reduceToNat]
end Go.Proofs.YthmcfphafofheaaDoor
