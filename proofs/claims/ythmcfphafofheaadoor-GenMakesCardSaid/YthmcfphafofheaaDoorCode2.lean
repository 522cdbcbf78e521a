/- Contracts: what code may be. No statement of the seat is proved in this file. -/
import Derived.Test.YthmcfphafofheaaDoorGen8
open Go Go.Proofs
namespace Go.Proofs.YthmcfphafofheaaDoor
open Pat
set_option maxRecDepth 10000
set_option maxHeartbeats 1000000
set_option linter.unusedSimpArgs false
set_option linter.unusedVariables false
variable {gs : List Nat} {s : Nat → Addr} {σ : Hp} {K : AV → Hp → Prop}
def namesL : List (List UInt8) := [[], [108, 105, 116], [118, 97, 114], [99, 97, 116], [106, 111, 105, 110], [115, 112, 108, 105, 116], [103, 108, 111, 98], [112, 108, 97, 105, 110], [101, 115, 99], [102, 108, 97, 116], [99, 111, 117, 110, 116], [112, 105, 99, 107], [115, 117, 98, 105, 110], [115, 117, 98, 111, 117, 116], [116, 105, 99, 107], [99, 97, 108, 108], [115, 101, 116], [115, 116, 97, 116, 117, 115], [106, 117, 109, 112], [102, 97, 105, 108], [103, 111, 111, 100], [102, 111, 114, 105, 110], [102, 111, 114, 110, 101, 120, 116], [99, 97, 115, 101, 105, 110], [99, 97, 115, 101, 116, 101, 115, 116], [99, 97, 115, 101, 111, 117, 116], [102, 117, 110], [112, 105, 112, 101, 105, 110], [112, 105, 112, 101, 110, 101, 120, 116], [112, 105, 112, 101, 111, 117, 116], [114, 101, 100, 105, 114, 105, 110], [114, 101, 100, 105, 114, 111, 117, 116], [104, 101, 114, 101, 105, 110], [104, 101, 114, 101, 111, 117, 116], [108, 111, 99, 97, 108, 105, 110], [108, 111, 99, 97, 108, 111, 117, 116], [110, 111, 116], [101, 118, 97, 108], [102, 114, 97, 109, 101, 105, 110], [102, 114, 97, 109, 101, 111, 117, 116], [114, 101, 116], [104, 97, 108, 116]]
def nameOf (op : Int) : List UInt8 := if op < 1 ∨ 41 < op then [] else namesL.getD op.toNat []
theorem names_spec (h : K (.agg (namesL.map AV.str)) σ) : ACalls (env gs s) 129 [] σ K := by
  refine A129_call rfl ?_
  unfold A129
  rw [go_seq, go_ops, go_alloc]
  intro b hb
  rw [go_nil, gox_code, go_seq, go_ops, go_build]
  refine ⟨by rfl, ?_⟩
  refine Eq.mpr (β := GoO (env gs s) 2 (bodyQ (env gs s) [ARes.cell 0 true 42] K) [⟨none, .store 42 (.t 0) (.t 1), none⟩] [Fr.code .ret] (((Slots.init []).put (some 0) (AV.ptr b 42 0 0)).put (some 1) (AV.agg (namesL.map AV.str))) (σ.upd b (.row 42 [.agg (List.replicate 42 (.str []))]))) ?_ ?_
  · kernel_rfl
  have hspl : ∀ z cs : List AV, z.length = cs.length → (AV.agg z).splice 0 cs = .agg cs := fun z cs hz => by simp [AV.splice, hz]
  generalize hz : (AV.agg (List.map AV.str namesL)) = Z
  have hzc : Z.cells.length = 42 := by rw [← hz]; rfl
  have hzs : ∀ y ∈ Z.cells, y.scalar = true := by
    rw [← hz]; intro y hy
    obtain ⟨x, _, rfl⟩ := List.mem_map.1 hy
    rfl
  have hsp : (AV.agg (List.replicate 42 (AV.str []))).splice 0 Z.cells = Z := by rw [hspl _ _ (by rw [hzc]; rfl), ← hz]; rfl
  simp only [ev0, ev1, ev2, ev3, ev4, ev5, ev6, ev7, ev8, ev9, ev10, ew, Nat.reduceEqDiff, reduceCtorEq, Nat.reduceAdd, Nat.reduceSub, Nat.reduceMul, Nat.reduceLT, Nat.reduceLeDiff, Int.reduceLT, Int.reduceLE, Int.reduceEq, Int.reduceNe, Int.reduceAdd, Int.reduceSub, Int.reduceMul, Int.reduceNeg, Int.reduceToNat, upd_same, avc, upd_upd, List.set_cons_zero, hsp]
  refine ⟨⟨hzc, hzs, by simp⟩, ?_⟩
  rw [q_retc1 (b := b) (i := 0) (off := 0) (sz' := 42) (x := Z) (v := Z) 0 42 (by simp only [ev0, ev1, ev2, ev3, ev4, ev5, ev6, ev7, ev8, ev9, ev10, ew, Nat.reduceEqDiff, reduceCtorEq, Nat.reduceAdd, Nat.reduceSub, Nat.reduceMul, Nat.reduceLT, Nat.reduceLeDiff, Int.reduceLT, Int.reduceLE, Int.reduceEq, Int.reduceNe, Int.reduceAdd, Int.reduceSub, Int.reduceMul, Int.reduceNeg, Int.reduceToNat]) (upd_same _ _) rfl (by rw [← hz]; rfl)]
  rw [← hz]
  exact Ret.less (Sub.upd hb) h
theorem jumps_spec (op : Int) (h : K (.tuple [.bool (decide (op ∈ [18, 19, 20, 22, 24, 26])), .bool (decide (op = 30) || decide (op = 26))]) σ) : ACalls (env gs s) 35 [.int .i64 op] σ K := by
  refine A35_call rfl ?_
  unfold A35
  simp only [ev0, ev1, ev2, ev3, ev4, ev5, ev6, ev7, ev8, ev9, ev10, ew, Nat.reduceEqDiff, reduceCtorEq, Nat.reduceAdd, Nat.reduceSub, Nat.reduceMul, Nat.reduceLT, Nat.reduceLeDiff, Int.reduceLT, Int.reduceLE, Int.reduceEq, Int.reduceNe, Int.reduceAdd, Int.reduceSub, Int.reduceMul, Int.reduceNeg, Int.reduceToNat]
  refine blit_row rfl (by simp [AV.one]) ?_
  simp only [ev0, ev1, ev2, ev3, ev4, ev5, ev6, ev7, ev8, ev9, ev10, ew, Nat.reduceEqDiff, reduceCtorEq, Nat.reduceAdd, Nat.reduceSub, Nat.reduceMul, Nat.reduceLT, Nat.reduceLeDiff, Int.reduceLT, Int.reduceLE, Int.reduceEq, Int.reduceNe, Int.reduceAdd, Int.reduceSub, Int.reduceMul, Int.reduceNeg, Int.reduceToNat]
  refine go_callI (contains_spec [18, 19, 20, 22, 24, 26] op (by simp) ?_)
  by_cases h1 : op = 30
  · subst h1
    simp only [ev0, ev1, ev2, ev3, ev4, ev5, ev6, ev7, ev8, ev9, ev10, ew, Nat.reduceEqDiff, reduceCtorEq, Nat.reduceAdd, Nat.reduceSub, Nat.reduceMul, Nat.reduceLT, Nat.reduceLeDiff, Int.reduceLT, Int.reduceLE, Int.reduceEq, Int.reduceNe, Int.reduceAdd, Int.reduceSub, Int.reduceMul, Int.reduceNeg, Int.reduceToNat, q_ret2]
    exact Ret.here (by simpa using h)
  · simp only [h1, decide_false, Bool.false_or] at h
    simp only [ev0, ev1, ev2, ev3, ev4, ev5, ev6, ev7, ev8, ev9, ev10, ew, Nat.reduceEqDiff, reduceCtorEq, Nat.reduceAdd, Nat.reduceSub, Nat.reduceMul, Nat.reduceLT, Nat.reduceLeDiff, Int.reduceLT, Int.reduceLE, Int.reduceEq, Int.reduceNe, Int.reduceAdd, Int.reduceSub, Int.reduceMul, Int.reduceNeg, Int.reduceToNat, h1, q_ret2]
    exact Ret.here h
def placesL (x : Ins) : List Int := (if x.op ∈ [18, 19, 20, 22, 24, 26] then [x.a] else []) ++ (if x.op = 30 ∨ x.op = 26 then [x.b] else [])
theorem inp : (∀ x : Ins, Pat.part false 1 x.av.cells 0 = some (.int .i64 x.op)) ∧ (∀ x : Ins, Pat.part false 1 x.av.cells 1 = some (.int .i64 x.a)) ∧ (∀ x : Ins, Pat.part false 1 x.av.cells 2 = some (.int .i64 x.b)) ∧ (∀ x : Ins, Pat.part false 1 x.av.cells 3 = some (.str x.str)) ∧
    (∀ x : Ins, x.av.cells.length = 4) ∧ (∀ x : Ins, x.av.known = true) ∧ (∀ x : Ins, Pat.part true 4 x.av.cells 0 = some x.av) := ⟨fun _ => rfl, fun _ => rfl, fun _ => rfl, fun _ => rfl, fun _ => rfl, fun _ => rfl, fun _ => rfl⟩
theorem places_spec (x : Ins) (h : K (ints (placesL x)) σ) : ACalls (env gs s) 66 [x.av] σ K := by
  refine A66_call rfl ?_
  unfold A66
  simp only [ev0, ev1, ev2, ev3, ev4, ev5, ev6, ev7, ev8, ev9, ev10, ew, Nat.reduceEqDiff, reduceCtorEq, Nat.reduceAdd, Nat.reduceSub, Nat.reduceMul, Nat.reduceLT, Nat.reduceLeDiff, Int.reduceLT, Int.reduceLE, Int.reduceEq, Int.reduceNe, Int.reduceAdd, Int.reduceSub, Int.reduceMul, Int.reduceNeg, Int.reduceToNat, inp]
  refine go_callI (jumps_spec x.op ?_)
  have hs : ∀ n : Int, (∀ y ∈ [AV.int .i64 n], y.cells.length = 1) ∧ (∀ y ∈ [AV.int .i64 n], ∀ c ∈ y.cells, c.scalar = true) := fun n => ⟨by simp [AV.cells], by simp [AV.cells, AV.scalar]⟩
  by_cases h1 : x.op ∈ [18, 19, 20, 22, 24, 26] <;> by_cases h2 : x.op = 30 ∨ x.op = 26
  · have e2 : (decide (x.op = 30) || decide (x.op = 26)) = true := by simpa using h2
    have hp : placesL x = [x.a, x.b] := by simp only [placesL, if_pos h1, if_pos h2]; rfl
    simp only [ev0, ev1, ev2, ev3, ev4, ev5, ev6, ev7, ev8, ev9, ev10, ew, Nat.reduceEqDiff, reduceCtorEq, Nat.reduceAdd, Nat.reduceSub, Nat.reduceMul, Nat.reduceLT, Nat.reduceLeDiff, Int.reduceLT, Int.reduceLE, Int.reduceEq, Int.reduceNe, Int.reduceAdd, Int.reduceSub, Int.reduceMul, Int.reduceNeg, Int.reduceToNat, inp, h1, e2, view]
    refine (Lst.nil σ 1).app (hs _).1 (hs _).2 (by simp) fun v σ1 hv => ?_
    simp only [ev0, ev1, ev2, ev3, ev4, ev5, ev6, ev7, ev8, ev9, ev10, ew, Nat.reduceEqDiff, reduceCtorEq, Nat.reduceAdd, Nat.reduceSub, Nat.reduceMul, Nat.reduceLT, Nat.reduceLeDiff, Int.reduceLT, Int.reduceLE, Int.reduceEq, Int.reduceNe, Int.reduceAdd, Int.reduceSub, Int.reduceMul, Int.reduceNeg, Int.reduceToNat, inp, view]
    refine hv.app (hs _).1 (hs _).2 (by simp) fun v2 σ2 hv2 => ?_
    simp only [ev0, ev1, ev2, ev3, ev4, ev5, ev6, ev7, ev8, ev9, ev10, ew, Nat.reduceEqDiff, reduceCtorEq, Nat.reduceAdd, Nat.reduceSub, Nat.reduceMul, Nat.reduceLT, Nat.reduceLeDiff, Int.reduceLT, Int.reduceLE, Int.reduceEq, Int.reduceNe, Int.reduceAdd, Int.reduceSub, Int.reduceMul, Int.reduceNeg, Int.reduceToNat, q_ret1]
    refine Ret.as hv2.sub hv2.fz ?_
    rw [hp] at h; exact h
  · have e2 : (decide (x.op = 30) || decide (x.op = 26)) = false := by simpa using h2
    have hp : placesL x = [x.a] := by simp only [placesL, if_pos h1, if_neg h2]; rfl
    simp only [ev0, ev1, ev2, ev3, ev4, ev5, ev6, ev7, ev8, ev9, ev10, ew, Nat.reduceEqDiff, reduceCtorEq, Nat.reduceAdd, Nat.reduceSub, Nat.reduceMul, Nat.reduceLT, Nat.reduceLeDiff, Int.reduceLT, Int.reduceLE, Int.reduceEq, Int.reduceNe, Int.reduceAdd, Int.reduceSub, Int.reduceMul, Int.reduceNeg, Int.reduceToNat, inp, h1, e2, view]
    refine (Lst.nil σ 1).app (hs _).1 (hs _).2 (by simp) fun v σ1 hv => ?_
    simp only [ev0, ev1, ev2, ev3, ev4, ev5, ev6, ev7, ev8, ev9, ev10, ew, Nat.reduceEqDiff, reduceCtorEq, Nat.reduceAdd, Nat.reduceSub, Nat.reduceMul, Nat.reduceLT, Nat.reduceLeDiff, Int.reduceLT, Int.reduceLE, Int.reduceEq, Int.reduceNe, Int.reduceAdd, Int.reduceSub, Int.reduceMul, Int.reduceNeg, Int.reduceToNat, q_ret1]
    refine Ret.as hv.sub hv.fz ?_
    rw [hp] at h; exact h
  · have e2 : (decide (x.op = 30) || decide (x.op = 26)) = true := by simpa using h2
    have hp : placesL x = [x.b] := by simp only [placesL, if_neg h1, if_pos h2]; rfl
    simp only [ev0, ev1, ev2, ev3, ev4, ev5, ev6, ev7, ev8, ev9, ev10, ew, Nat.reduceEqDiff, reduceCtorEq, Nat.reduceAdd, Nat.reduceSub, Nat.reduceMul, Nat.reduceLT, Nat.reduceLeDiff, Int.reduceLT, Int.reduceLE, Int.reduceEq, Int.reduceNe, Int.reduceAdd, Int.reduceSub, Int.reduceMul, Int.reduceNeg, Int.reduceToNat, inp, h1, e2, view]
    refine (Lst.nil σ 1).app (hs _).1 (hs _).2 (by simp) fun v σ1 hv => ?_
    simp only [ev0, ev1, ev2, ev3, ev4, ev5, ev6, ev7, ev8, ev9, ev10, ew, Nat.reduceEqDiff, reduceCtorEq, Nat.reduceAdd, Nat.reduceSub, Nat.reduceMul, Nat.reduceLT, Nat.reduceLeDiff, Int.reduceLT, Int.reduceLE, Int.reduceEq, Int.reduceNe, Int.reduceAdd, Int.reduceSub, Int.reduceMul, Int.reduceNeg, Int.reduceToNat, q_ret1]
    refine Ret.as hv.sub hv.fz ?_
    rw [hp] at h; exact h
  · have e2 : (decide (x.op = 30) || decide (x.op = 26)) = false := by simpa using h2
    have hp : placesL x = [] := by simp only [placesL, if_neg h1, if_neg h2]; rfl
    simp only [ev0, ev1, ev2, ev3, ev4, ev5, ev6, ev7, ev8, ev9, ev10, ew, Nat.reduceEqDiff, reduceCtorEq, Nat.reduceAdd, Nat.reduceSub, Nat.reduceMul, Nat.reduceLT, Nat.reduceLeDiff, Int.reduceLT, Int.reduceLE, Int.reduceEq, Int.reduceNe, Int.reduceAdd, Int.reduceSub, Int.reduceMul, Int.reduceNeg, Int.reduceToNat, inp, h1, e2, q_ret1]
    rw [hp] at h
    exact Ret.as (Sub.refl _) (Fz.nils _ _ _) h
theorem name_op_spec (op : Int) (h : K (.str (nameOf op)) σ) : ACalls (env gs s) 87 [.int .i64 op] σ K := by
  refine A87_call rfl ?_
  unfold A87
  by_cases h1 : op < 1
  · rw [nameOf, if_pos (.inl h1)] at h
    simp only [ev0, ev1, ev2, ev3, ev4, ev5, ev6, ev7, ev8, ev9, ev10, ew, Nat.reduceEqDiff, reduceCtorEq, Nat.reduceAdd, Nat.reduceSub, Nat.reduceMul, Nat.reduceLT, Nat.reduceLeDiff, Int.reduceLT, Int.reduceLE, Int.reduceEq, Int.reduceNe, Int.reduceAdd, Int.reduceSub, Int.reduceMul, Int.reduceNeg, Int.reduceToNat, h1, q_ret1]
    exact Ret.here h
  · by_cases h2 : 41 < op
    · rw [nameOf, if_pos (.inr h2)] at h
      simp only [ev0, ev1, ev2, ev3, ev4, ev5, ev6, ev7, ev8, ev9, ev10, ew, Nat.reduceEqDiff, reduceCtorEq, Nat.reduceAdd, Nat.reduceSub, Nat.reduceMul, Nat.reduceLT, Nat.reduceLeDiff, Int.reduceLT, Int.reduceLE, Int.reduceEq, Int.reduceNe, Int.reduceAdd, Int.reduceSub, Int.reduceMul, Int.reduceNeg, Int.reduceToNat, h1, h2, q_ret1]
      exact Ret.here h
    · rw [nameOf, if_neg (by omega)] at h
      have hg : (namesL.map AV.str)[op.toNat]? = some (.str (namesL.getD op.toNat [])) := by
        have : op.toNat < namesL.length := by show op.toNat < 42; omega
        rw [List.getElem?_map, List.getElem?_eq_getElem this]
        simp [List.getD_eq_getElem?_getD, List.getElem?_eq_getElem this]
      have h0 : (0 : Int) ≤ op := by omega
      have h42 : op < ((42 : Nat) : Int) := by omega
      simp only [ev0, ev1, ev2, ev3, ev4, ev5, ev6, ev7, ev8, ev9, ev10, ew, Nat.reduceEqDiff, reduceCtorEq, Nat.reduceAdd, Nat.reduceSub, Nat.reduceMul, Nat.reduceLT, Nat.reduceLeDiff, Int.reduceLT, Int.reduceLE, Int.reduceEq, Int.reduceNe, Int.reduceAdd, Int.reduceSub, Int.reduceMul, Int.reduceNeg, Int.reduceToNat, h1, h2]
      refine go_callI (names_spec ?_)
      generalize (namesL.map AV.str) = NL at hg
      simp only [ev0, ev1, ev2, ev3, ev4, ev5, ev6, ev7, ev8, ev9, ev10, ew, Nat.reduceEqDiff, reduceCtorEq, Nat.reduceAdd, Nat.reduceSub, Nat.reduceMul, Nat.reduceLT, Nat.reduceLeDiff, Int.reduceLT, Int.reduceLE, Int.reduceEq, Int.reduceNe, Int.reduceAdd, Int.reduceSub, Int.reduceMul, Int.reduceNeg, Int.reduceToNat, h0, h42, part_f, Nat.mul_one, hg, q_ret1]
      exact Ret.here h
/-! A function asked of each -/
def findI (p : Int → Bool) : Nat → List Int → Int
  | _, [] => -1
  | i, x :: l => if p x = true then i else findI p (i + 1) l
theorem findI_any (p : Int → Bool) : ∀ (i : Nat) (l : List Int), decide (0 ≤ findI p i l) = l.any p
  | i, [] => rfl
  | i, x :: l => by
    rw [findI, List.any_cons]
    cases hp : p x with
    | true => simp
    | false => rw [if_neg (by simp), findI_any p (i + 1) l]; simp
theorem indexFunc_spec (l : List Int) (p : Int → Bool) (hl : l.length ≤ 1000000000) (fid : FuncId) (first cap : List AV) (hf : ∀ x ∈ l, ∀ K' : AV → Hp → Prop, K' (.bool (p x)) σ → ACalls (env gs s) fid (first ++ [.int .i64 x] ++ cap) σ K') (h : K (.int .i64 (findI p 0 l)) σ) :
    ACalls (env gs s) 113 [ints l, .func (.func fid) first cap] σ K := by
  refine A113_call rfl ?_
  unfold A113
  simp only [ev0, ev1, ev2, ev3, ev4, ev5, ev6, ev7, ev8, ev9, ev10, ew, Nat.reduceEqDiff, reduceCtorEq, Nat.reduceAdd, Nat.reduceSub, Nat.reduceMul, Nat.reduceLT, Nat.reduceLeDiff, Int.reduceLT, Int.reduceLE, Int.reduceEq, Int.reduceNe, Int.reduceAdd, Int.reduceSub, Int.reduceMul, Int.reduceNeg, Int.reduceToNat, ints]
  refine go_block ?_
  refine go_loop W113_0 [0, 1, 7] [ints l, .func (.func fid) first cap, .int .i64 l.length] [8] (fun n vs σ' => ∃ i : Nat, vs = [.int .i64 i] ∧ σ' = σ ∧ n + i = l.length ∧ findI p 0 l = findI p i (l.drop i)) A113_0_wr rfl ?_ ?_ ?_
  · simp only [ev0, ev1, ev2, ev3, ev4, ev5, ev6, ev7, ev8, ev9, ev10, ew, Nat.reduceEqDiff, reduceCtorEq, Nat.reduceAdd, Nat.reduceSub, Nat.reduceMul, Nat.reduceLT, Nat.reduceLeDiff, Int.reduceLT, Int.reduceLE, Int.reduceEq, Int.reduceNe, Int.reduceAdd, Int.reduceSub, Int.reduceMul, Int.reduceNeg, Int.reduceToNat, ints]
  · refine ⟨_, _, _, Sub.refl _, FzL.refl _ _ _, 0, ?_, rfl, rfl, rfl⟩
    simp only [ev0, ev1, ev2, ev3, ev4, ev5, ev6, ev7, ev8, ev9, ev10, ew, Nat.reduceEqDiff, reduceCtorEq, Nat.reduceAdd, Nat.reduceSub, Nat.reduceMul, Nat.reduceLT, Nat.reduceLeDiff, Int.reduceLT, Int.reduceLE, Int.reduceEq, Int.reduceNe, Int.reduceAdd, Int.reduceSub, Int.reduceMul, Int.reduceNeg, Int.reduceToNat]
  · rintro n vs σ' - ⟨i, rfl, rfl, hi, hE⟩
    unfold A113_0
    rw [hE] at h
    by_cases hc : (i : Int) < l.length
    · obtain ⟨y, hy⟩ : ∃ y, l[i]? = some y := ⟨l[i]'(by omega), List.getElem?_eq_getElem _⟩
      have hw : IntKind.i64.wrap (i + 1) = (i + 1 : Nat) := i64_id _ (by omega) (by omega)
      have hdr : l.drop i = y :: l.drop (i + 1) := by
        rw [List.drop_eq_getElem_cons (by omega)]; congr 1; exact (List.getElem?_eq_some_iff.1 hy).2
      have hp : ∀ z : Int, Pat.part false 1 (AV.int .i64 z).cells 0 = some (.int .i64 z) := fun _ => rfl
      rw [hdr, findI] at h
      simp only [ev0, ev1, ev2, ev3, ev4, ev5, ev6, ev7, ev8, ev9, ev10, ew, Nat.reduceEqDiff, reduceCtorEq, Nat.reduceAdd, Nat.reduceSub, Nat.reduceMul, Nat.reduceLT, Nat.reduceLeDiff, Int.reduceLT, Int.reduceLE, Int.reduceEq, Int.reduceNe, Int.reduceAdd, Int.reduceSub, Int.reduceMul, Int.reduceNeg, Int.reduceToNat, hc]
      refine go_block ?_
      simp only [ev0, ev1, ev2, ev3, ev4, ev5, ev6, ev7, ev8, ev9, ev10, ew, Nat.reduceEqDiff, reduceCtorEq, Nat.reduceAdd, Nat.reduceSub, Nat.reduceMul, Nat.reduceLT, Nat.reduceLeDiff, Int.reduceLT, Int.reduceLE, Int.reduceEq, Int.reduceNe, Int.reduceAdd, Int.reduceSub, Int.reduceMul, Int.reduceNeg, Int.reduceToNat, ints, hy, hp]
      refine go_callI ?_
      have hf := hf y (List.mem_of_getElem? hy)
      simp only [List.append_assoc, List.singleton_append] at hf ⊢
      refine hf _ ?_
      cases hpy : p y with
      | true =>
        rw [hpy, if_pos rfl] at h
        simp only [ev0, ev1, ev2, ev3, ev4, ev5, ev6, ev7, ev8, ev9, ev10, ew, Nat.reduceEqDiff, reduceCtorEq, Nat.reduceAdd, Nat.reduceSub, Nat.reduceMul, Nat.reduceLT, Nat.reduceLeDiff, Int.reduceLT, Int.reduceLE, Int.reduceEq, Int.reduceNe, Int.reduceAdd, Int.reduceSub, Int.reduceMul, Int.reduceNeg, Int.reduceToNat, loop_ret, kont_gox, q_ret1]
        exact Ret.here h
      | false =>
        simp only [ev0, ev1, ev2, ev3, ev4, ev5, ev6, ev7, ev8, ev9, ev10, ew, Nat.reduceEqDiff, reduceCtorEq, Nat.reduceAdd, Nat.reduceSub, Nat.reduceMul, Nat.reduceLT, Nat.reduceLeDiff, Int.reduceLT, Int.reduceLE, Int.reduceEq, Int.reduceNe, Int.reduceAdd, Int.reduceSub, Int.reduceMul, Int.reduceNeg, Int.reduceToNat, hw]
        refine loop_next (n - 1) (by omega) ⟨i + 1, ?_, rfl, by omega, ?_⟩
        · simp only [ev0, ev1, ev2, ev3, ev4, ev5, ev6, ev7, ev8, ev9, ev10, ew, Nat.reduceEqDiff, reduceCtorEq, Nat.reduceAdd, Nat.reduceSub, Nat.reduceMul, Nat.reduceLT, Nat.reduceLeDiff, Int.reduceLT, Int.reduceLE, Int.reduceEq, Int.reduceNe, Int.reduceAdd, Int.reduceSub, Int.reduceMul, Int.reduceNeg, Int.reduceToNat]
        · rw [hE, hdr, findI, hpy, if_neg (by simp)]
    · rw [List.drop_of_length_le (by omega), findI] at h
      simp only [ev0, ev1, ev2, ev3, ev4, ev5, ev6, ev7, ev8, ev9, ev10, ew, Nat.reduceEqDiff, reduceCtorEq, Nat.reduceAdd, Nat.reduceSub, Nat.reduceMul, Nat.reduceLT, Nat.reduceLeDiff, Int.reduceLT, Int.reduceLE, Int.reduceEq, Int.reduceNe, Int.reduceAdd, Int.reduceSub, Int.reduceMul, Int.reduceNeg, Int.reduceToNat, hc, loop_exit, kont_gox, q_ret1]
      exact Ret.here h
theorem containsFunc_spec (l : List Int) (p : Int → Bool) (hl : l.length ≤ 1000000000) (fid : FuncId) (first cap : List AV) (hf : ∀ x ∈ l, ∀ K' : AV → Hp → Prop, K' (.bool (p x)) σ → ACalls (env gs s) fid (first ++ [.int .i64 x] ++ cap) σ K') (h : K (.bool (l.any p)) σ) :
    ACalls (env gs s) 88 [ints l, .func (.func fid) first cap] σ K := by
  refine A88_call rfl ?_
  unfold A88
  simp only [ev0, ev1, ev2, ev3, ev4, ev5, ev6, ev7, ev8, ev9, ev10, ew, Nat.reduceEqDiff, reduceCtorEq, Nat.reduceAdd, Nat.reduceSub, Nat.reduceMul, Nat.reduceLT, Nat.reduceLeDiff, Int.reduceLT, Int.reduceLE, Int.reduceEq, Int.reduceNe, Int.reduceAdd, Int.reduceSub, Int.reduceMul, Int.reduceNeg, Int.reduceToNat]
  refine go_callI (indexFunc_spec l p hl fid first cap hf ?_)
  simp only [ev0, ev1, ev2, ev3, ev4, ev5, ev6, ev7, ev8, ev9, ev10, ew, Nat.reduceEqDiff, reduceCtorEq, Nat.reduceAdd, Nat.reduceSub, Nat.reduceMul, Nat.reduceLT, Nat.reduceLeDiff, Int.reduceLT, Int.reduceLE, Int.reduceEq, Int.reduceNe, Int.reduceAdd, Int.reduceSub, Int.reduceMul, Int.reduceNeg, Int.reduceToNat, q_ret1, findI_any]
  exact Ret.here h
end Go.Proofs.YthmcfphafofheaaDoor
