/- Contracts: what errors tell, taken apart. No statement of the seat is proved in this file. -/
import Derived.Test.YthmcfphafofheaaDoorSee1
open Go Go.Proofs
namespace Go.Proofs.YthmcfphafofheaaDoor
open Pat
set_option maxRecDepth 10000
set_option maxHeartbeats 1000000
set_option linter.unusedSimpArgs false
set_option linter.unusedVariables false
variable {gs : List Nat} {s : Nat → Addr} {σ : Hp} {K : AV → Hp → Prop}
theorem fault_spec (hg : ∀ g ∈ sentG, g ∈ gs) : ∀ (e : Er) (left : Nat) (σ : Hp) (K : AV → Hp → Prop), e.fit left → left ≤ 8 → K (faultAV e.code e.places) σ → ACalls (env gs s) 60 [e.av, .int .i64 (left + 1 : Nat)] σ K := by
  intro e
  induction e with
  | sent i =>
    intro left σ K hfit hl h
    have hi : i < 17 := by cases left <;> exact hfit
    refine A60_call rfl ?_
    unfold A60
    simp only [ev0, ev1, ev2, ev3, ev4, ev5, ev6, ev7, ev8, ev9, ev10, ew, Nat.reduceEqDiff, reduceCtorEq, Nat.reduceAdd, Nat.reduceSub, Nat.reduceMul, Nat.reduceLT, Nat.reduceLeDiff, Int.reduceLT, Int.reduceLE, Int.reduceEq, Int.reduceNe, Int.reduceAdd, Int.reduceSub, Int.reduceMul, Int.reduceNeg, Int.reduceToNat, Er.av, errSent]
    intro b hb
    try simp only [ev0, ev1, ev2, ev3, ev4, ev5, ev6, ev7, ev8, ev9, ev10, ew, Nat.reduceEqDiff, reduceCtorEq, Nat.reduceAdd, Nat.reduceSub, Nat.reduceMul, Nat.reduceLT, Nat.reduceLeDiff, Int.reduceLT, Int.reduceLE, Int.reduceEq, Int.reduceNe, Int.reduceAdd, Int.reduceSub, Int.reduceMul, Int.reduceNeg, Int.reduceToNat]
    refine go_block ?_
    simp only [ev0, ev1, ev2, ev3, ev4, ev5, ev6, ev7, ev8, ev9, ev10, ew, Nat.reduceEqDiff, reduceCtorEq, Nat.reduceAdd, Nat.reduceSub, Nat.reduceMul, Nat.reduceLT, Nat.reduceLeDiff, Int.reduceLT, Int.reduceLE, Int.reduceEq, Int.reduceNe, Int.reduceAdd, Int.reduceSub, Int.reduceMul, Int.reduceNeg, Int.reduceToNat]
    repeat' first
      | with_reducible refine And.intro ?_ ?_
      | (intro hc; first | exact absurd hc (by decide) | skip)
      | simp only [ev0, ev1, ev2, ev3, ev4, ev5, ev6, ev7, ev8, ev9, ev10, ew, Nat.reduceEqDiff, reduceCtorEq, Nat.reduceAdd, Nat.reduceSub, Nat.reduceMul, Nat.reduceLT, Nat.reduceLeDiff, Int.reduceLT, Int.reduceLE, Int.reduceEq, Int.reduceNe, Int.reduceAdd, Int.reduceSub, Int.reduceMul, Int.reduceNeg, Int.reduceToNat]
    refine go_callI (sentinel_spec hg i hi ?_)
    simp only [ev0, ev1, ev2, ev3, ev4, ev5, ev6, ev7, ev8, ev9, ev10, ew, Nat.reduceEqDiff, reduceCtorEq, Nat.reduceAdd, Nat.reduceSub, Nat.reduceMul, Nat.reduceLT, Nat.reduceLeDiff, Int.reduceLT, Int.reduceLE, Int.reduceEq, Int.reduceNe, Int.reduceAdd, Int.reduceSub, Int.reduceMul, Int.reduceNeg, Int.reduceToNat]
    refine go_callI (bare_spec _ ?_)
    simp only [ev0, ev1, ev2, ev3, ev4, ev5, ev6, ev7, ev8, ev9, ev10, ew, Nat.reduceEqDiff, reduceCtorEq, Nat.reduceAdd, Nat.reduceSub, Nat.reduceMul, Nat.reduceLT, Nat.reduceLeDiff, Int.reduceLT, Int.reduceLE, Int.reduceEq, Int.reduceNe, Int.reduceAdd, Int.reduceSub, Int.reduceMul, Int.reduceNeg, Int.reduceToNat, upd_same, upd_upd, List.set_cons_zero, avc, splice2, faultAV]
    refine ⟨by simp [AV.scalar, ints], ?_⟩
    rw [q_retc1 (b := b) (i := 0) (off := 0) (sz' := 2) 4 2 (by simp only [ev0, ev1, ev2, ev3, ev4, ev5, ev6, ev7, ev8, ev9, ev10, ew, Nat.reduceEqDiff, reduceCtorEq, Nat.reduceAdd, Nat.reduceSub, Nat.reduceMul, Nat.reduceLT, Nat.reduceLeDiff, Int.reduceLT, Int.reduceLE, Int.reduceEq, Int.reduceNe, Int.reduceAdd, Int.reduceSub, Int.reduceMul, Int.reduceNeg, Int.reduceToNat]) (upd_same _ _) rfl (part2a _ _)]
    exact Ret.less (Sub.upd hb) h
  | at' p e ih =>
    intro left σ K hfit hl h
    obtain ⟨m, rfl⟩ : ∃ m, left = m + 1 := by
      cases left with
      | zero => exact hfit.elim
      | succ m => exact ⟨m, rfl⟩
    have hfit : e.fit m := hfit
    have hw : IntKind.i64.wrap (((m + 1 + 1 : Nat) : Int) - 1) = (m + 1 : Nat) := by rw [i64_id _ (by omega) (by omega)]; omega
    have hpl := Er.places_len m e hfit
    refine A60_call rfl ?_
    unfold A60
    simp only [ev0, ev1, ev2, ev3, ev4, ev5, ev6, ev7, ev8, ev9, ev10, ew, Nat.reduceEqDiff, reduceCtorEq, Nat.reduceAdd, Nat.reduceSub, Nat.reduceMul, Nat.reduceLT, Nat.reduceLeDiff, Int.reduceLT, Int.reduceLE, Int.reduceEq, Int.reduceNe, Int.reduceAdd, Int.reduceSub, Int.reduceMul, Int.reduceNeg, Int.reduceToNat, Er.av, errAt]
    intro b hb
    try simp only [ev0, ev1, ev2, ev3, ev4, ev5, ev6, ev7, ev8, ev9, ev10, ew, Nat.reduceEqDiff, reduceCtorEq, Nat.reduceAdd, Nat.reduceSub, Nat.reduceMul, Nat.reduceLT, Nat.reduceLeDiff, Int.reduceLT, Int.reduceLE, Int.reduceEq, Int.reduceNe, Int.reduceAdd, Int.reduceSub, Int.reduceMul, Int.reduceNeg, Int.reduceToNat]
    refine go_block ?_
    simp only [ev0, ev1, ev2, ev3, ev4, ev5, ev6, ev7, ev8, ev9, ev10, ew, Nat.reduceEqDiff, reduceCtorEq, Nat.reduceAdd, Nat.reduceSub, Nat.reduceMul, Nat.reduceLT, Nat.reduceLeDiff, Int.reduceLT, Int.reduceLE, Int.reduceEq, Int.reduceNe, Int.reduceAdd, Int.reduceSub, Int.reduceMul, Int.reduceNeg, Int.reduceToNat]
    repeat' first
      | with_reducible refine And.intro ?_ ?_
      | (intro hc; first | exact absurd rfl hc | skip)
      | simp only [ev0, ev1, ev2, ev3, ev4, ev5, ev6, ev7, ev8, ev9, ev10, ew, Nat.reduceEqDiff, reduceCtorEq, Nat.reduceAdd, Nat.reduceSub, Nat.reduceMul, Nat.reduceLT, Nat.reduceLeDiff, Int.reduceLT, Int.reduceLE, Int.reduceEq, Int.reduceNe, Int.reduceAdd, Int.reduceSub, Int.reduceMul, Int.reduceNeg, Int.reduceToNat, part_f, avc, hw]
    refine go_callI (ih m _ _ hfit (by omega) ?_)
    simp only [ev0, ev1, ev2, ev3, ev4, ev5, ev6, ev7, ev8, ev9, ev10, ew, Nat.reduceEqDiff, reduceCtorEq, Nat.reduceAdd, Nat.reduceSub, Nat.reduceMul, Nat.reduceLT, Nat.reduceLeDiff, Int.reduceLT, Int.reduceLE, Int.reduceEq, Int.reduceNe, Int.reduceAdd, Int.reduceSub, Int.reduceMul, Int.reduceNeg, Int.reduceToNat]
    intro b2 hb2
    have hne : b2 ≠ b := fun h => by rw [h, upd_same] at hb2; cases hb2
    have hb20 : σ b2 = none := by rwa [upd_ne hne] at hb2
    simp only [ev0, ev1, ev2, ev3, ev4, ev5, ev6, ev7, ev8, ev9, ev10, ew, Nat.reduceEqDiff, reduceCtorEq, Nat.reduceAdd, Nat.reduceSub, Nat.reduceMul, Nat.reduceLT, Nat.reduceLeDiff, Int.reduceLT, Int.reduceLE, Int.reduceEq, Int.reduceNe, Int.reduceAdd, Int.reduceSub, Int.reduceMul, Int.reduceNeg, Int.reduceToNat, upd_same, upd_upd, List.set_cons_zero, avc, splice2, faultAV]
    refine ⟨by simp [AV.scalar, ints], ?_⟩
    refine DT60_9_go ?_
    unfold DT60_9
    simp only [ev0, ev1, ev2, ev3, ev4, ev5, ev6, ev7, ev8, ev9, ev10, ew, Nat.reduceEqDiff, reduceCtorEq, Nat.reduceAdd, Nat.reduceSub, Nat.reduceMul, Nat.reduceLT, Nat.reduceLeDiff, Int.reduceLT, Int.reduceLE, Int.reduceEq, Int.reduceNe, Int.reduceAdd, Int.reduceSub, Int.reduceMul, Int.reduceNeg, Int.reduceToNat, upd_same, part_f, avc, part2]
    refine go_callI (around2_spec e.code e.places p e.code_ne (by omega) ?_)
    have hc : ((σ.upd b (.row 2 [.agg [.int .i64 0, .nils]])).upd b2 (.row 2 [.agg [.int .i64 e.code, ints e.places]])) b = some (.row 2 [.agg [.int .i64 0, .nils]]) := upd_some hne.symm (upd_same _ _)
    simp only [ev0, ev1, ev2, ev3, ev4, ev5, ev6, ev7, ev8, ev9, ev10, ew, Nat.reduceEqDiff, reduceCtorEq, Nat.reduceAdd, Nat.reduceSub, Nat.reduceMul, Nat.reduceLT, Nat.reduceLeDiff, Int.reduceLT, Int.reduceLE, Int.reduceEq, Int.reduceNe, Int.reduceAdd, Int.reduceSub, Int.reduceMul, Int.reduceNeg, Int.reduceToNat, hc, upd_same, upd_upd, List.set_cons_zero, avc, splice2, faultAV]
    refine ⟨by simp [AV.scalar, ints], ?_⟩
    rw [q_retc1 (b := b) (i := 0) (off := 0) (sz' := 2) 4 2 (by simp only [ev0, ev1, ev2, ev3, ev4, ev5, ev6, ev7, ev8, ev9, ev10, ew, Nat.reduceEqDiff, reduceCtorEq, Nat.reduceAdd, Nat.reduceSub, Nat.reduceMul, Nat.reduceLT, Nat.reduceLeDiff, Int.reduceLT, Int.reduceLE, Int.reduceEq, Int.reduceNe, Int.reduceAdd, Int.reduceSub, Int.reduceMul, Int.reduceNeg, Int.reduceToNat]) (upd_same _ _) rfl (part2a _ _)]
    exact Ret.less (sub_upd (sub_upd (sub_upd (Sub.refl _) hb) hb20) hb) h
def faultOf : Option Er → AV
  | none => faultAV 0 []
  | some e => faultAV e.code e.places
def erAV : Option Er → AV
  | none => .nilIface
  | some e => e.av
theorem er_iface (e : Er) : ∃ t v, e.av = .iface t v := by cases e <;> exact ⟨_, _, rfl⟩
theorem Fault_spec (hg : ∀ g ∈ sentG, g ∈ gs) (e : Option Er) (hfit : ∀ x, e = some x → x.fit 8) (h : K (faultOf e) σ) : ACalls (env gs s) 29 [erAV e] σ K := by
  refine A29_call rfl ?_
  unfold A29
  cases e with
  | none =>
    simp only [ev0, ev1, ev2, ev3, ev4, ev5, ev6, ev7, ev8, ev9, ev10, ew, Nat.reduceEqDiff, reduceCtorEq, Nat.reduceAdd, Nat.reduceSub, Nat.reduceMul, Nat.reduceLT, Nat.reduceLeDiff, Int.reduceLT, Int.reduceLE, Int.reduceEq, Int.reduceNe, Int.reduceAdd, Int.reduceSub, Int.reduceMul, Int.reduceNeg, Int.reduceToNat, erAV]
    intro b hb
    try simp only [ev0, ev1, ev2, ev3, ev4, ev5, ev6, ev7, ev8, ev9, ev10, ew, Nat.reduceEqDiff, reduceCtorEq, Nat.reduceAdd, Nat.reduceSub, Nat.reduceMul, Nat.reduceLT, Nat.reduceLeDiff, Int.reduceLT, Int.reduceLE, Int.reduceEq, Int.reduceNe, Int.reduceAdd, Int.reduceSub, Int.reduceMul, Int.reduceNeg, Int.reduceToNat]
    refine go_callI (none_spec ?_)
    simp only [ev0, ev1, ev2, ev3, ev4, ev5, ev6, ev7, ev8, ev9, ev10, ew, Nat.reduceEqDiff, reduceCtorEq, Nat.reduceAdd, Nat.reduceSub, Nat.reduceMul, Nat.reduceLT, Nat.reduceLeDiff, Int.reduceLT, Int.reduceLE, Int.reduceEq, Int.reduceNe, Int.reduceAdd, Int.reduceSub, Int.reduceMul, Int.reduceNeg, Int.reduceToNat, upd_same, upd_upd, List.set_cons_zero, avc, splice2, faultAV]
    refine ⟨by simp [AV.scalar, ints], ?_⟩
    rw [q_retc1 (b := b) (i := 0) (off := 0) (sz' := 2) 2 2 (by simp only [ev0, ev1, ev2, ev3, ev4, ev5, ev6, ev7, ev8, ev9, ev10, ew, Nat.reduceEqDiff, reduceCtorEq, Nat.reduceAdd, Nat.reduceSub, Nat.reduceMul, Nat.reduceLT, Nat.reduceLeDiff, Int.reduceLT, Int.reduceLE, Int.reduceEq, Int.reduceNe, Int.reduceAdd, Int.reduceSub, Int.reduceMul, Int.reduceNeg, Int.reduceToNat]) (upd_same _ _) rfl (part2a _ _)]
    exact Ret.less (Sub.upd hb) h
  | some e =>
    obtain ⟨t, v, hv⟩ := er_iface e
    have hspec := fun (σ : Hp) (K : AV → Hp → Prop) => fault_spec (s := s) hg e 8 σ K (hfit e rfl) (by omega)
    rw [hv] at hspec
    simp only [ev0, ev1, ev2, ev3, ev4, ev5, ev6, ev7, ev8, ev9, ev10, ew, Nat.reduceEqDiff, reduceCtorEq, Nat.reduceAdd, Nat.reduceSub, Nat.reduceMul, Nat.reduceLT, Nat.reduceLeDiff, Int.reduceLT, Int.reduceLE, Int.reduceEq, Int.reduceNe, Int.reduceAdd, Int.reduceSub, Int.reduceMul, Int.reduceNeg, Int.reduceToNat, erAV, hv]
    intro b hb
    try simp only [ev0, ev1, ev2, ev3, ev4, ev5, ev6, ev7, ev8, ev9, ev10, ew, Nat.reduceEqDiff, reduceCtorEq, Nat.reduceAdd, Nat.reduceSub, Nat.reduceMul, Nat.reduceLT, Nat.reduceLeDiff, Int.reduceLT, Int.reduceLE, Int.reduceEq, Int.reduceNe, Int.reduceAdd, Int.reduceSub, Int.reduceMul, Int.reduceNeg, Int.reduceToNat]
    refine go_callI (hspec _ _ ?_)
    simp only [ev0, ev1, ev2, ev3, ev4, ev5, ev6, ev7, ev8, ev9, ev10, ew, Nat.reduceEqDiff, reduceCtorEq, Nat.reduceAdd, Nat.reduceSub, Nat.reduceMul, Nat.reduceLT, Nat.reduceLeDiff, Int.reduceLT, Int.reduceLE, Int.reduceEq, Int.reduceNe, Int.reduceAdd, Int.reduceSub, Int.reduceMul, Int.reduceNeg, Int.reduceToNat, upd_same, upd_upd, List.set_cons_zero, avc, splice2, faultAV]
    refine ⟨by simp [AV.scalar, ints], ?_⟩
    rw [q_retc1 (b := b) (i := 0) (off := 0) (sz' := 2) 2 2 (by simp only [ev0, ev1, ev2, ev3, ev4, ev5, ev6, ev7, ev8, ev9, ev10, ew, Nat.reduceEqDiff, reduceCtorEq, Nat.reduceAdd, Nat.reduceSub, Nat.reduceMul, Nat.reduceLT, Nat.reduceLeDiff, Int.reduceLT, Int.reduceLE, Int.reduceEq, Int.reduceNe, Int.reduceAdd, Int.reduceSub, Int.reduceMul, Int.reduceNeg, Int.reduceToNat]) (upd_same _ _) rfl (part2a _ _)]
    exact Ret.less (Sub.upd hb) h
theorem sameInts_spec (a c : List Int) (hl : a.length ≤ 1000000000) (hl2 : c.length ≤ 1000000000) (h : K (.bool (decide (a = c))) σ) : ACalls (env gs s) 78 [ints a, ints c] σ K := by
  refine A78_call rfl ?_
  unfold A78
  have hla : (a.map (AV.int .i64)).length = a.length := by simp
  have hlc : (c.map (AV.int .i64)).length = c.length := by simp
  by_cases hlen : a.length = c.length
  · have hli : ((a.length : Int) = c.length) = True := eq_true (by omega)
    simp only [ev0, ev1, ev2, ev3, ev4, ev5, ev6, ev7, ev8, ev9, ev10, ew, Nat.reduceEqDiff, reduceCtorEq, Nat.reduceAdd, Nat.reduceSub, Nat.reduceMul, Nat.reduceLT, Nat.reduceLeDiff, Int.reduceLT, Int.reduceLE, Int.reduceEq, Int.reduceNe, Int.reduceAdd, Int.reduceSub, Int.reduceMul, Int.reduceNeg, Int.reduceToNat, ints, hla, hlc, hli]
    refine go_block ?_
    refine go_loop W78_0 [0, 1] [ints a, ints c] [5] (fun n vs σ' => ∃ i : Nat, vs = [.int .i64 i] ∧ σ' = σ ∧ n + i = a.length ∧ a.take i = c.take i) A78_0_wr rfl ?_ ?_ ?_
    · simp only [ev0, ev1, ev2, ev3, ev4, ev5, ev6, ev7, ev8, ev9, ev10, ew, Nat.reduceEqDiff, reduceCtorEq, Nat.reduceAdd, Nat.reduceSub, Nat.reduceMul, Nat.reduceLT, Nat.reduceLeDiff, Int.reduceLT, Int.reduceLE, Int.reduceEq, Int.reduceNe, Int.reduceAdd, Int.reduceSub, Int.reduceMul, Int.reduceNeg, Int.reduceToNat, ints]
    · refine ⟨_, _, _, Sub.refl _, FzL.refl _ _ _, 0, ?_, rfl, rfl, rfl⟩
      simp only [ev0, ev1, ev2, ev3, ev4, ev5, ev6, ev7, ev8, ev9, ev10, ew, Nat.reduceEqDiff, reduceCtorEq, Nat.reduceAdd, Nat.reduceSub, Nat.reduceMul, Nat.reduceLT, Nat.reduceLeDiff, Int.reduceLT, Int.reduceLE, Int.reduceEq, Int.reduceNe, Int.reduceAdd, Int.reduceSub, Int.reduceMul, Int.reduceNeg, Int.reduceToNat]
    · rintro n vs σ' - ⟨i, rfl, rfl, hi, ht⟩
      unfold A78_0
      by_cases hc : (i : Int) < a.length
      · obtain ⟨x, hx⟩ : ∃ x, a[i]? = some x := ⟨a[i]'(by omega), List.getElem?_eq_getElem _⟩
        obtain ⟨y, hy⟩ : ∃ y, c[i]? = some y := ⟨c[i]'(by omega), List.getElem?_eq_getElem _⟩
        have hp : ∀ z : Int, Pat.part false 1 (AV.int .i64 z).cells 0 = some (.int .i64 z) := fun _ => rfl
        have hw : IntKind.i64.wrap ((i : Int) + 1) = (i + 1 : Nat) := i64_id _ (by omega) (by omega)
        simp only [ev0, ev1, ev2, ev3, ev4, ev5, ev6, ev7, ev8, ev9, ev10, ew, Nat.reduceEqDiff, reduceCtorEq, Nat.reduceAdd, Nat.reduceSub, Nat.reduceMul, Nat.reduceLT, Nat.reduceLeDiff, Int.reduceLT, Int.reduceLE, Int.reduceEq, Int.reduceNe, Int.reduceAdd, Int.reduceSub, Int.reduceMul, Int.reduceNeg, Int.reduceToNat, ints, hla, hc]
        refine go_block ?_
        simp only [ev0, ev1, ev2, ev3, ev4, ev5, ev6, ev7, ev8, ev9, ev10, ew, Nat.reduceEqDiff, reduceCtorEq, Nat.reduceAdd, Nat.reduceSub, Nat.reduceMul, Nat.reduceLT, Nat.reduceLeDiff, Int.reduceLT, Int.reduceLE, Int.reduceEq, Int.reduceNe, Int.reduceAdd, Int.reduceSub, Int.reduceMul, Int.reduceNeg, Int.reduceToNat]
        refine DT78_6_go ?_
        unfold DT78_6
        by_cases hxy : x = y
        · subst hxy
          simp only [ev0, ev1, ev2, ev3, ev4, ev5, ev6, ev7, ev8, ev9, ev10, ew, Nat.reduceEqDiff, reduceCtorEq, Nat.reduceAdd, Nat.reduceSub, Nat.reduceMul, Nat.reduceLT, Nat.reduceLeDiff, Int.reduceLT, Int.reduceLE, Int.reduceEq, Int.reduceNe, Int.reduceAdd, Int.reduceSub, Int.reduceMul, Int.reduceNeg, Int.reduceToNat, ints, hx, hy, hp, hw]
          refine loop_next (n - 1) (by omega) ⟨i + 1, ?_, rfl, by omega, ?_⟩
          · simp only [ev0, ev1, ev2, ev3, ev4, ev5, ev6, ev7, ev8, ev9, ev10, ew, Nat.reduceEqDiff, reduceCtorEq, Nat.reduceAdd, Nat.reduceSub, Nat.reduceMul, Nat.reduceLT, Nat.reduceLeDiff, Int.reduceLT, Int.reduceLE, Int.reduceEq, Int.reduceNe, Int.reduceAdd, Int.reduceSub, Int.reduceMul, Int.reduceNeg, Int.reduceToNat]
          · rw [List.take_add_one, List.take_add_one, ht, hx, hy]
        · have hne : a ≠ c := fun e => by rw [e, hy] at hx; cases hx; exact hxy rfl
          rw [decide_eq_false hne] at h
          simp only [ev0, ev1, ev2, ev3, ev4, ev5, ev6, ev7, ev8, ev9, ev10, ew, Nat.reduceEqDiff, reduceCtorEq, Nat.reduceAdd, Nat.reduceSub, Nat.reduceMul, Nat.reduceLT, Nat.reduceLeDiff, Int.reduceLT, Int.reduceLE, Int.reduceEq, Int.reduceNe, Int.reduceAdd, Int.reduceSub, Int.reduceMul, Int.reduceNeg, Int.reduceToNat, ints, hx, hy, hp, hxy, loop_ret, kont_gox, q_ret1]
          exact Ret.here h
      · have hac : a = c := by
          rwa [List.take_of_length_le (by omega), List.take_of_length_le (by omega)] at ht
        rw [decide_eq_true hac] at h
        simp only [ev0, ev1, ev2, ev3, ev4, ev5, ev6, ev7, ev8, ev9, ev10, ew, Nat.reduceEqDiff, reduceCtorEq, Nat.reduceAdd, Nat.reduceSub, Nat.reduceMul, Nat.reduceLT, Nat.reduceLeDiff, Int.reduceLT, Int.reduceLE, Int.reduceEq, Int.reduceNe, Int.reduceAdd, Int.reduceSub, Int.reduceMul, Int.reduceNeg, Int.reduceToNat, ints, hla, hc, loop_exit, kont_gox, q_ret1]
        exact Ret.here h
  · have hne : a ≠ c := fun e => hlen (by rw [e])
    rw [decide_eq_false hne] at h
    have hli : ((a.length : Int) = c.length) = False := eq_false (by omega)
    simp only [ev0, ev1, ev2, ev3, ev4, ev5, ev6, ev7, ev8, ev9, ev10, ew, Nat.reduceEqDiff, reduceCtorEq, Nat.reduceAdd, Nat.reduceSub, Nat.reduceMul, Nat.reduceLT, Nat.reduceLeDiff, Int.reduceLT, Int.reduceLE, Int.reduceEq, Int.reduceNe, Int.reduceAdd, Int.reduceSub, Int.reduceMul, Int.reduceNeg, Int.reduceToNat, ints, hla, hlc, hli, q_ret1]
    exact Ret.here h
theorem sameFault_spec (c d : Int) (ps qs : List Int) (hl : ps.length ≤ 1000000000) (hl2 : qs.length ≤ 1000000000) (h : K (.bool (decide (c = d) && decide (ps = qs))) σ) : ACalls (env gs s) 58 [faultAV c ps, faultAV d qs] σ K := by
  refine A58_call rfl ?_
  unfold A58
  simp only [ev0, ev1, ev2, ev3, ev4, ev5, ev6, ev7, ev8, ev9, ev10, ew, Nat.reduceEqDiff, reduceCtorEq, Nat.reduceAdd, Nat.reduceSub, Nat.reduceMul, Nat.reduceLT, Nat.reduceLeDiff, Int.reduceLT, Int.reduceLE, Int.reduceEq, Int.reduceNe, Int.reduceAdd, Int.reduceSub, Int.reduceMul, Int.reduceNeg, Int.reduceToNat, faultAV, avc, part_f]
  refine go_callI (sameInts_spec ps qs hl hl2 ?_)
  by_cases hcd : c = d
  · simp only [hcd, decide_true, Bool.true_and] at h
    simp only [ev0, ev1, ev2, ev3, ev4, ev5, ev6, ev7, ev8, ev9, ev10, ew, Nat.reduceEqDiff, reduceCtorEq, Nat.reduceAdd, Nat.reduceSub, Nat.reduceMul, Nat.reduceLT, Nat.reduceLeDiff, Int.reduceLT, Int.reduceLE, Int.reduceEq, Int.reduceNe, Int.reduceAdd, Int.reduceSub, Int.reduceMul, Int.reduceNeg, Int.reduceToNat, hcd, part_f, avc, q_ret1]
    exact Ret.here h
  · simp only [hcd, decide_false, Bool.false_and] at h
    simp only [ev0, ev1, ev2, ev3, ev4, ev5, ev6, ev7, ev8, ev9, ev10, ew, Nat.reduceEqDiff, reduceCtorEq, Nat.reduceAdd, Nat.reduceSub, Nat.reduceMul, Nat.reduceLT, Nat.reduceLeDiff, Int.reduceLT, Int.reduceLE, Int.reduceEq, Int.reduceNe, Int.reduceAdd, Int.reduceSub, Int.reduceMul, Int.reduceNeg, Int.reduceToNat, hcd, part_f, avc, q_ret1]
    exact Ret.here h
def codeOfE : Option Er → Int
  | none => 0
  | some e => e.code
def placesOfE : Option Er → List Int
  | none => []
  | some e => e.places
theorem faultOf_eq (e : Option Er) : faultOf e = faultAV (codeOfE e) (placesOfE e) := by cases e <;> rfl
theorem Same_spec (hg : ∀ g ∈ sentG, g ∈ gs) (e : Option Er) (hfit : ∀ x, e = some x → x.fit 8) (c : Int) (ps : List Int) (hl2 : ps.length ≤ 1000000000) (h : K (.bool (decide (codeOfE e = c) && decide (placesOfE e = ps))) σ) : ACalls (env gs s) 28 [erAV e, faultAV c ps] σ K := by
  refine A28_call rfl ?_
  unfold A28
  have hpl : (placesOfE e).length ≤ 1000000000 := by
    cases e with
    | none => simp [placesOfE]
    | some e => have := Er.places_len 8 e (hfit e rfl); simp only [placesOfE]; omega
  simp only [ev0, ev1, ev2, ev3, ev4, ev5, ev6, ev7, ev8, ev9, ev10, ew, Nat.reduceEqDiff, reduceCtorEq, Nat.reduceAdd, Nat.reduceSub, Nat.reduceMul, Nat.reduceLT, Nat.reduceLeDiff, Int.reduceLT, Int.reduceLE, Int.reduceEq, Int.reduceNe, Int.reduceAdd, Int.reduceSub, Int.reduceMul, Int.reduceNeg, Int.reduceToNat]
  refine ⟨rfl, rfl, ?_⟩
  refine go_callI (Fault_spec hg e hfit ?_)
  rw [faultOf_eq]
  simp only [ev0, ev1, ev2, ev3, ev4, ev5, ev6, ev7, ev8, ev9, ev10, ew, Nat.reduceEqDiff, reduceCtorEq, Nat.reduceAdd, Nat.reduceSub, Nat.reduceMul, Nat.reduceLT, Nat.reduceLeDiff, Int.reduceLT, Int.reduceLE, Int.reduceEq, Int.reduceNe, Int.reduceAdd, Int.reduceSub, Int.reduceMul, Int.reduceNeg, Int.reduceToNat, faultAV, avc, part_f]
  intro b hb
  simp only [ev0, ev1, ev2, ev3, ev4, ev5, ev6, ev7, ev8, ev9, ev10, ew, Nat.reduceEqDiff, reduceCtorEq, Nat.reduceAdd, Nat.reduceSub, Nat.reduceMul, Nat.reduceLT, Nat.reduceLeDiff, Int.reduceLT, Int.reduceLE, Int.reduceEq, Int.reduceNe, Int.reduceAdd, Int.reduceSub, Int.reduceMul, Int.reduceNeg, Int.reduceToNat, upd_same, upd_upd, List.set_cons_zero, avc, splice2, part2]
  refine ⟨by simp [AV.scalar, ints], ?_⟩
  refine go_callI (sameFault_spec _ c _ ps hpl hl2 ?_)
  simp only [ev0, ev1, ev2, ev3, ev4, ev5, ev6, ev7, ev8, ev9, ev10, ew, Nat.reduceEqDiff, reduceCtorEq, Nat.reduceAdd, Nat.reduceSub, Nat.reduceMul, Nat.reduceLT, Nat.reduceLeDiff, Int.reduceLT, Int.reduceLE, Int.reduceEq, Int.reduceNe, Int.reduceAdd, Int.reduceSub, Int.reduceMul, Int.reduceNeg, Int.reduceToNat, q_ret1]
  exact Ret.less (Sub.upd hb) h
end Go.Proofs.YthmcfphafofheaaDoor
