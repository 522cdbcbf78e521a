/- Contracts: code is looked at. No statement of the seat is proved in this file. -/
import Derived.Test.YthmcfphafofheaaDoorCode2
open Go Go.Proofs
namespace Go.Proofs.YthmcfphafofheaaDoor
open Pat
set_option maxRecDepth 10000
set_option maxHeartbeats 1000000
set_option linter.unusedSimpArgs false
set_option linter.unusedVariables false
variable {gs : List Nat} {s : Nat → Addr} {σ : Hp} {K : AV → Hp → Prop}
def outB (n : Nat) (k : Int) : Bool := decide (k < 0) || decide ((n : Int) ≤ k)
def mayB (n : Nat) (x : Ins) : Bool := !decide (nameOf x.op = []) && !(placesL x).any (outB n) && (!decide (x.op ∈ [3, 4, 15, 38, 27]) || decide (0 ≤ x.a)) && decide (x.str.length ≤ 2000)
theorem out_spec (k : Int) (n : Nat) {b : Nat} (hb : σ b = some (.row 1 [.int .i64 n])) (h : K (.bool (outB n k)) σ) : ACalls (env gs s) 86 [.int .i64 k, .ptr b 1 0 0] σ K := by
  refine A86_call rfl ?_
  unfold A86
  have hp : ∀ z : Int, Pat.part false 1 (AV.int .i64 z).cells 0 = some (.int .i64 z) := fun _ => rfl
  unfold outB at h
  by_cases h1 : k < 0
  · simp only [h1, decide_true, Bool.true_or] at h
    simp only [ev0, ev1, ev2, ev3, ev4, ev5, ev6, ev7, ev8, ev9, ev10, ew, Nat.reduceEqDiff, reduceCtorEq, Nat.reduceAdd, Nat.reduceSub, Nat.reduceMul, Nat.reduceLT, Nat.reduceLeDiff, Int.reduceLT, Int.reduceLE, Int.reduceEq, Int.reduceNe, Int.reduceAdd, Int.reduceSub, Int.reduceMul, Int.reduceNeg, Int.reduceToNat, h1, q_ret1]
    exact Ret.here h
  · simp only [h1, decide_false, Bool.false_or] at h
    simp only [ev0, ev1, ev2, ev3, ev4, ev5, ev6, ev7, ev8, ev9, ev10, ew, Nat.reduceEqDiff, reduceCtorEq, Nat.reduceAdd, Nat.reduceSub, Nat.reduceMul, Nat.reduceLT, Nat.reduceLeDiff, Int.reduceLT, Int.reduceLE, Int.reduceEq, Int.reduceNe, Int.reduceAdd, Int.reduceSub, Int.reduceMul, Int.reduceNeg, Int.reduceToNat, h1, hb, hp, q_ret1]
    exact Ret.here h
theorem may_spec (x : Ins) (n : Nat) (h : K (.bool (mayB n x)) σ) : ACalls (env gs s) 50 [x.av, .int .i64 n] σ K := by
  refine A50_call rfl ?_
  unfold A50
  have e2000 : ((x.str.length : Int) ≤ 2000) = (x.str.length ≤ 2000) := by rw [eq_iff_iff]; omega
  simp only [ev0, ev1, ev2, ev3, ev4, ev5, ev6, ev7, ev8, ev9, ev10, ew, Nat.reduceEqDiff, reduceCtorEq, Nat.reduceAdd, Nat.reduceSub, Nat.reduceMul, Nat.reduceLT, Nat.reduceLeDiff, Int.reduceLT, Int.reduceLE, Int.reduceEq, Int.reduceNe, Int.reduceAdd, Int.reduceSub, Int.reduceMul, Int.reduceNeg, Int.reduceToNat, inp, avc]
  intro b hb
  refine blit_row rfl (by simp [AV.one]) ?_
  simp only [ev0, ev1, ev2, ev3, ev4, ev5, ev6, ev7, ev8, ev9, ev10, ew, Nat.reduceEqDiff, reduceCtorEq, Nat.reduceAdd, Nat.reduceSub, Nat.reduceMul, Nat.reduceLT, Nat.reduceLeDiff, Int.reduceLT, Int.reduceLE, Int.reduceEq, Int.reduceNe, Int.reduceAdd, Int.reduceSub, Int.reduceMul, Int.reduceNeg, Int.reduceToNat, inp]
  refine go_callI (contains_spec [3, 4, 15, 38, 27] x.op (by simp) ?_)
  simp only [ev0, ev1, ev2, ev3, ev4, ev5, ev6, ev7, ev8, ev9, ev10, ew, Nat.reduceEqDiff, reduceCtorEq, Nat.reduceAdd, Nat.reduceSub, Nat.reduceMul, Nat.reduceLT, Nat.reduceLeDiff, Int.reduceLT, Int.reduceLE, Int.reduceEq, Int.reduceNe, Int.reduceAdd, Int.reduceSub, Int.reduceMul, Int.reduceNeg, Int.reduceToNat, inp]
  refine go_callI (name_op_spec x.op ?_)
  unfold mayB at h
  by_cases hn : nameOf x.op = []
  · simp only [hn, decide_true, Bool.not_true, Bool.false_and] at h
    simp only [ev0, ev1, ev2, ev3, ev4, ev5, ev6, ev7, ev8, ev9, ev10, ew, Nat.reduceEqDiff, reduceCtorEq, Nat.reduceAdd, Nat.reduceSub, Nat.reduceMul, Nat.reduceLT, Nat.reduceLeDiff, Int.reduceLT, Int.reduceLE, Int.reduceEq, Int.reduceNe, Int.reduceAdd, Int.reduceSub, Int.reduceMul, Int.reduceNeg, Int.reduceToNat, inp, hn, q_ret1]
    exact Ret.less (Sub.upd hb) h
  · simp only [hn, decide_false, Bool.not_false, Bool.true_and] at h
    simp only [ev0, ev1, ev2, ev3, ev4, ev5, ev6, ev7, ev8, ev9, ev10, ew, Nat.reduceEqDiff, reduceCtorEq, Nat.reduceAdd, Nat.reduceSub, Nat.reduceMul, Nat.reduceLT, Nat.reduceLeDiff, Int.reduceLT, Int.reduceLE, Int.reduceEq, Int.reduceNe, Int.reduceAdd, Int.reduceSub, Int.reduceMul, Int.reduceNeg, Int.reduceToNat, inp, hn]
    refine go_callI (places_spec x ?_)
    simp only [ev0, ev1, ev2, ev3, ev4, ev5, ev6, ev7, ev8, ev9, ev10, ew, Nat.reduceEqDiff, reduceCtorEq, Nat.reduceAdd, Nat.reduceSub, Nat.reduceMul, Nat.reduceLT, Nat.reduceLeDiff, Int.reduceLT, Int.reduceLE, Int.reduceEq, Int.reduceNe, Int.reduceAdd, Int.reduceSub, Int.reduceMul, Int.reduceNeg, Int.reduceToNat, inp]
    have hpl : (placesL x).length ≤ 1000000000 := by
      unfold placesL; split <;> split <;> simp
    refine go_callI (containsFunc_spec (placesL x) (outB n) hpl _ [] [.ptr b 1 0 0] (fun k hk K' hK => out_spec k n (upd_same _ _) hK) ?_)
    cases hany : (placesL x).any (outB n) with
    | true =>
      simp only [hany, Bool.not_true, Bool.false_and] at h
      simp only [ev0, ev1, ev2, ev3, ev4, ev5, ev6, ev7, ev8, ev9, ev10, ew, Nat.reduceEqDiff, reduceCtorEq, Nat.reduceAdd, Nat.reduceSub, Nat.reduceMul, Nat.reduceLT, Nat.reduceLeDiff, Int.reduceLT, Int.reduceLE, Int.reduceEq, Int.reduceNe, Int.reduceAdd, Int.reduceSub, Int.reduceMul, Int.reduceNeg, Int.reduceToNat, inp, q_ret1]
      exact Ret.less (Sub.upd hb) h
    | false =>
      simp only [hany, Bool.not_false, Bool.true_and] at h
      by_cases hc : x.op ∈ [3, 4, 15, 38, 27]
      · by_cases ha : 0 ≤ x.a
        · simp only [hc, ha, decide_true, Bool.not_true, Bool.false_or, Bool.true_and] at h
          simp only [ev0, ev1, ev2, ev3, ev4, ev5, ev6, ev7, ev8, ev9, ev10, ew, Nat.reduceEqDiff, reduceCtorEq, Nat.reduceAdd, Nat.reduceSub, Nat.reduceMul, Nat.reduceLT, Nat.reduceLeDiff, Int.reduceLT, Int.reduceLE, Int.reduceEq, Int.reduceNe, Int.reduceAdd, Int.reduceSub, Int.reduceMul, Int.reduceNeg, Int.reduceToNat, inp, hc, ha, e2000, q_ret1]
          exact Ret.less (Sub.upd hb) h
        · simp only [hc, ha, decide_true, decide_false, Bool.not_true, Bool.false_or, Bool.false_and] at h
          simp only [ev0, ev1, ev2, ev3, ev4, ev5, ev6, ev7, ev8, ev9, ev10, ew, Nat.reduceEqDiff, reduceCtorEq, Nat.reduceAdd, Nat.reduceSub, Nat.reduceMul, Nat.reduceLT, Nat.reduceLeDiff, Int.reduceLT, Int.reduceLE, Int.reduceEq, Int.reduceNe, Int.reduceAdd, Int.reduceSub, Int.reduceMul, Int.reduceNeg, Int.reduceToNat, inp, hc, ha, q_ret1]
          exact Ret.less (Sub.upd hb) h
      · simp only [hc, decide_false, Bool.not_false, Bool.true_or, Bool.true_and] at h
        simp only [ev0, ev1, ev2, ev3, ev4, ev5, ev6, ev7, ev8, ev9, ev10, ew, Nat.reduceEqDiff, reduceCtorEq, Nat.reduceAdd, Nat.reduceSub, Nat.reduceMul, Nat.reduceLT, Nat.reduceLeDiff, Int.reduceLT, Int.reduceLE, Int.reduceEq, Int.reduceNe, Int.reduceAdd, Int.reduceSub, Int.reduceMul, Int.reduceNeg, Int.reduceToNat, inp, hc, e2000, q_ret1]
        exact Ret.less (Sub.upd hb) h
/-! A code -/
def endsB (x : Ins) : Bool := decide (x.op = 41) || decide (x.op = 40) || decide (x.op = 18)
def badB (n : Nat) (i : Nat) (x : Ins) : Bool := !mayB n x || decide (i + 1 = n) && !endsB x
def badAt (n : Nat) : Nat → List Ins → Option Nat
  | _, [] => none
  | i, x :: l => if badB n i x = true then some i else badAt n (i + 1) l
def errSent (g : Nat) : AV := .iface 226 (.sptr g)
def errAt (i : Int) (e : AV) : AV := .iface 82 (.re (.agg [.int .i64 i, e]) 0)
def codeErr (L : List Ins) (st : Int) : AV :=
  if L = [] ∨ 9000 < L.length ∨ st < 0 ∨ 9000 < st then errSent 0 else match badAt L.length 0 L with | some i => errAt i (errSent 1) | none => .nilIface
theorem codeCheck_spec (hg0 : 0 ∈ gs) (hg1 : 1 ∈ gs) (L : List Ins) (st : Int) (hl : L.length ≤ 1000000000) (h : K (codeErr L st) σ) : ACalls (env gs s) 18 [codeAV L st] σ K := by
  refine A18_call rfl ?_
  unfold A18
  have hlm : (L.map Ins.av).length = L.length := by simp
  unfold codeErr errSent at h
  simp only [ev0, ev1, ev2, ev3, ev4, ev5, ev6, ev7, ev8, ev9, ev10, ew, Nat.reduceEqDiff, reduceCtorEq, Nat.reduceAdd, Nat.reduceSub, Nat.reduceMul, Nat.reduceLT, Nat.reduceLeDiff, Int.reduceLT, Int.reduceLE, Int.reduceEq, Int.reduceNe, Int.reduceAdd, Int.reduceSub, Int.reduceMul, Int.reduceNeg, Int.reduceToNat, codeAV, avc]
  by_cases h1 : L = []
  · rw [if_pos (.inl h1)] at h
    have hz : ((L.length : Nat) : Int) = 0 := by rw [h1]; rfl
    simp only [ev0, ev1, ev2, ev3, ev4, ev5, ev6, ev7, ev8, ev9, ev10, ew, Nat.reduceEqDiff, reduceCtorEq, Nat.reduceAdd, Nat.reduceSub, Nat.reduceMul, Nat.reduceLT, Nat.reduceLeDiff, Int.reduceLT, Int.reduceLE, Int.reduceEq, Int.reduceNe, Int.reduceAdd, Int.reduceSub, Int.reduceMul, Int.reduceNeg, Int.reduceToNat, part_f, avc, hz, env_sent hg0, q_ret1]
    exact Ret.here h
  have h1' : ((L.length : Int) = 0) = False := by simp; exact h1
  by_cases h2 : 9000 < L.length
  · rw [if_pos (.inr (.inl h2))] at h
    have h2' : (9000 : Int) < L.length := by omega
    simp only [ev0, ev1, ev2, ev3, ev4, ev5, ev6, ev7, ev8, ev9, ev10, ew, Nat.reduceEqDiff, reduceCtorEq, Nat.reduceAdd, Nat.reduceSub, Nat.reduceMul, Nat.reduceLT, Nat.reduceLeDiff, Int.reduceLT, Int.reduceLE, Int.reduceEq, Int.reduceNe, Int.reduceAdd, Int.reduceSub, Int.reduceMul, Int.reduceNeg, Int.reduceToNat, part_f, avc, h1', h2', env_sent hg0, q_ret1]
    exact Ret.here h
  have h2' : ¬ (9000 : Int) < L.length := by omega
  by_cases h3 : st < 0
  · rw [if_pos (.inr (.inr (.inl h3)))] at h
    simp only [ev0, ev1, ev2, ev3, ev4, ev5, ev6, ev7, ev8, ev9, ev10, ew, Nat.reduceEqDiff, reduceCtorEq, Nat.reduceAdd, Nat.reduceSub, Nat.reduceMul, Nat.reduceLT, Nat.reduceLeDiff, Int.reduceLT, Int.reduceLE, Int.reduceEq, Int.reduceNe, Int.reduceAdd, Int.reduceSub, Int.reduceMul, Int.reduceNeg, Int.reduceToNat, part_f, avc, h1', h2', h3, env_sent hg0, q_ret1]
    exact Ret.here h
  by_cases h4 : 9000 < st
  · rw [if_pos (.inr (.inr (.inr h4)))] at h
    simp only [ev0, ev1, ev2, ev3, ev4, ev5, ev6, ev7, ev8, ev9, ev10, ew, Nat.reduceEqDiff, reduceCtorEq, Nat.reduceAdd, Nat.reduceSub, Nat.reduceMul, Nat.reduceLT, Nat.reduceLeDiff, Int.reduceLT, Int.reduceLE, Int.reduceEq, Int.reduceNe, Int.reduceAdd, Int.reduceSub, Int.reduceMul, Int.reduceNeg, Int.reduceToNat, part_f, avc, h1', h2', h3, h4, env_sent hg0, q_ret1]
    exact Ret.here h
  rw [if_neg (by rintro (h | h | h | h) <;> contradiction)] at h
  simp only [ev0, ev1, ev2, ev3, ev4, ev5, ev6, ev7, ev8, ev9, ev10, ew, Nat.reduceEqDiff, reduceCtorEq, Nat.reduceAdd, Nat.reduceSub, Nat.reduceMul, Nat.reduceLT, Nat.reduceLeDiff, Int.reduceLT, Int.reduceLE, Int.reduceEq, Int.reduceNe, Int.reduceAdd, Int.reduceSub, Int.reduceMul, Int.reduceNeg, Int.reduceToNat, part_f, avc, h1', h2', h3, h4]
  refine go_block ?_
  refine go_loop W18_0 [1, 28, 29] [.re (.agg [.rd 4 (L.map Ins.av), .int .i64 st]) 0, .rd 4 (L.map Ins.av), .int .i64 L.length] [30] (fun n vs σ' => ∃ i : Nat, vs = [.int .i64 i] ∧ σ' = σ ∧ n + i = L.length ∧ badAt L.length 0 L = badAt L.length i (L.drop i)) A18_0_wr rfl ?_ ?_ ?_
  · simp only [ev0, ev1, ev2, ev3, ev4, ev5, ev6, ev7, ev8, ev9, ev10, ew, Nat.reduceEqDiff, reduceCtorEq, Nat.reduceAdd, Nat.reduceSub, Nat.reduceMul, Nat.reduceLT, Nat.reduceLeDiff, Int.reduceLT, Int.reduceLE, Int.reduceEq, Int.reduceNe, Int.reduceAdd, Int.reduceSub, Int.reduceMul, Int.reduceNeg, Int.reduceToNat]
  · refine ⟨_, _, _, Sub.refl _, FzL.refl _ _ _, 0, ?_, rfl, rfl, rfl⟩
    simp only [ev0, ev1, ev2, ev3, ev4, ev5, ev6, ev7, ev8, ev9, ev10, ew, Nat.reduceEqDiff, reduceCtorEq, Nat.reduceAdd, Nat.reduceSub, Nat.reduceMul, Nat.reduceLT, Nat.reduceLeDiff, Int.reduceLT, Int.reduceLE, Int.reduceEq, Int.reduceNe, Int.reduceAdd, Int.reduceSub, Int.reduceMul, Int.reduceNeg, Int.reduceToNat]
  · rintro n vs σ' - ⟨i, rfl, rfl, hi, hE⟩
    unfold A18_0
    by_cases hc : (i : Int) < L.length
    · obtain ⟨x, hx⟩ : ∃ x, L[i]? = some x := ⟨L[i]'(by omega), List.getElem?_eq_getElem _⟩
      have hw : IntKind.i64.wrap (i + 1) = (i + 1 : Nat) := i64_id _ (by omega) (by omega)
      have hw2 : IntKind.i64.wrap ((L.length : Int) - 1) = (L.length : Int) - 1 := i64_id _ (by omega) (by omega)
      have hdr : L.drop i = x :: L.drop (i + 1) := by
        rw [List.drop_eq_getElem_cons (by omega)]; congr 1; exact (List.getElem?_eq_some_iff.1 hx).2
      have hE' := hE
      rw [hdr, badAt] at hE'
      have hspl : (AV.agg [AV.int .i64 0, AV.int .i64 0, AV.int .i64 0, AV.str []]).splice 0 x.av.cells = x.av := rfl
      have hsc : (∀ y ∈ x.av.cells, y.scalar = true) ↔ True := ⟨fun _ => trivial, fun _ => by
        intro y hy
        simp only [Ins.av, AV.cells, List.mem_cons, List.not_mem_nil, or_false] at hy
        rcases hy with rfl | rfl | rfl | rfl <;> rfl⟩
      simp only [ev0, ev1, ev2, ev3, ev4, ev5, ev6, ev7, ev8, ev9, ev10, ew, Nat.reduceEqDiff, reduceCtorEq, Nat.reduceAdd, Nat.reduceSub, Nat.reduceMul, Nat.reduceLT, Nat.reduceLeDiff, Int.reduceLT, Int.reduceLE, Int.reduceEq, Int.reduceNe, Int.reduceAdd, Int.reduceSub, Int.reduceMul, Int.reduceNeg, Int.reduceToNat, hc]
      refine go_block ?_
      simp only [ev0, ev1, ev2, ev3, ev4, ev5, ev6, ev7, ev8, ev9, ev10, ew, Nat.reduceEqDiff, reduceCtorEq, Nat.reduceAdd, Nat.reduceSub, Nat.reduceMul, Nat.reduceLT, Nat.reduceLeDiff, Int.reduceLT, Int.reduceLE, Int.reduceEq, Int.reduceNe, Int.reduceAdd, Int.reduceSub, Int.reduceMul, Int.reduceNeg, Int.reduceToNat, hx, inp]
      intro b hb
      have fail : badB L.length i x = true → K (errAt i (errSent 1)) σ' := fun hbad => by
        rw [hE, hdr, badAt, if_pos hbad] at h; exact h
      have next : badB L.length i x = false → badAt L.length 0 L = badAt L.length (i + 1) (L.drop (i + 1)) := fun hgood => by
        rw [hE', if_neg (by rw [hgood]; simp)]
      have hub : Sub σ' (σ'.upd b (.row 4 [x.av])) := Sub.upd hb
      have hll : ∀ (p : Prop) [Decidable p], (decide p && false) = false := fun p _ => Bool.and_false _
      have look : ∀ e : Bool, endsB x = e → ∀ sl : Slots, sl 1 = .re (.agg [.rd 4 (L.map Ins.av), .int .i64 st]) 0 → True := fun _ _ _ _ => trivial
      by_cases h41 : x.op = 41
      · have he : endsB x = true := by simp [endsB, h41]
        have q41 := eq_true h41
        have q40 : (x.op = 40) = False := eq_false (by omega)
        have q18 : (x.op = 18) = False := eq_false (by omega)
        simp only [ev0, ev1, ev2, ev3, ev4, ev5, ev6, ev7, ev8, ev9, ev10, ew, Nat.reduceEqDiff, reduceCtorEq, Nat.reduceAdd, Nat.reduceSub, Nat.reduceMul, Nat.reduceLT, Nat.reduceLeDiff, Int.reduceLT, Int.reduceLE, Int.reduceEq, Int.reduceNe, Int.reduceAdd, Int.reduceSub, Int.reduceMul, Int.reduceNeg, Int.reduceToNat, upd_same, upd_upd, hspl, hsc, inp, avc, List.set_cons_zero, q41, q40, q18]
        try simp only [part_f, avc, ev0, ev1, ev2, ev3, ev4, ev5, ev6, ev7, ev8, ev9, ev10, ew, Nat.reduceEqDiff, reduceCtorEq, Nat.reduceAdd, Nat.reduceSub, Nat.reduceMul, Nat.reduceLT, Nat.reduceLeDiff, Int.reduceLT, Int.reduceLE, Int.reduceEq, Int.reduceNe, Int.reduceAdd, Int.reduceSub, Int.reduceMul, Int.reduceNeg, Int.reduceToNat, hlm]
        refine go_callI (may_spec x L.length ?_)
        cases hm : mayB L.length x
        · have hbad : badB L.length i x = true := by simp [badB, hm]
          simp only [ev0, ev1, ev2, ev3, ev4, ev5, ev6, ev7, ev8, ev9, ev10, ew, Nat.reduceEqDiff, reduceCtorEq, Nat.reduceAdd, Nat.reduceSub, Nat.reduceMul, Nat.reduceLT, Nat.reduceLeDiff, Int.reduceLT, Int.reduceLE, Int.reduceEq, Int.reduceNe, Int.reduceAdd, Int.reduceSub, Int.reduceMul, Int.reduceNeg, Int.reduceToNat, env_sent hg1]
          refine ⟨by simp [partsOk, avc], ?_⟩; simp only [fillA, avc, List.take, List.drop, List.cons_append, List.nil_append, List.length_cons, List.length_nil, Nat.reduceAdd, ev0, ev1, ev2, ev3, ev4, ev5, ev6, ev7, ev8, ev9, ev10, ew, Nat.reduceEqDiff, reduceCtorEq, Nat.reduceAdd, Nat.reduceSub, Nat.reduceMul, Nat.reduceLT, Nat.reduceLeDiff, Int.reduceLT, Int.reduceLE, Int.reduceEq, Int.reduceNe, Int.reduceAdd, Int.reduceSub, Int.reduceMul, Int.reduceNeg, Int.reduceToNat]
          simp only [ev0, ev1, ev2, ev3, ev4, ev5, ev6, ev7, ev8, ev9, ev10, ew, Nat.reduceEqDiff, reduceCtorEq, Nat.reduceAdd, Nat.reduceSub, Nat.reduceMul, Nat.reduceLT, Nat.reduceLeDiff, Int.reduceLT, Int.reduceLE, Int.reduceEq, Int.reduceNe, Int.reduceAdd, Int.reduceSub, Int.reduceMul, Int.reduceNeg, Int.reduceToNat, avc, loop_ret, kont_gox, q_ret1]
          exact Ret.less hub (fail hbad)
        · by_cases hla : (i : Int) = (L.length : Int) - 1
          · have hlb : i + 1 = L.length := by omega
            have hlaT := eq_true hla
            simp only [ev0, ev1, ev2, ev3, ev4, ev5, ev6, ev7, ev8, ev9, ev10, ew, Nat.reduceEqDiff, reduceCtorEq, Nat.reduceAdd, Nat.reduceSub, Nat.reduceMul, Nat.reduceLT, Nat.reduceLeDiff, Int.reduceLT, Int.reduceLE, Int.reduceEq, Int.reduceNe, Int.reduceAdd, Int.reduceSub, Int.reduceMul, Int.reduceNeg, Int.reduceToNat, part_f, avc, hlm, hw2, hlaT, upd_same, q41, q40, q18, hw, env_sent hg1]
            first
              | (have hgood : badB L.length i x = false := by simp [badB, hm, he]
                 exact ⟨n - 1, _, σ', hub, FzL.refl _ _ _, by omega, i + 1, by simp only [ev0, ev1, ev2, ev3, ev4, ev5, ev6, ev7, ev8, ev9, ev10, ew, Nat.reduceEqDiff, reduceCtorEq, Nat.reduceAdd, Nat.reduceSub, Nat.reduceMul, Nat.reduceLT, Nat.reduceLeDiff, Int.reduceLT, Int.reduceLE, Int.reduceEq, Int.reduceNe, Int.reduceAdd, Int.reduceSub, Int.reduceMul, Int.reduceNeg, Int.reduceToNat], rfl, by omega, next hgood⟩)
              | (have hbad : badB L.length i x = true := by simp [badB, hm, he, hlb]
                 refine ⟨by simp [partsOk, avc], ?_⟩; simp only [fillA, avc, List.take, List.drop, List.cons_append, List.nil_append, List.length_cons, List.length_nil, Nat.reduceAdd, ev0, ev1, ev2, ev3, ev4, ev5, ev6, ev7, ev8, ev9, ev10, ew, Nat.reduceEqDiff, reduceCtorEq, Nat.reduceAdd, Nat.reduceSub, Nat.reduceMul, Nat.reduceLT, Nat.reduceLeDiff, Int.reduceLT, Int.reduceLE, Int.reduceEq, Int.reduceNe, Int.reduceAdd, Int.reduceSub, Int.reduceMul, Int.reduceNeg, Int.reduceToNat]
                 simp only [ev0, ev1, ev2, ev3, ev4, ev5, ev6, ev7, ev8, ev9, ev10, ew, Nat.reduceEqDiff, reduceCtorEq, Nat.reduceAdd, Nat.reduceSub, Nat.reduceMul, Nat.reduceLT, Nat.reduceLeDiff, Int.reduceLT, Int.reduceLE, Int.reduceEq, Int.reduceNe, Int.reduceAdd, Int.reduceSub, Int.reduceMul, Int.reduceNeg, Int.reduceToNat, avc, loop_ret, kont_gox, q_ret1]
                 exact Ret.less hub (fail hbad))
          · have hlb : i + 1 ≠ L.length := by omega
            have hlaT := eq_false hla
            have hgood : badB L.length i x = false := by simp [badB, hm, hlb]
            simp only [ev0, ev1, ev2, ev3, ev4, ev5, ev6, ev7, ev8, ev9, ev10, ew, Nat.reduceEqDiff, reduceCtorEq, Nat.reduceAdd, Nat.reduceSub, Nat.reduceMul, Nat.reduceLT, Nat.reduceLeDiff, Int.reduceLT, Int.reduceLE, Int.reduceEq, Int.reduceNe, Int.reduceAdd, Int.reduceSub, Int.reduceMul, Int.reduceNeg, Int.reduceToNat, part_f, avc, hlm, hw2, hlaT, upd_same, q41, q40, q18, hw]
            exact ⟨n - 1, _, σ', hub, FzL.refl _ _ _, by omega, i + 1, by simp only [ev0, ev1, ev2, ev3, ev4, ev5, ev6, ev7, ev8, ev9, ev10, ew, Nat.reduceEqDiff, reduceCtorEq, Nat.reduceAdd, Nat.reduceSub, Nat.reduceMul, Nat.reduceLT, Nat.reduceLeDiff, Int.reduceLT, Int.reduceLE, Int.reduceEq, Int.reduceNe, Int.reduceAdd, Int.reduceSub, Int.reduceMul, Int.reduceNeg, Int.reduceToNat], rfl, by omega, next hgood⟩
      · have q41 := eq_false h41
        by_cases h40 : x.op = 40
        · have he : endsB x = true := by simp [endsB, h40]
          have q40 := eq_true h40
          have q18 : (x.op = 18) = False := eq_false (by omega)
          simp only [ev0, ev1, ev2, ev3, ev4, ev5, ev6, ev7, ev8, ev9, ev10, ew, Nat.reduceEqDiff, reduceCtorEq, Nat.reduceAdd, Nat.reduceSub, Nat.reduceMul, Nat.reduceLT, Nat.reduceLeDiff, Int.reduceLT, Int.reduceLE, Int.reduceEq, Int.reduceNe, Int.reduceAdd, Int.reduceSub, Int.reduceMul, Int.reduceNeg, Int.reduceToNat, upd_same, upd_upd, hspl, hsc, inp, avc, List.set_cons_zero, q41, q40, q18]
          try simp only [part_f, avc, ev0, ev1, ev2, ev3, ev4, ev5, ev6, ev7, ev8, ev9, ev10, ew, Nat.reduceEqDiff, reduceCtorEq, Nat.reduceAdd, Nat.reduceSub, Nat.reduceMul, Nat.reduceLT, Nat.reduceLeDiff, Int.reduceLT, Int.reduceLE, Int.reduceEq, Int.reduceNe, Int.reduceAdd, Int.reduceSub, Int.reduceMul, Int.reduceNeg, Int.reduceToNat, hlm]
          refine go_callI (may_spec x L.length ?_)
          cases hm : mayB L.length x
          · have hbad : badB L.length i x = true := by simp [badB, hm]
            simp only [ev0, ev1, ev2, ev3, ev4, ev5, ev6, ev7, ev8, ev9, ev10, ew, Nat.reduceEqDiff, reduceCtorEq, Nat.reduceAdd, Nat.reduceSub, Nat.reduceMul, Nat.reduceLT, Nat.reduceLeDiff, Int.reduceLT, Int.reduceLE, Int.reduceEq, Int.reduceNe, Int.reduceAdd, Int.reduceSub, Int.reduceMul, Int.reduceNeg, Int.reduceToNat, env_sent hg1]
            refine ⟨by simp [partsOk, avc], ?_⟩; simp only [fillA, avc, List.take, List.drop, List.cons_append, List.nil_append, List.length_cons, List.length_nil, Nat.reduceAdd, ev0, ev1, ev2, ev3, ev4, ev5, ev6, ev7, ev8, ev9, ev10, ew, Nat.reduceEqDiff, reduceCtorEq, Nat.reduceAdd, Nat.reduceSub, Nat.reduceMul, Nat.reduceLT, Nat.reduceLeDiff, Int.reduceLT, Int.reduceLE, Int.reduceEq, Int.reduceNe, Int.reduceAdd, Int.reduceSub, Int.reduceMul, Int.reduceNeg, Int.reduceToNat]
            simp only [ev0, ev1, ev2, ev3, ev4, ev5, ev6, ev7, ev8, ev9, ev10, ew, Nat.reduceEqDiff, reduceCtorEq, Nat.reduceAdd, Nat.reduceSub, Nat.reduceMul, Nat.reduceLT, Nat.reduceLeDiff, Int.reduceLT, Int.reduceLE, Int.reduceEq, Int.reduceNe, Int.reduceAdd, Int.reduceSub, Int.reduceMul, Int.reduceNeg, Int.reduceToNat, avc, loop_ret, kont_gox, q_ret1]
            exact Ret.less hub (fail hbad)
          · by_cases hla : (i : Int) = (L.length : Int) - 1
            · have hlb : i + 1 = L.length := by omega
              have hlaT := eq_true hla
              simp only [ev0, ev1, ev2, ev3, ev4, ev5, ev6, ev7, ev8, ev9, ev10, ew, Nat.reduceEqDiff, reduceCtorEq, Nat.reduceAdd, Nat.reduceSub, Nat.reduceMul, Nat.reduceLT, Nat.reduceLeDiff, Int.reduceLT, Int.reduceLE, Int.reduceEq, Int.reduceNe, Int.reduceAdd, Int.reduceSub, Int.reduceMul, Int.reduceNeg, Int.reduceToNat, part_f, avc, hlm, hw2, hlaT, upd_same, q41, q40, q18, hw, env_sent hg1]
              first
                | (have hgood : badB L.length i x = false := by simp [badB, hm, he]
                   exact ⟨n - 1, _, σ', hub, FzL.refl _ _ _, by omega, i + 1, by simp only [ev0, ev1, ev2, ev3, ev4, ev5, ev6, ev7, ev8, ev9, ev10, ew, Nat.reduceEqDiff, reduceCtorEq, Nat.reduceAdd, Nat.reduceSub, Nat.reduceMul, Nat.reduceLT, Nat.reduceLeDiff, Int.reduceLT, Int.reduceLE, Int.reduceEq, Int.reduceNe, Int.reduceAdd, Int.reduceSub, Int.reduceMul, Int.reduceNeg, Int.reduceToNat], rfl, by omega, next hgood⟩)
                | (have hbad : badB L.length i x = true := by simp [badB, hm, he, hlb]
                   refine ⟨by simp [partsOk, avc], ?_⟩; simp only [fillA, avc, List.take, List.drop, List.cons_append, List.nil_append, List.length_cons, List.length_nil, Nat.reduceAdd, ev0, ev1, ev2, ev3, ev4, ev5, ev6, ev7, ev8, ev9, ev10, ew, Nat.reduceEqDiff, reduceCtorEq, Nat.reduceAdd, Nat.reduceSub, Nat.reduceMul, Nat.reduceLT, Nat.reduceLeDiff, Int.reduceLT, Int.reduceLE, Int.reduceEq, Int.reduceNe, Int.reduceAdd, Int.reduceSub, Int.reduceMul, Int.reduceNeg, Int.reduceToNat]
                   simp only [ev0, ev1, ev2, ev3, ev4, ev5, ev6, ev7, ev8, ev9, ev10, ew, Nat.reduceEqDiff, reduceCtorEq, Nat.reduceAdd, Nat.reduceSub, Nat.reduceMul, Nat.reduceLT, Nat.reduceLeDiff, Int.reduceLT, Int.reduceLE, Int.reduceEq, Int.reduceNe, Int.reduceAdd, Int.reduceSub, Int.reduceMul, Int.reduceNeg, Int.reduceToNat, avc, loop_ret, kont_gox, q_ret1]
                   exact Ret.less hub (fail hbad))
            · have hlb : i + 1 ≠ L.length := by omega
              have hlaT := eq_false hla
              have hgood : badB L.length i x = false := by simp [badB, hm, hlb]
              simp only [ev0, ev1, ev2, ev3, ev4, ev5, ev6, ev7, ev8, ev9, ev10, ew, Nat.reduceEqDiff, reduceCtorEq, Nat.reduceAdd, Nat.reduceSub, Nat.reduceMul, Nat.reduceLT, Nat.reduceLeDiff, Int.reduceLT, Int.reduceLE, Int.reduceEq, Int.reduceNe, Int.reduceAdd, Int.reduceSub, Int.reduceMul, Int.reduceNeg, Int.reduceToNat, part_f, avc, hlm, hw2, hlaT, upd_same, q41, q40, q18, hw]
              exact ⟨n - 1, _, σ', hub, FzL.refl _ _ _, by omega, i + 1, by simp only [ev0, ev1, ev2, ev3, ev4, ev5, ev6, ev7, ev8, ev9, ev10, ew, Nat.reduceEqDiff, reduceCtorEq, Nat.reduceAdd, Nat.reduceSub, Nat.reduceMul, Nat.reduceLT, Nat.reduceLeDiff, Int.reduceLT, Int.reduceLE, Int.reduceEq, Int.reduceNe, Int.reduceAdd, Int.reduceSub, Int.reduceMul, Int.reduceNeg, Int.reduceToNat], rfl, by omega, next hgood⟩
        · have q40 := eq_false h40
          by_cases h18 : x.op = 18
          · have he : endsB x = true := by simp [endsB, h18]
            have q18 := eq_true h18
            simp only [ev0, ev1, ev2, ev3, ev4, ev5, ev6, ev7, ev8, ev9, ev10, ew, Nat.reduceEqDiff, reduceCtorEq, Nat.reduceAdd, Nat.reduceSub, Nat.reduceMul, Nat.reduceLT, Nat.reduceLeDiff, Int.reduceLT, Int.reduceLE, Int.reduceEq, Int.reduceNe, Int.reduceAdd, Int.reduceSub, Int.reduceMul, Int.reduceNeg, Int.reduceToNat, upd_same, upd_upd, hspl, hsc, inp, avc, List.set_cons_zero, q41, q40, q18]
            try simp only [part_f, avc, ev0, ev1, ev2, ev3, ev4, ev5, ev6, ev7, ev8, ev9, ev10, ew, Nat.reduceEqDiff, reduceCtorEq, Nat.reduceAdd, Nat.reduceSub, Nat.reduceMul, Nat.reduceLT, Nat.reduceLeDiff, Int.reduceLT, Int.reduceLE, Int.reduceEq, Int.reduceNe, Int.reduceAdd, Int.reduceSub, Int.reduceMul, Int.reduceNeg, Int.reduceToNat, hlm]
            refine go_callI (may_spec x L.length ?_)
            cases hm : mayB L.length x
            · have hbad : badB L.length i x = true := by simp [badB, hm]
              simp only [ev0, ev1, ev2, ev3, ev4, ev5, ev6, ev7, ev8, ev9, ev10, ew, Nat.reduceEqDiff, reduceCtorEq, Nat.reduceAdd, Nat.reduceSub, Nat.reduceMul, Nat.reduceLT, Nat.reduceLeDiff, Int.reduceLT, Int.reduceLE, Int.reduceEq, Int.reduceNe, Int.reduceAdd, Int.reduceSub, Int.reduceMul, Int.reduceNeg, Int.reduceToNat, env_sent hg1]
              refine ⟨by simp [partsOk, avc], ?_⟩; simp only [fillA, avc, List.take, List.drop, List.cons_append, List.nil_append, List.length_cons, List.length_nil, Nat.reduceAdd, ev0, ev1, ev2, ev3, ev4, ev5, ev6, ev7, ev8, ev9, ev10, ew, Nat.reduceEqDiff, reduceCtorEq, Nat.reduceAdd, Nat.reduceSub, Nat.reduceMul, Nat.reduceLT, Nat.reduceLeDiff, Int.reduceLT, Int.reduceLE, Int.reduceEq, Int.reduceNe, Int.reduceAdd, Int.reduceSub, Int.reduceMul, Int.reduceNeg, Int.reduceToNat]
              simp only [ev0, ev1, ev2, ev3, ev4, ev5, ev6, ev7, ev8, ev9, ev10, ew, Nat.reduceEqDiff, reduceCtorEq, Nat.reduceAdd, Nat.reduceSub, Nat.reduceMul, Nat.reduceLT, Nat.reduceLeDiff, Int.reduceLT, Int.reduceLE, Int.reduceEq, Int.reduceNe, Int.reduceAdd, Int.reduceSub, Int.reduceMul, Int.reduceNeg, Int.reduceToNat, avc, loop_ret, kont_gox, q_ret1]
              exact Ret.less hub (fail hbad)
            · by_cases hla : (i : Int) = (L.length : Int) - 1
              · have hlb : i + 1 = L.length := by omega
                have hlaT := eq_true hla
                simp only [ev0, ev1, ev2, ev3, ev4, ev5, ev6, ev7, ev8, ev9, ev10, ew, Nat.reduceEqDiff, reduceCtorEq, Nat.reduceAdd, Nat.reduceSub, Nat.reduceMul, Nat.reduceLT, Nat.reduceLeDiff, Int.reduceLT, Int.reduceLE, Int.reduceEq, Int.reduceNe, Int.reduceAdd, Int.reduceSub, Int.reduceMul, Int.reduceNeg, Int.reduceToNat, part_f, avc, hlm, hw2, hlaT, upd_same, q41, q40, q18, hw, env_sent hg1]
                first
                  | (have hgood : badB L.length i x = false := by simp [badB, hm, he]
                     exact ⟨n - 1, _, σ', hub, FzL.refl _ _ _, by omega, i + 1, by simp only [ev0, ev1, ev2, ev3, ev4, ev5, ev6, ev7, ev8, ev9, ev10, ew, Nat.reduceEqDiff, reduceCtorEq, Nat.reduceAdd, Nat.reduceSub, Nat.reduceMul, Nat.reduceLT, Nat.reduceLeDiff, Int.reduceLT, Int.reduceLE, Int.reduceEq, Int.reduceNe, Int.reduceAdd, Int.reduceSub, Int.reduceMul, Int.reduceNeg, Int.reduceToNat], rfl, by omega, next hgood⟩)
                  | (have hbad : badB L.length i x = true := by simp [badB, hm, he, hlb]
                     refine ⟨by simp [partsOk, avc], ?_⟩; simp only [fillA, avc, List.take, List.drop, List.cons_append, List.nil_append, List.length_cons, List.length_nil, Nat.reduceAdd, ev0, ev1, ev2, ev3, ev4, ev5, ev6, ev7, ev8, ev9, ev10, ew, Nat.reduceEqDiff, reduceCtorEq, Nat.reduceAdd, Nat.reduceSub, Nat.reduceMul, Nat.reduceLT, Nat.reduceLeDiff, Int.reduceLT, Int.reduceLE, Int.reduceEq, Int.reduceNe, Int.reduceAdd, Int.reduceSub, Int.reduceMul, Int.reduceNeg, Int.reduceToNat]
                     simp only [ev0, ev1, ev2, ev3, ev4, ev5, ev6, ev7, ev8, ev9, ev10, ew, Nat.reduceEqDiff, reduceCtorEq, Nat.reduceAdd, Nat.reduceSub, Nat.reduceMul, Nat.reduceLT, Nat.reduceLeDiff, Int.reduceLT, Int.reduceLE, Int.reduceEq, Int.reduceNe, Int.reduceAdd, Int.reduceSub, Int.reduceMul, Int.reduceNeg, Int.reduceToNat, avc, loop_ret, kont_gox, q_ret1]
                     exact Ret.less hub (fail hbad))
              · have hlb : i + 1 ≠ L.length := by omega
                have hlaT := eq_false hla
                have hgood : badB L.length i x = false := by simp [badB, hm, hlb]
                simp only [ev0, ev1, ev2, ev3, ev4, ev5, ev6, ev7, ev8, ev9, ev10, ew, Nat.reduceEqDiff, reduceCtorEq, Nat.reduceAdd, Nat.reduceSub, Nat.reduceMul, Nat.reduceLT, Nat.reduceLeDiff, Int.reduceLT, Int.reduceLE, Int.reduceEq, Int.reduceNe, Int.reduceAdd, Int.reduceSub, Int.reduceMul, Int.reduceNeg, Int.reduceToNat, part_f, avc, hlm, hw2, hlaT, upd_same, q41, q40, q18, hw]
                exact ⟨n - 1, _, σ', hub, FzL.refl _ _ _, by omega, i + 1, by simp only [ev0, ev1, ev2, ev3, ev4, ev5, ev6, ev7, ev8, ev9, ev10, ew, Nat.reduceEqDiff, reduceCtorEq, Nat.reduceAdd, Nat.reduceSub, Nat.reduceMul, Nat.reduceLT, Nat.reduceLeDiff, Int.reduceLT, Int.reduceLE, Int.reduceEq, Int.reduceNe, Int.reduceAdd, Int.reduceSub, Int.reduceMul, Int.reduceNeg, Int.reduceToNat], rfl, by omega, next hgood⟩
          · have q18 := eq_false h18
            have he : endsB x = false := by simp [endsB, h41, h40, h18]
            simp only [ev0, ev1, ev2, ev3, ev4, ev5, ev6, ev7, ev8, ev9, ev10, ew, Nat.reduceEqDiff, reduceCtorEq, Nat.reduceAdd, Nat.reduceSub, Nat.reduceMul, Nat.reduceLT, Nat.reduceLeDiff, Int.reduceLT, Int.reduceLE, Int.reduceEq, Int.reduceNe, Int.reduceAdd, Int.reduceSub, Int.reduceMul, Int.reduceNeg, Int.reduceToNat, upd_same, upd_upd, hspl, hsc, inp, avc, List.set_cons_zero, q41, q40, q18]
            try simp only [part_f, avc, ev0, ev1, ev2, ev3, ev4, ev5, ev6, ev7, ev8, ev9, ev10, ew, Nat.reduceEqDiff, reduceCtorEq, Nat.reduceAdd, Nat.reduceSub, Nat.reduceMul, Nat.reduceLT, Nat.reduceLeDiff, Int.reduceLT, Int.reduceLE, Int.reduceEq, Int.reduceNe, Int.reduceAdd, Int.reduceSub, Int.reduceMul, Int.reduceNeg, Int.reduceToNat, hlm]
            refine go_callI (may_spec x L.length ?_)
            cases hm : mayB L.length x
            · have hbad : badB L.length i x = true := by simp [badB, hm]
              simp only [ev0, ev1, ev2, ev3, ev4, ev5, ev6, ev7, ev8, ev9, ev10, ew, Nat.reduceEqDiff, reduceCtorEq, Nat.reduceAdd, Nat.reduceSub, Nat.reduceMul, Nat.reduceLT, Nat.reduceLeDiff, Int.reduceLT, Int.reduceLE, Int.reduceEq, Int.reduceNe, Int.reduceAdd, Int.reduceSub, Int.reduceMul, Int.reduceNeg, Int.reduceToNat, env_sent hg1]
              refine ⟨by simp [partsOk, avc], ?_⟩; simp only [fillA, avc, List.take, List.drop, List.cons_append, List.nil_append, List.length_cons, List.length_nil, Nat.reduceAdd, ev0, ev1, ev2, ev3, ev4, ev5, ev6, ev7, ev8, ev9, ev10, ew, Nat.reduceEqDiff, reduceCtorEq, Nat.reduceAdd, Nat.reduceSub, Nat.reduceMul, Nat.reduceLT, Nat.reduceLeDiff, Int.reduceLT, Int.reduceLE, Int.reduceEq, Int.reduceNe, Int.reduceAdd, Int.reduceSub, Int.reduceMul, Int.reduceNeg, Int.reduceToNat]
              simp only [ev0, ev1, ev2, ev3, ev4, ev5, ev6, ev7, ev8, ev9, ev10, ew, Nat.reduceEqDiff, reduceCtorEq, Nat.reduceAdd, Nat.reduceSub, Nat.reduceMul, Nat.reduceLT, Nat.reduceLeDiff, Int.reduceLT, Int.reduceLE, Int.reduceEq, Int.reduceNe, Int.reduceAdd, Int.reduceSub, Int.reduceMul, Int.reduceNeg, Int.reduceToNat, avc, loop_ret, kont_gox, q_ret1]
              exact Ret.less hub (fail hbad)
            · by_cases hla : (i : Int) = (L.length : Int) - 1
              · have hlb : i + 1 = L.length := by omega
                have hlaT := eq_true hla
                simp only [ev0, ev1, ev2, ev3, ev4, ev5, ev6, ev7, ev8, ev9, ev10, ew, Nat.reduceEqDiff, reduceCtorEq, Nat.reduceAdd, Nat.reduceSub, Nat.reduceMul, Nat.reduceLT, Nat.reduceLeDiff, Int.reduceLT, Int.reduceLE, Int.reduceEq, Int.reduceNe, Int.reduceAdd, Int.reduceSub, Int.reduceMul, Int.reduceNeg, Int.reduceToNat, part_f, avc, hlm, hw2, hlaT, upd_same, q41, q40, q18, hw, env_sent hg1]
                first
                  | (have hgood : badB L.length i x = false := by simp [badB, hm, he]
                     exact ⟨n - 1, _, σ', hub, FzL.refl _ _ _, by omega, i + 1, by simp only [ev0, ev1, ev2, ev3, ev4, ev5, ev6, ev7, ev8, ev9, ev10, ew, Nat.reduceEqDiff, reduceCtorEq, Nat.reduceAdd, Nat.reduceSub, Nat.reduceMul, Nat.reduceLT, Nat.reduceLeDiff, Int.reduceLT, Int.reduceLE, Int.reduceEq, Int.reduceNe, Int.reduceAdd, Int.reduceSub, Int.reduceMul, Int.reduceNeg, Int.reduceToNat], rfl, by omega, next hgood⟩)
                  | (have hbad : badB L.length i x = true := by simp [badB, hm, he, hlb]
                     refine ⟨by simp [partsOk, avc], ?_⟩; simp only [fillA, avc, List.take, List.drop, List.cons_append, List.nil_append, List.length_cons, List.length_nil, Nat.reduceAdd, ev0, ev1, ev2, ev3, ev4, ev5, ev6, ev7, ev8, ev9, ev10, ew, Nat.reduceEqDiff, reduceCtorEq, Nat.reduceAdd, Nat.reduceSub, Nat.reduceMul, Nat.reduceLT, Nat.reduceLeDiff, Int.reduceLT, Int.reduceLE, Int.reduceEq, Int.reduceNe, Int.reduceAdd, Int.reduceSub, Int.reduceMul, Int.reduceNeg, Int.reduceToNat]
                     simp only [ev0, ev1, ev2, ev3, ev4, ev5, ev6, ev7, ev8, ev9, ev10, ew, Nat.reduceEqDiff, reduceCtorEq, Nat.reduceAdd, Nat.reduceSub, Nat.reduceMul, Nat.reduceLT, Nat.reduceLeDiff, Int.reduceLT, Int.reduceLE, Int.reduceEq, Int.reduceNe, Int.reduceAdd, Int.reduceSub, Int.reduceMul, Int.reduceNeg, Int.reduceToNat, avc, loop_ret, kont_gox, q_ret1]
                     exact Ret.less hub (fail hbad))
              · have hlb : i + 1 ≠ L.length := by omega
                have hlaT := eq_false hla
                have hgood : badB L.length i x = false := by simp [badB, hm, hlb]
                simp only [ev0, ev1, ev2, ev3, ev4, ev5, ev6, ev7, ev8, ev9, ev10, ew, Nat.reduceEqDiff, reduceCtorEq, Nat.reduceAdd, Nat.reduceSub, Nat.reduceMul, Nat.reduceLT, Nat.reduceLeDiff, Int.reduceLT, Int.reduceLE, Int.reduceEq, Int.reduceNe, Int.reduceAdd, Int.reduceSub, Int.reduceMul, Int.reduceNeg, Int.reduceToNat, part_f, avc, hlm, hw2, hlaT, upd_same, q41, q40, q18, hw]
                exact ⟨n - 1, _, σ', hub, FzL.refl _ _ _, by omega, i + 1, by simp only [ev0, ev1, ev2, ev3, ev4, ev5, ev6, ev7, ev8, ev9, ev10, ew, Nat.reduceEqDiff, reduceCtorEq, Nat.reduceAdd, Nat.reduceSub, Nat.reduceMul, Nat.reduceLT, Nat.reduceLeDiff, Int.reduceLT, Int.reduceLE, Int.reduceEq, Int.reduceNe, Int.reduceAdd, Int.reduceSub, Int.reduceMul, Int.reduceNeg, Int.reduceToNat], rfl, by omega, next hgood⟩
    · rw [hE, List.drop_of_length_le (by omega), badAt] at h
      simp only [ev0, ev1, ev2, ev3, ev4, ev5, ev6, ev7, ev8, ev9, ev10, ew, Nat.reduceEqDiff, reduceCtorEq, Nat.reduceAdd, Nat.reduceSub, Nat.reduceMul, Nat.reduceLT, Nat.reduceLeDiff, Int.reduceLT, Int.reduceLE, Int.reduceEq, Int.reduceNe, Int.reduceAdd, Int.reduceSub, Int.reduceMul, Int.reduceNeg, Int.reduceToNat, hc, loop_exit, kont_gox, q_ret1]
      exact Ret.here h
end Go.Proofs.YthmcfphafofheaaDoor
