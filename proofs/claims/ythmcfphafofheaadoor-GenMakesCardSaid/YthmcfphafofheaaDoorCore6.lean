/- Contracts: what a program may be. No statement of the seat is proved in this file. -/
import Derived.Test.YthmcfphafofheaaDoorCore5
open Go Go.Proofs
namespace Go.Proofs.YthmcfphafofheaaDoor
open Pat
set_option maxRecDepth 10000
set_option linter.unusedSimpArgs false
set_option linter.unusedVariables false
variable {gs : List Nat} {s : Nat → Addr} {σ : Hp} {K : AV → Hp → Prop}
theorem look_c8 (hg1 : 3 ∈ gs) (hg2 : 4 ∈ gs) (l : List Node) (hl : l.length ≤ 1000000) (f i e : Nat) (x : Node) (b : Nat) (hf : f ≤ 30) (hxk : x.k ≤ 9223372036854775807) (hie : i < e) (hel : e ≤ l.length) (hb : σ b = none)
    (ih : ∀ f', f' < f → ∀ (i e : Nat) (word last : Bool) (K : AV → Hp → Prop) (σ : Hp), f' ≤ 30 → i < e → e ≤ l.length →
      K (errOf (lookE f' ((l.take e).drop i) i word last)) σ → ACalls (env gs s) 52 [nodes l, .int .i64 i, .int .i64 e, .int .i64 (31 - f' : Nat), .bool word, .bool last] σ K)
    (hz1 : 1 ≤ x.size) (hz2 : x.size ≤ e - i)
    (sl : Slots) (h0 : sl 0 = nodes l) (h1 : sl 1 = .int .i64 i) (h2 : sl 2 = .int .i64 e) (h3 : sl 3 = .int .i64 (31 - f : Nat)) (h13 : sl 13 = .ptr b 5 0 0)
    (h : K (errOf (if x.k = 0 ∧ x.size ≠ 1 then some (i, false) else if few x.k.toNat (((l.take e).drop (i + 1)).take (x.size.toNat - 1)) = true then some (i, false) else match f with | 0 => some (i, true) | f + 1 => kidsE (lookE f) x.kind x.k x.k.toNat 0 (((l.take e).drop (i + 1)).take (x.size.toNat - 1)) (i + 1))) σ) :
    GoC (env gs s) 167 (bodyQ (env gs s) [.t 12] K) C52_8 [] sl (σ.upd b (.row 5 [x.av])) := by
  have hw2 : IntKind.i64.wrap ((i : Int) + x.size) = (i + x.size.toNat : Nat) := by rw [i64_id _ (by omega) (by omega)]; omega
  have hw3 : IntKind.i64.wrap ((i : Int) + 1) = (i + 1 : Nat) := i64_id _ (by omega) (by omega)
  have hgo : ¬ (x.k = 0 ∧ x.size ≠ 1) → ∀ sl : Slots, sl 0 = nodes l → sl 1 = .int .i64 i → sl 2 = .int .i64 (i + x.size.toNat : Nat) → sl 3 = .int .i64 (31 - f : Nat) → sl 13 = .ptr b 5 0 0 → sl 15 = .int .i64 (i + 1 : Nat) → sl 16 = .int .i64 0 →
      GoC (env gs s) 167 (bodyQ (env gs s) [.t 12] K) C52_2 [] sl (σ.upd b (.row 5 [x.av])) := by
    intro hz sl a0 a1 a2 a3 a13 a15 a16
    rw [if_neg hz] at h
    have het : ((l.take e).drop (i + 1)).take (x.size.toNat - 1) = (l.take (i + x.size.toNat)).drop (i + 1) := by
      rw [List.drop_take, List.drop_take, List.take_take]
      congr 1
      omega
    rw [het] at h
    exact look_tail hg1 hg2 l hl f i (i + x.size.toNat) x b hf hxk (by omega) (by omega) hb ih sl a0 a1 a2 a3 a13 a15 a16 h
  unfold C52_8 C52_1 C52_7
  by_cases hz : x.k = 0
  · by_cases hz1 : x.size = 1
    · have hgo := hgo (by omega)
      simp only [ev0, ev1, ev2, ev3, ev4, ev5, ev6, ev7, ev8, ev9, ev10, ew, Nat.reduceEqDiff, reduceCtorEq, Nat.reduceAdd, Nat.reduceSub, Nat.reduceMul, Nat.reduceLT, Nat.reduceLeDiff, Int.reduceLT, Int.reduceLE, Int.reduceEq, Int.reduceNe, Int.reduceAdd, Int.reduceSub, Int.reduceMul, Int.reduceNeg, Int.reduceToNat, h0, h1, h2, h3, h13, nd, upd_same, hz, hz1] at hw2 ⊢
      simp only [ev0, ev1, ev2, ev3, ev4, ev5, ev6, ev7, ev8, ev9, ev10, ew, Nat.reduceEqDiff, reduceCtorEq, Nat.reduceAdd, Nat.reduceSub, Nat.reduceMul, Nat.reduceLT, Nat.reduceLeDiff, Int.reduceLT, Int.reduceLE, Int.reduceEq, Int.reduceNe, Int.reduceAdd, Int.reduceSub, Int.reduceMul, Int.reduceNeg, Int.reduceToNat, h0, h1, h2, h3, h13, nd, upd_same, hz, hz1, hw2, hw3]
      refine hgo _ ?_ ?_ ?_ ?_ ?_ ?_ ?_ <;> simp only [ev0, ev1, ev2, ev3, ev4, ev5, ev6, ev7, ev8, ev9, ev10, ew, Nat.reduceEqDiff, reduceCtorEq, Nat.reduceAdd, Nat.reduceSub, Nat.reduceMul, Nat.reduceLT, Nat.reduceLeDiff, Int.reduceLT, Int.reduceLE, Int.reduceEq, Int.reduceNe, Int.reduceAdd, Int.reduceSub, Int.reduceMul, Int.reduceNeg, Int.reduceToNat, h0, h1, h2, h3, h13, hz1]
    · rw [if_pos ⟨hz, hz1⟩] at h
      simp only [ev0, ev1, ev2, ev3, ev4, ev5, ev6, ev7, ev8, ev9, ev10, ew, Nat.reduceEqDiff, reduceCtorEq, Nat.reduceAdd, Nat.reduceSub, Nat.reduceMul, Nat.reduceLT, Nat.reduceLeDiff, Int.reduceLT, Int.reduceLE, Int.reduceEq, Int.reduceNe, Int.reduceAdd, Int.reduceSub, Int.reduceMul, Int.reduceNeg, Int.reduceToNat, h0, h1, h2, h3, h13, nd, upd_same, hz, hz1, hw2, env_sent hg1]
      refine go_callI (at_spec i (.iface 226 (.sptr 3)) rfl ?_)
      simp only [ev0, ev1, ev2, ev3, ev4, ev5, ev6, ev7, ev8, ev9, ev10, ew, Nat.reduceEqDiff, reduceCtorEq, Nat.reduceAdd, Nat.reduceSub, Nat.reduceMul, Nat.reduceLT, Nat.reduceLeDiff, Int.reduceLT, Int.reduceLE, Int.reduceEq, Int.reduceNe, Int.reduceAdd, Int.reduceSub, Int.reduceMul, Int.reduceNeg, Int.reduceToNat, q_ret1]
      exact Ret.less (Sub.upd hb) h
  · have hgo := hgo (by omega)
    simp only [ev0, ev1, ev2, ev3, ev4, ev5, ev6, ev7, ev8, ev9, ev10, ew, Nat.reduceEqDiff, reduceCtorEq, Nat.reduceAdd, Nat.reduceSub, Nat.reduceMul, Nat.reduceLT, Nat.reduceLeDiff, Int.reduceLT, Int.reduceLE, Int.reduceEq, Int.reduceNe, Int.reduceAdd, Int.reduceSub, Int.reduceMul, Int.reduceNeg, Int.reduceToNat, h0, h1, h2, h3, h13, nd, upd_same, hz, hw2, hw3]
    refine hgo _ ?_ ?_ ?_ ?_ ?_ ?_ ?_ <;> simp only [ev0, ev1, ev2, ev3, ev4, ev5, ev6, ev7, ev8, ev9, ev10, ew, Nat.reduceEqDiff, reduceCtorEq, Nat.reduceAdd, Nat.reduceSub, Nat.reduceMul, Nat.reduceLT, Nat.reduceLeDiff, Int.reduceLT, Int.reduceLE, Int.reduceEq, Int.reduceNe, Int.reduceAdd, Int.reduceSub, Int.reduceMul, Int.reduceNeg, Int.reduceToNat, h0, h1, h2, h3, h13]
theorem look_spec (hg1 : 3 ∈ gs) (hg2 : 4 ∈ gs) (l : List Node) (hl : l.length ≤ 1000000) (hs : ∀ x ∈ l, x.fit) : ∀ (f : Nat) (i e : Nat) (word last : Bool) (K : AV → Hp → Prop) (σ : Hp), f ≤ 30 → i < e → e ≤ l.length →
    K (errOf (lookE f ((l.take e).drop i) i word last)) σ → ACalls (env gs s) 52 [nodes l, .int .i64 i, .int .i64 e, .int .i64 (31 - f : Nat), .bool word, .bool last] σ K := by
  intro f
  induction f using Nat.strongRecOn with
  | _ f ih =>
  intro i e word last K σ hf hie hel h
  obtain ⟨x, hx⟩ : ∃ x, l[i]? = some x := ⟨l[i]'(by omega), List.getElem?_eq_getElem _⟩
  have hxm : x ∈ l := List.mem_of_getElem? hx
  have hseg : (l.take e).drop i = x :: (l.take e).drop (i + 1) := by
    rw [List.drop_eq_getElem_cons (by simp; omega)]
    congr 1
    rw [List.getElem_take]
    exact (List.getElem?_eq_some_iff.1 hx).2
  have hrl : ((l.take e).drop (i + 1)).length = e - (i + 1) := by simp; omega
  have hr1 : (((l.take e).drop (i + 1)).length + 1 : Int) = (e : Int) - i := by rw [hrl]; omega
  have hw1 : IntKind.i64.wrap ((e : Int) - i) = (e : Int) - i := i64_id _ (by omega) (by omega)
  rw [hseg] at h
  unfold lookE at h
  rw [hr1] at h
  refine A52_call rfl ?_
  unfold A52
  simp only [ev0, ev1, ev2, ev3, ev4, ev5, ev6, ev7, ev8, ev9, ev10, ew, Nat.reduceEqDiff, reduceCtorEq, Nat.reduceAdd, Nat.reduceSub, Nat.reduceMul, Nat.reduceLT, Nat.reduceLeDiff, Int.reduceLT, Int.reduceLE, Int.reduceEq, Int.reduceNe, Int.reduceAdd, Int.reduceSub, Int.reduceMul, Int.reduceNeg, Int.reduceToNat, nodes, hx, nd0]
  intro b hb
  simp only [ev0, ev1, ev2, ev3, ev4, ev5, ev6, ev7, ev8, ev9, ev10, ew, Nat.reduceEqDiff, reduceCtorEq, Nat.reduceAdd, Nat.reduceSub, Nat.reduceMul, Nat.reduceLT, Nat.reduceLeDiff, Int.reduceLT, Int.reduceLE, Int.reduceEq, Int.reduceNe, Int.reduceAdd, Int.reduceSub, Int.reduceMul, Int.reduceNeg, Int.reduceToNat, upd_same, upd_upd, List.set_cons_zero, nd0]
  have hspl : (AV.agg [AV.int IntKind.i64 0, AV.int IntKind.i64 0, AV.int IntKind.i64 0, AV.int IntKind.i64 0, AV.str []]).splice 0 x.av.cells = x.av := rfl
  have hkw : ∀ {K' : AV → Hp → Prop} {σ' : Hp}, K' (.bool (kindB true x.kind)) σ' → ACalls (env gs s) 89 [.int .i64 x.kind] σ' K' := fun h => word_spec _ h
  have hkc : ∀ {K' : AV → Hp → Prop} {σ' : Hp}, K' (.bool (kindB false x.kind)) σ' → ACalls (env gs s) 90 [.int .i64 x.kind] σ' K' := fun h => command_spec _ h
  have front : ∀ sl : Slots, sl 0 = nodes l → sl 1 = .int .i64 i → sl 2 = .int .i64 e → sl 3 = .int .i64 (31 - f : Nat) → sl 5 = .bool last → sl 13 = .ptr b 5 0 0 → sl 14 = .bool (kindB word x.kind) →
      GoC (env gs s) 167 (bodyQ (env gs s) [.t 12] K) C52_0 [] sl (σ.upd b (.row 5 [x.av])) := by
    intro sl h0 h1 h2 h3 h5 h13 h14
    unfold C52_0
    cases hk : kindB word x.kind with
    | false =>
      simp only [hk, Bool.not_false, Bool.true_or, if_true, errOf] at h
      simp only [ev0, ev1, ev2, ev3, ev4, ev5, ev6, ev7, ev8, ev9, ev10, ew, Nat.reduceEqDiff, reduceCtorEq, Nat.reduceAdd, Nat.reduceSub, Nat.reduceMul, Nat.reduceLT, Nat.reduceLeDiff, Int.reduceLT, Int.reduceLE, Int.reduceEq, Int.reduceNe, Int.reduceAdd, Int.reduceSub, Int.reduceMul, Int.reduceNeg, Int.reduceToNat, h0, h1, h2, h3, h5, h13, h14, hk]
      simp only [ev0, ev1, ev2, ev3, ev4, ev5, ev6, ev7, ev8, ev9, ev10, ew, Nat.reduceEqDiff, reduceCtorEq, Nat.reduceAdd, Nat.reduceSub, Nat.reduceMul, Nat.reduceLT, Nat.reduceLeDiff, Int.reduceLT, Int.reduceLE, Int.reduceEq, Int.reduceNe, Int.reduceAdd, Int.reduceSub, Int.reduceMul, Int.reduceNeg, Int.reduceToNat, nd, nd0, upd_same, env_sent hg1, hw1, h0, h1, h2, h3, h5, h13, h14, hk]
      refine go_callI (at_spec i (.iface 226 (.sptr 3)) rfl ?_)
      simp only [ev0, ev1, ev2, ev3, ev4, ev5, ev6, ev7, ev8, ev9, ev10, ew, Nat.reduceEqDiff, reduceCtorEq, Nat.reduceAdd, Nat.reduceSub, Nat.reduceMul, Nat.reduceLT, Nat.reduceLeDiff, Int.reduceLT, Int.reduceLE, Int.reduceEq, Int.reduceNe, Int.reduceAdd, Int.reduceSub, Int.reduceMul, Int.reduceNeg, Int.reduceToNat, q_ret1]
      refine Ret.less (Sub.upd hb) ?_
      exact h
    | true =>
      simp only [ev0, ev1, ev2, ev3, ev4, ev5, ev6, ev7, ev8, ev9, ev10, ew, Nat.reduceEqDiff, reduceCtorEq, Nat.reduceAdd, Nat.reduceSub, Nat.reduceMul, Nat.reduceLT, Nat.reduceLeDiff, Int.reduceLT, Int.reduceLE, Int.reduceEq, Int.reduceNe, Int.reduceAdd, Int.reduceSub, Int.reduceMul, Int.reduceNeg, Int.reduceToNat, nd, nd0, upd_same, h0, h1, h2, h3, h5, h13, h14, hk]
      refine go_callI (fields_spec x (hs x hxm).2 ?_)
      cases hfb : fieldsB x.kind x.n x.str with
      | false =>
        simp only [hk, hfb, Bool.not_false, Bool.not_true, Bool.false_or, Bool.true_or, if_true, errOf] at h
        simp only [ev0, ev1, ev2, ev3, ev4, ev5, ev6, ev7, ev8, ev9, ev10, ew, Nat.reduceEqDiff, reduceCtorEq, Nat.reduceAdd, Nat.reduceSub, Nat.reduceMul, Nat.reduceLT, Nat.reduceLeDiff, Int.reduceLT, Int.reduceLE, Int.reduceEq, Int.reduceNe, Int.reduceAdd, Int.reduceSub, Int.reduceMul, Int.reduceNeg, Int.reduceToNat, nd, nd0, upd_same, env_sent hg1, hw1, h0, h1, h2, h3, h5, h13, h14, hk]
        refine go_callI (at_spec i (.iface 226 (.sptr 3)) rfl ?_)
        simp only [ev0, ev1, ev2, ev3, ev4, ev5, ev6, ev7, ev8, ev9, ev10, ew, Nat.reduceEqDiff, reduceCtorEq, Nat.reduceAdd, Nat.reduceSub, Nat.reduceMul, Nat.reduceLT, Nat.reduceLeDiff, Int.reduceLT, Int.reduceLE, Int.reduceEq, Int.reduceNe, Int.reduceAdd, Int.reduceSub, Int.reduceMul, Int.reduceNeg, Int.reduceToNat, q_ret1]
        refine Ret.less (Sub.upd hb) ?_
        exact h
      | true =>
        simp only [ev0, ev1, ev2, ev3, ev4, ev5, ev6, ev7, ev8, ev9, ev10, ew, Nat.reduceEqDiff, reduceCtorEq, Nat.reduceAdd, Nat.reduceSub, Nat.reduceMul, Nat.reduceLT, Nat.reduceLeDiff, Int.reduceLT, Int.reduceLE, Int.reduceEq, Int.reduceNe, Int.reduceAdd, Int.reduceSub, Int.reduceMul, Int.reduceNeg, Int.reduceToNat, nd, nd0, upd_same, h0, h1, h2, h3, h5, h13, h14, hk]
        refine go_callI (children_spec x ?_)
        cases hcb : childrenB x.kind x.k with
        | false =>
          simp only [hk, hfb, hcb, Bool.not_false, Bool.not_true, Bool.false_or, Bool.true_or, if_true, errOf] at h
          simp only [ev0, ev1, ev2, ev3, ev4, ev5, ev6, ev7, ev8, ev9, ev10, ew, Nat.reduceEqDiff, reduceCtorEq, Nat.reduceAdd, Nat.reduceSub, Nat.reduceMul, Nat.reduceLT, Nat.reduceLeDiff, Int.reduceLT, Int.reduceLE, Int.reduceEq, Int.reduceNe, Int.reduceAdd, Int.reduceSub, Int.reduceMul, Int.reduceNeg, Int.reduceToNat, nd, nd0, upd_same, env_sent hg1, hw1, h0, h1, h2, h3, h5, h13, h14, hk]
          refine go_callI (at_spec i (.iface 226 (.sptr 3)) rfl ?_)
          simp only [ev0, ev1, ev2, ev3, ev4, ev5, ev6, ev7, ev8, ev9, ev10, ew, Nat.reduceEqDiff, reduceCtorEq, Nat.reduceAdd, Nat.reduceSub, Nat.reduceMul, Nat.reduceLT, Nat.reduceLeDiff, Int.reduceLT, Int.reduceLE, Int.reduceEq, Int.reduceNe, Int.reduceAdd, Int.reduceSub, Int.reduceMul, Int.reduceNeg, Int.reduceToNat, q_ret1]
          refine Ret.less (Sub.upd hb) ?_
          exact h
        | true =>
          simp only [hk, hfb, hcb, Bool.not_true, Bool.false_or] at h
          by_cases hsz1 : x.size < 1
          · simp only [hsz1, decide_true, Bool.true_or, if_true, errOf] at h
            simp only [ev0, ev1, ev2, ev3, ev4, ev5, ev6, ev7, ev8, ev9, ev10, ew, Nat.reduceEqDiff, reduceCtorEq, Nat.reduceAdd, Nat.reduceSub, Nat.reduceMul, Nat.reduceLT, Nat.reduceLeDiff, Int.reduceLT, Int.reduceLE, Int.reduceEq, Int.reduceNe, Int.reduceAdd, Int.reduceSub, Int.reduceMul, Int.reduceNeg, Int.reduceToNat, nd, nd0, upd_same, hsz1, h0, h1, h2, h3, h5, h13, h14, hk]
            simp only [ev0, ev1, ev2, ev3, ev4, ev5, ev6, ev7, ev8, ev9, ev10, ew, Nat.reduceEqDiff, reduceCtorEq, Nat.reduceAdd, Nat.reduceSub, Nat.reduceMul, Nat.reduceLT, Nat.reduceLeDiff, Int.reduceLT, Int.reduceLE, Int.reduceEq, Int.reduceNe, Int.reduceAdd, Int.reduceSub, Int.reduceMul, Int.reduceNeg, Int.reduceToNat, nd, nd0, upd_same, env_sent hg1, hw1, h0, h1, h2, h3, h5, h13, h14, hk]
            refine go_callI (at_spec i (.iface 226 (.sptr 3)) rfl ?_)
            simp only [ev0, ev1, ev2, ev3, ev4, ev5, ev6, ev7, ev8, ev9, ev10, ew, Nat.reduceEqDiff, reduceCtorEq, Nat.reduceAdd, Nat.reduceSub, Nat.reduceMul, Nat.reduceLT, Nat.reduceLeDiff, Int.reduceLT, Int.reduceLE, Int.reduceEq, Int.reduceNe, Int.reduceAdd, Int.reduceSub, Int.reduceMul, Int.reduceNeg, Int.reduceToNat, q_ret1]
            refine Ret.less (Sub.upd hb) ?_
            exact h
          by_cases hsz2 : (e : Int) - i < x.size
          · simp only [hsz1, hsz2, decide_true, decide_false, Bool.false_or, Bool.true_or, if_true, errOf] at h
            simp only [ev0, ev1, ev2, ev3, ev4, ev5, ev6, ev7, ev8, ev9, ev10, ew, Nat.reduceEqDiff, reduceCtorEq, Nat.reduceAdd, Nat.reduceSub, Nat.reduceMul, Nat.reduceLT, Nat.reduceLeDiff, Int.reduceLT, Int.reduceLE, Int.reduceEq, Int.reduceNe, Int.reduceAdd, Int.reduceSub, Int.reduceMul, Int.reduceNeg, Int.reduceToNat, nd, nd0, upd_same, hsz1, hsz2, hw1, h0, h1, h2, h3, h5, h13, h14, hk]
            simp only [ev0, ev1, ev2, ev3, ev4, ev5, ev6, ev7, ev8, ev9, ev10, ew, Nat.reduceEqDiff, reduceCtorEq, Nat.reduceAdd, Nat.reduceSub, Nat.reduceMul, Nat.reduceLT, Nat.reduceLeDiff, Int.reduceLT, Int.reduceLE, Int.reduceEq, Int.reduceNe, Int.reduceAdd, Int.reduceSub, Int.reduceMul, Int.reduceNeg, Int.reduceToNat, nd, nd0, upd_same, env_sent hg1, hw1, h0, h1, h2, h3, h5, h13, h14, hk]
            refine go_callI (at_spec i (.iface 226 (.sptr 3)) rfl ?_)
            simp only [ev0, ev1, ev2, ev3, ev4, ev5, ev6, ev7, ev8, ev9, ev10, ew, Nat.reduceEqDiff, reduceCtorEq, Nat.reduceAdd, Nat.reduceSub, Nat.reduceMul, Nat.reduceLT, Nat.reduceLeDiff, Int.reduceLT, Int.reduceLE, Int.reduceEq, Int.reduceNe, Int.reduceAdd, Int.reduceSub, Int.reduceMul, Int.reduceNeg, Int.reduceToNat, q_ret1]
            refine Ret.less (Sub.upd hb) ?_
            exact h
          simp only [hsz1, hsz2, decide_false, Bool.false_or] at h
          have fin : (last && !decide (x.size = (e : Int) - i)) = false → ∀ sl : Slots, sl 0 = nodes l → sl 1 = .int .i64 i → sl 2 = .int .i64 e → sl 3 = .int .i64 (31 - f : Nat) → sl 13 = .ptr b 5 0 0 →
              GoC (env gs s) 167 (bodyQ (env gs s) [.t 12] K) C52_8 [] sl (σ.upd b (.row 5 [x.av])) := fun hl3 sl a0 a1 a2 a3 a13 => by
            rw [hl3] at h
            simp only [Bool.false_eq_true, if_false] at h
            exact look_c8 hg1 hg2 l hl f i e x b hf (hs x hxm).1.2.2.1.2 hie hel hb (fun f' hf' => ih f' hf') (by omega) (by omega) sl a0 a1 a2 a3 a13 h
          cases last with
          | false =>
            simp only [ev0, ev1, ev2, ev3, ev4, ev5, ev6, ev7, ev8, ev9, ev10, ew, Nat.reduceEqDiff, reduceCtorEq, Nat.reduceAdd, Nat.reduceSub, Nat.reduceMul, Nat.reduceLT, Nat.reduceLeDiff, Int.reduceLT, Int.reduceLE, Int.reduceEq, Int.reduceNe, Int.reduceAdd, Int.reduceSub, Int.reduceMul, Int.reduceNeg, Int.reduceToNat, nd, nd0, upd_same, hsz1, hsz2, hw1, h0, h1, h2, h3, h5, h13, h14, hk]
            refine fin rfl _ ?_ ?_ ?_ ?_ ?_ <;> simp only [ev0, ev1, ev2, ev3, ev4, ev5, ev6, ev7, ev8, ev9, ev10, ew, Nat.reduceEqDiff, reduceCtorEq, Nat.reduceAdd, Nat.reduceSub, Nat.reduceMul, Nat.reduceLT, Nat.reduceLeDiff, Int.reduceLT, Int.reduceLE, Int.reduceEq, Int.reduceNe, Int.reduceAdd, Int.reduceSub, Int.reduceMul, Int.reduceNeg, Int.reduceToNat, h0, h1, h2, h3, h13]
          | true =>
            by_cases hne : x.size = (e : Int) - i
            · simp only [ev0, ev1, ev2, ev3, ev4, ev5, ev6, ev7, ev8, ev9, ev10, ew, Nat.reduceEqDiff, reduceCtorEq, Nat.reduceAdd, Nat.reduceSub, Nat.reduceMul, Nat.reduceLT, Nat.reduceLeDiff, Int.reduceLT, Int.reduceLE, Int.reduceEq, Int.reduceNe, Int.reduceAdd, Int.reduceSub, Int.reduceMul, Int.reduceNeg, Int.reduceToNat, nd, nd0, upd_same, hsz1, hw1, h0, h1, h2, h3, h5, h13, h14, hk, hsz2]
              simp only [ev0, ev1, ev2, ev3, ev4, ev5, ev6, ev7, ev8, ev9, ev10, ew, Nat.reduceEqDiff, reduceCtorEq, Nat.reduceAdd, Nat.reduceSub, Nat.reduceMul, Nat.reduceLT, Nat.reduceLeDiff, Int.reduceLT, Int.reduceLE, Int.reduceEq, Int.reduceNe, Int.reduceAdd, Int.reduceSub, Int.reduceMul, Int.reduceNeg, Int.reduceToNat, hne]
              refine fin (by rw [decide_eq_true hne]; rfl) _ ?_ ?_ ?_ ?_ ?_ <;> simp only [ev0, ev1, ev2, ev3, ev4, ev5, ev6, ev7, ev8, ev9, ev10, ew, Nat.reduceEqDiff, reduceCtorEq, Nat.reduceAdd, Nat.reduceSub, Nat.reduceMul, Nat.reduceLT, Nat.reduceLeDiff, Int.reduceLT, Int.reduceLE, Int.reduceEq, Int.reduceNe, Int.reduceAdd, Int.reduceSub, Int.reduceMul, Int.reduceNeg, Int.reduceToNat, h0, h1, h2, h3, h13]
            · simp only [hne, decide_false, Bool.true_and, Bool.not_false, if_true, errOf] at h
              simp only [ev0, ev1, ev2, ev3, ev4, ev5, ev6, ev7, ev8, ev9, ev10, ew, Nat.reduceEqDiff, reduceCtorEq, Nat.reduceAdd, Nat.reduceSub, Nat.reduceMul, Nat.reduceLT, Nat.reduceLeDiff, Int.reduceLT, Int.reduceLE, Int.reduceEq, Int.reduceNe, Int.reduceAdd, Int.reduceSub, Int.reduceMul, Int.reduceNeg, Int.reduceToNat, nd, nd0, upd_same, hsz1, hsz2, hw1, hne, h0, h1, h2, h3, h5, h13, h14, hk]
              simp only [ev0, ev1, ev2, ev3, ev4, ev5, ev6, ev7, ev8, ev9, ev10, ew, Nat.reduceEqDiff, reduceCtorEq, Nat.reduceAdd, Nat.reduceSub, Nat.reduceMul, Nat.reduceLT, Nat.reduceLeDiff, Int.reduceLT, Int.reduceLE, Int.reduceEq, Int.reduceNe, Int.reduceAdd, Int.reduceSub, Int.reduceMul, Int.reduceNeg, Int.reduceToNat, nd, nd0, upd_same, env_sent hg1, hw1, h0, h1, h2, h3, h5, h13, h14, hk]
              refine go_callI (at_spec i (.iface 226 (.sptr 3)) rfl ?_)
              simp only [ev0, ev1, ev2, ev3, ev4, ev5, ev6, ev7, ev8, ev9, ev10, ew, Nat.reduceEqDiff, reduceCtorEq, Nat.reduceAdd, Nat.reduceSub, Nat.reduceMul, Nat.reduceLT, Nat.reduceLeDiff, Int.reduceLT, Int.reduceLE, Int.reduceEq, Int.reduceNe, Int.reduceAdd, Int.reduceSub, Int.reduceMul, Int.reduceNeg, Int.reduceToNat, q_ret1]
              refine Ret.less (Sub.upd hb) ?_
              exact h
  try simp only [ev0, ev1, ev2, ev3, ev4, ev5, ev6, ev7, ev8, ev9, ev10, ew, Nat.reduceEqDiff, reduceCtorEq, Nat.reduceAdd, Nat.reduceSub, Nat.reduceMul, Nat.reduceLT, Nat.reduceLeDiff, Int.reduceLT, Int.reduceLE, Int.reduceEq, Int.reduceNe, Int.reduceAdd, Int.reduceSub, Int.reduceMul, Int.reduceNeg, Int.reduceToNat, hspl]
  cases word with
  | false =>
    simp only [ev0, ev1, ev2, ev3, ev4, ev5, ev6, ev7, ev8, ev9, ev10, ew, Nat.reduceEqDiff, reduceCtorEq, Nat.reduceAdd, Nat.reduceSub, Nat.reduceMul, Nat.reduceLT, Nat.reduceLeDiff, Int.reduceLT, Int.reduceLE, Int.reduceEq, Int.reduceNe, Int.reduceAdd, Int.reduceSub, Int.reduceMul, Int.reduceNeg, Int.reduceToNat, nd, nd0, upd_same]
    refine go_callI (hkc ?_)
    simp only [ev0, ev1, ev2, ev3, ev4, ev5, ev6, ev7, ev8, ev9, ev10, ew, Nat.reduceEqDiff, reduceCtorEq, Nat.reduceAdd, Nat.reduceSub, Nat.reduceMul, Nat.reduceLT, Nat.reduceLeDiff, Int.reduceLT, Int.reduceLE, Int.reduceEq, Int.reduceNe, Int.reduceAdd, Int.reduceSub, Int.reduceMul, Int.reduceNeg, Int.reduceToNat, nd, nd0, upd_same]
    refine front _ ?_ ?_ ?_ ?_ ?_ ?_ ?_ <;> simp only [ev0, ev1, ev2, ev3, ev4, ev5, ev6, ev7, ev8, ev9, ev10, ew, Nat.reduceEqDiff, reduceCtorEq, Nat.reduceAdd, Nat.reduceSub, Nat.reduceMul, Nat.reduceLT, Nat.reduceLeDiff, Int.reduceLT, Int.reduceLE, Int.reduceEq, Int.reduceNe, Int.reduceAdd, Int.reduceSub, Int.reduceMul, Int.reduceNeg, Int.reduceToNat, nodes]
  | true =>
    simp only [ev0, ev1, ev2, ev3, ev4, ev5, ev6, ev7, ev8, ev9, ev10, ew, Nat.reduceEqDiff, reduceCtorEq, Nat.reduceAdd, Nat.reduceSub, Nat.reduceMul, Nat.reduceLT, Nat.reduceLeDiff, Int.reduceLT, Int.reduceLE, Int.reduceEq, Int.reduceNe, Int.reduceAdd, Int.reduceSub, Int.reduceMul, Int.reduceNeg, Int.reduceToNat, nd, nd0, upd_same]
    refine go_callI (hkw ?_)
    cases hk : kindB true x.kind
    all_goals
      simp only [ev0, ev1, ev2, ev3, ev4, ev5, ev6, ev7, ev8, ev9, ev10, ew, Nat.reduceEqDiff, reduceCtorEq, Nat.reduceAdd, Nat.reduceSub, Nat.reduceMul, Nat.reduceLT, Nat.reduceLeDiff, Int.reduceLT, Int.reduceLE, Int.reduceEq, Int.reduceNe, Int.reduceAdd, Int.reduceSub, Int.reduceMul, Int.reduceNeg, Int.reduceToNat, nd, nd0, upd_same]
      refine front _ ?_ ?_ ?_ ?_ ?_ ?_ ?_ <;> simp only [ev0, ev1, ev2, ev3, ev4, ev5, ev6, ev7, ev8, ev9, ev10, ew, Nat.reduceEqDiff, reduceCtorEq, Nat.reduceAdd, Nat.reduceSub, Nat.reduceMul, Nat.reduceLT, Nat.reduceLeDiff, Int.reduceLT, Int.reduceLE, Int.reduceEq, Int.reduceNe, Int.reduceAdd, Int.reduceSub, Int.reduceMul, Int.reduceNeg, Int.reduceToNat, nodes, hk]
theorem check_spec (hg0 : 0 ∈ gs) (hg1 : 3 ∈ gs) (hg2 : 4 ∈ gs) (l : List Node) (hs : ∀ x ∈ l, x.fit) (hl : l.length ≤ 1000000000)
    (h : K (if l = [] ∨ 3000 < l.length then .iface 226 (.sptr 0) else errOf (lookE 30 l 0 false true)) σ) : ACalls (env gs s) 20 [nodes l] σ K := by
  refine A20_call rfl ?_
  unfold A20
  by_cases h1 : l = []
  · subst h1
    simp only [ev0, ev1, ev2, ev3, ev4, ev5, ev6, ev7, ev8, ev9, ev10, ew, Nat.reduceEqDiff, reduceCtorEq, Nat.reduceAdd, Nat.reduceSub, Nat.reduceMul, Nat.reduceLT, Nat.reduceLeDiff, Int.reduceLT, Int.reduceLE, Int.reduceEq, Int.reduceNe, Int.reduceAdd, Int.reduceSub, Int.reduceMul, Int.reduceNeg, Int.reduceToNat, nodes, env_sent hg0, q_ret1]
    exact Ret.here (by simpa using h)
  have hp : ((l.length : Int) = 0) = False := by
    have : l.length ≠ 0 := fun h => h1 (List.eq_nil_of_length_eq_zero h)
    simp; exact h1
  by_cases h2 : 3000 < l.length
  · have h2' : (3000 : Int) < l.length := by omega
    rw [if_pos (.inr h2)] at h
    simp only [ev0, ev1, ev2, ev3, ev4, ev5, ev6, ev7, ev8, ev9, ev10, ew, Nat.reduceEqDiff, reduceCtorEq, Nat.reduceAdd, Nat.reduceSub, Nat.reduceMul, Nat.reduceLT, Nat.reduceLeDiff, Int.reduceLT, Int.reduceLE, Int.reduceEq, Int.reduceNe, Int.reduceAdd, Int.reduceSub, Int.reduceMul, Int.reduceNeg, Int.reduceToNat, nodes, hp, h2', env_sent hg0, q_ret1]
    exact Ret.here h
  · have h2' : ¬ (3000 : Int) < l.length := by omega
    rw [if_neg (by rintro (h | h); exact h1 h; exact h2 h)] at h
    simp only [ev0, ev1, ev2, ev3, ev4, ev5, ev6, ev7, ev8, ev9, ev10, ew, Nat.reduceEqDiff, reduceCtorEq, Nat.reduceAdd, Nat.reduceSub, Nat.reduceMul, Nat.reduceLT, Nat.reduceLeDiff, Int.reduceLT, Int.reduceLE, Int.reduceEq, Int.reduceNe, Int.reduceAdd, Int.reduceSub, Int.reduceMul, Int.reduceNeg, Int.reduceToNat, nodes, hp, h2']
    refine go_callI (look_spec hg1 hg2 l (by omega) hs 30 0 l.length false true _ _ (by omega) (Nat.pos_of_ne_zero fun h => h1 (List.eq_nil_of_length_eq_zero h)) (Nat.le_refl _) ?_)
    rw [List.take_length, List.drop_zero]
    simp only [ev0, ev1, ev2, ev3, ev4, ev5, ev6, ev7, ev8, ev9, ev10, ew, Nat.reduceEqDiff, reduceCtorEq, Nat.reduceAdd, Nat.reduceSub, Nat.reduceMul, Nat.reduceLT, Nat.reduceLeDiff, Int.reduceLT, Int.reduceLE, Int.reduceEq, Int.reduceNe, Int.reduceAdd, Int.reduceSub, Int.reduceMul, Int.reduceNeg, Int.reduceToNat, q_ret1]
    exact Ret.here h
end Go.Proofs.YthmcfphafofheaaDoor
