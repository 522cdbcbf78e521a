/- Contracts: what a program may be. No statement of the seat is proved in this file. -/
import Derived.Test.YthmcfphafofheaaDoorText1
open Go Go.Proofs
namespace Go.Proofs.YthmcfphafofheaaDoor
open Pat
set_option maxRecDepth 10000
set_option linter.unusedSimpArgs false
set_option linter.unusedVariables false
variable {gs : List Nat} {s : Nat → Addr} {σ : Hp} {K : AV → Hp → Prop}
theorem fields_spec (x : Node) (hl : x.str.length ≤ 1000000000000) (h : K (.bool (fieldsB x.kind x.n x.str)) σ) : ACalls (env gs s) 91 [x.av] σ K := by
  refine A91_call rfl ?_
  unfold A91
  simp only [ev0, ev1, ev2, ev3, ev4, ev5, ev6, ev7, ev8, ev9, ev10, ew, Nat.reduceEqDiff, reduceCtorEq, Nat.reduceAdd, Nat.reduceSub, Nat.reduceMul, Nat.reduceLT, Nat.reduceLeDiff, Int.reduceLT, Int.reduceLE, Int.reduceEq, Int.reduceNe, Int.reduceAdd, Int.reduceSub, Int.reduceMul, Int.reduceNeg, Int.reduceToNat, nd, nd0]
  have e2000 : ((x.str.length : Int) ≤ 2000) = (x.str.length ≤ 2000) := by rw [eq_iff_iff]; omega
  refine go_block ?_
  by_cases h1 : x.kind = 1
  · by_cases hn0 : x.n = 0
    · simp only [ev0, ev1, ev2, ev3, ev4, ev5, ev6, ev7, ev8, ev9, ev10, ew, Nat.reduceEqDiff, reduceCtorEq, Nat.reduceAdd, Nat.reduceSub, Nat.reduceMul, Nat.reduceLT, Nat.reduceLeDiff, Int.reduceLT, Int.reduceLE, Int.reduceEq, Int.reduceNe, Int.reduceAdd, Int.reduceSub, Int.reduceMul, Int.reduceNeg, Int.reduceToNat, nd, h1, hn0, q_ret1, e2000]
      refine Ret.here ?_
      simpa [fieldsB, h1, hn0] using h
    · by_cases hn1 : x.n = 1
      · simp only [ev0, ev1, ev2, ev3, ev4, ev5, ev6, ev7, ev8, ev9, ev10, ew, Nat.reduceEqDiff, reduceCtorEq, Nat.reduceAdd, Nat.reduceSub, Nat.reduceMul, Nat.reduceLT, Nat.reduceLeDiff, Int.reduceLT, Int.reduceLE, Int.reduceEq, Int.reduceNe, Int.reduceAdd, Int.reduceSub, Int.reduceMul, Int.reduceNeg, Int.reduceToNat, nd, h1, hn1]
        refine go_callI (closed_spec x.str hl ?_)
        cases hb : openB x.str
        all_goals
          simp only [ev0, ev1, ev2, ev3, ev4, ev5, ev6, ev7, ev8, ev9, ev10, ew, Nat.reduceEqDiff, reduceCtorEq, Nat.reduceAdd, Nat.reduceSub, Nat.reduceMul, Nat.reduceLT, Nat.reduceLeDiff, Int.reduceLT, Int.reduceLE, Int.reduceEq, Int.reduceNe, Int.reduceAdd, Int.reduceSub, Int.reduceMul, Int.reduceNeg, Int.reduceToNat, nd, hb, q_ret1, e2000]
          refine Ret.here ?_
          simpa [fieldsB, h1, hn1, hb] using h
      · simp only [ev0, ev1, ev2, ev3, ev4, ev5, ev6, ev7, ev8, ev9, ev10, ew, Nat.reduceEqDiff, reduceCtorEq, Nat.reduceAdd, Nat.reduceSub, Nat.reduceMul, Nat.reduceLT, Nat.reduceLeDiff, Int.reduceLT, Int.reduceLE, Int.reduceEq, Int.reduceNe, Int.reduceAdd, Int.reduceSub, Int.reduceMul, Int.reduceNeg, Int.reduceToNat, nd, h1, hn0, hn1, q_ret1]
        refine Ret.here ?_
        simpa [fieldsB, h1, hn0, hn1] using h
  · by_cases h11 : x.kind = 11
    · by_cases a1 : 1 ≤ x.n <;> by_cases a2 : x.n ≤ 99
      all_goals
        simp only [ev0, ev1, ev2, ev3, ev4, ev5, ev6, ev7, ev8, ev9, ev10, ew, Nat.reduceEqDiff, reduceCtorEq, Nat.reduceAdd, Nat.reduceSub, Nat.reduceMul, Nat.reduceLT, Nat.reduceLeDiff, Int.reduceLT, Int.reduceLE, Int.reduceEq, Int.reduceNe, Int.reduceAdd, Int.reduceSub, Int.reduceMul, Int.reduceNeg, Int.reduceToNat, nd, h11, a1, a2, q_ret1]
        refine Ret.here ?_
        simpa [fieldsB, h11, a1, a2] using h
    · by_cases h33 : x.kind = 33
      · by_cases a1 : 1 ≤ x.n <;> by_cases a2 : x.n ≤ 3
        all_goals
          simp only [ev0, ev1, ev2, ev3, ev4, ev5, ev6, ev7, ev8, ev9, ev10, ew, Nat.reduceEqDiff, reduceCtorEq, Nat.reduceAdd, Nat.reduceSub, Nat.reduceMul, Nat.reduceLT, Nat.reduceLeDiff, Int.reduceLT, Int.reduceLE, Int.reduceEq, Int.reduceNe, Int.reduceAdd, Int.reduceSub, Int.reduceMul, Int.reduceNeg, Int.reduceToNat, nd, h33, a1, a2, q_ret1]
          refine Ret.here ?_
          simpa [fieldsB, h33, a1, a2] using h
      · by_cases hn0 : x.n = 0
        · by_cases h2 : x.kind = 2
          · simp only [ev0, ev1, ev2, ev3, ev4, ev5, ev6, ev7, ev8, ev9, ev10, ew, Nat.reduceEqDiff, reduceCtorEq, Nat.reduceAdd, Nat.reduceSub, Nat.reduceMul, Nat.reduceLT, Nat.reduceLeDiff, Int.reduceLT, Int.reduceLE, Int.reduceEq, Int.reduceNe, Int.reduceAdd, Int.reduceSub, Int.reduceMul, Int.reduceNeg, Int.reduceToNat, nd, h2, hn0]
            refine go_callI (name_spec x.str hl ?_)
            cases hb : nameB x.str
            all_goals
              simp only [ev0, ev1, ev2, ev3, ev4, ev5, ev6, ev7, ev8, ev9, ev10, ew, Nat.reduceEqDiff, reduceCtorEq, Nat.reduceAdd, Nat.reduceSub, Nat.reduceMul, Nat.reduceLT, Nat.reduceLeDiff, Int.reduceLT, Int.reduceLE, Int.reduceEq, Int.reduceNe, Int.reduceAdd, Int.reduceSub, Int.reduceMul, Int.reduceNeg, Int.reduceToNat, nd, hb, q_ret1]
              refine Ret.here ?_
              simpa [fieldsB, h2, hn0, hb] using h
          · simp only [ev0, ev1, ev2, ev3, ev4, ev5, ev6, ev7, ev8, ev9, ev10, ew, Nat.reduceEqDiff, reduceCtorEq, Nat.reduceAdd, Nat.reduceSub, Nat.reduceMul, Nat.reduceLT, Nat.reduceLeDiff, Int.reduceLT, Int.reduceLE, Int.reduceEq, Int.reduceNe, Int.reduceAdd, Int.reduceSub, Int.reduceMul, Int.reduceNeg, Int.reduceToNat, nd, h1, h11, h33, h2, hn0]
            refine go_callI (named_spec x.kind ?_)
            by_cases hm : x.kind ∈ [2, 22, 29, 31, 35]
            · simp only [ev0, ev1, ev2, ev3, ev4, ev5, ev6, ev7, ev8, ev9, ev10, ew, Nat.reduceEqDiff, reduceCtorEq, Nat.reduceAdd, Nat.reduceSub, Nat.reduceMul, Nat.reduceLT, Nat.reduceLeDiff, Int.reduceLT, Int.reduceLE, Int.reduceEq, Int.reduceNe, Int.reduceAdd, Int.reduceSub, Int.reduceMul, Int.reduceNeg, Int.reduceToNat, nd, hm]
              refine go_callI (name_spec x.str hl ?_)
              simp only [ev0, ev1, ev2, ev3, ev4, ev5, ev6, ev7, ev8, ev9, ev10, ew, Nat.reduceEqDiff, reduceCtorEq, Nat.reduceAdd, Nat.reduceSub, Nat.reduceMul, Nat.reduceLT, Nat.reduceLeDiff, Int.reduceLT, Int.reduceLE, Int.reduceEq, Int.reduceNe, Int.reduceAdd, Int.reduceSub, Int.reduceMul, Int.reduceNeg, Int.reduceToNat, q_ret1]
              refine Ret.here ?_
              have : fieldsB x.kind x.n x.str = nameB x.str := by
                unfold fieldsB
                rw [if_neg h1, if_neg h11, if_neg h33, if_neg (by omega), if_neg h2, if_pos hm]
              rwa [this] at h
            · simp only [ev0, ev1, ev2, ev3, ev4, ev5, ev6, ev7, ev8, ev9, ev10, ew, Nat.reduceEqDiff, reduceCtorEq, Nat.reduceAdd, Nat.reduceSub, Nat.reduceMul, Nat.reduceLT, Nat.reduceLeDiff, Int.reduceLT, Int.reduceLE, Int.reduceEq, Int.reduceNe, Int.reduceAdd, Int.reduceSub, Int.reduceMul, Int.reduceNeg, Int.reduceToNat, nd, hm, q_ret1]
              refine Ret.here ?_
              have : fieldsB x.kind x.n x.str = decide (x.str = []) := by
                unfold fieldsB
                rw [if_neg h1, if_neg h11, if_neg h33, if_neg (by omega), if_neg h2, if_neg hm]
              rwa [this] at h
        · simp only [ev0, ev1, ev2, ev3, ev4, ev5, ev6, ev7, ev8, ev9, ev10, ew, Nat.reduceEqDiff, reduceCtorEq, Nat.reduceAdd, Nat.reduceSub, Nat.reduceMul, Nat.reduceLT, Nat.reduceLeDiff, Int.reduceLT, Int.reduceLE, Int.reduceEq, Int.reduceNe, Int.reduceAdd, Int.reduceSub, Int.reduceMul, Int.reduceNeg, Int.reduceToNat, nd, h1, h11, h33, hn0, q_ret1]
          refine Ret.here ?_
          simpa [fieldsB, h1, h11, h33, hn0] using h

/-- The fault of a node. -/
def errAV (e : Int × Bool) : AV := .iface 82 (.re (.agg [.int .i64 e.1, .iface 226 (.sptr (if e.2 then 4 else 3))]) 0)
def errOf : Option (Int × Bool) → AV
  | none => .nilIface
  | some e => errAV e
theorem look_size {f : Nat} {y : Node} {r : List Node} {pos : Int} {word last : Bool} (h : lookE f (y :: r) pos word last = none) : 1 ≤ y.size ∧ y.size ≤ r.length + 1 := by
  unfold lookE at h
  split at h
  · cases h
  · rename_i hc
    simp only [Bool.or_eq_true, not_or, decide_eq_true_eq] at hc
    omega
theorem few_len : ∀ (n : Nat) (l : List Node), few (n + 1) l = false → l ≠ []
  | n, [], h => by simp [few] at h
  | n, y :: r, _ => by simp
end Go.Proofs.YthmcfphafofheaaDoor
