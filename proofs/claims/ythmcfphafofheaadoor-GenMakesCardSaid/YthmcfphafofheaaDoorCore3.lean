/- Contracts: what a node may be. No statement of the seat is proved in this file. -/
import Derived.Test.YthmcfphafofheaaDoorCore2
open Go Go.Proofs
namespace Go.Proofs.YthmcfphafofheaaDoor
open Pat
set_option maxRecDepth 10000
set_option linter.unusedSimpArgs false
set_option linter.unusedVariables false
variable {gs : List Nat} {s : Nat → Addr} {σ : Hp} {K : AV → Hp → Prop}
theorem at_spec (i : Int) (e : AV) (he : e.one = true) (h : K (.iface 82 (.re (.agg [.int .i64 i, e]) 0)) σ) : ACalls (env gs s) 93 [.int .i64 i, e] σ K := by
  obtain ⟨c1, c2, _⟩ := one_cells he
  refine A93_call rfl ?_
  unfold A93
  simp only [ev0, ev1, ev2, ev3, ev4, ev5, ev6, ev7, ev8, ev9, ev10, ew, Nat.reduceEqDiff, reduceCtorEq, Nat.reduceAdd, Nat.reduceSub, Nat.reduceMul, Nat.reduceLT, Nat.reduceLeDiff, Int.reduceLT, Int.reduceLE, Int.reduceEq, Int.reduceNe, Int.reduceAdd, Int.reduceSub, Int.reduceMul, Int.reduceNeg, Int.reduceToNat]
  refine ⟨by simp [partsOk, avc, c1, c2], ?_⟩
  simp only [fillA, avc, c1, List.take, List.drop, List.cons_append, List.nil_append, List.length_cons, List.length_nil, Nat.reduceAdd]
  simp only [ev0, ev1, ev2, ev3, ev4, ev5, ev6, ev7, ev8, ev9, ev10, ew, Nat.reduceEqDiff, reduceCtorEq, Nat.reduceAdd, Nat.reduceSub, Nat.reduceMul, Nat.reduceLT, Nat.reduceLeDiff, Int.reduceLT, Int.reduceLE, Int.reduceEq, Int.reduceNe, Int.reduceAdd, Int.reduceSub, Int.reduceMul, Int.reduceNeg, Int.reduceToNat, avc, q_ret1]
  exact Ret.here h
theorem takes_spec (x : Node) (k : Int) (hx : -9223372036854775807 ≤ x.k ∧ x.k ≤ 9223372036854775807) (h : K (.bool (takesB x.kind k x.k)) σ) : ACalls (env gs s) 94 [x.av, .int .i64 k] σ K := by
  refine A94_call rfl ?_
  unfold A94
  simp only [ev0, ev1, ev2, ev3, ev4, ev5, ev6, ev7, ev8, ev9, ev10, ew, Nat.reduceEqDiff, reduceCtorEq, Nat.reduceAdd, Nat.reduceSub, Nat.reduceMul, Nat.reduceLT, Nat.reduceLeDiff, Int.reduceLT, Int.reduceLE, Int.reduceEq, Int.reduceNe, Int.reduceAdd, Int.reduceSub, Int.reduceMul, Int.reduceNeg, Int.reduceToNat, nd, nd0]
  refine go_block ?_
  have hw : IntKind.i64.wrap (x.k - 1) = x.k - 1 := i64_id _ (by omega) (by omega)
  simp only [ev0, ev1, ev2, ev3, ev4, ev5, ev6, ev7, ev8, ev9, ev10, ew, Nat.reduceEqDiff, reduceCtorEq, Nat.reduceAdd, Nat.reduceSub, Nat.reduceMul, Nat.reduceLT, Nat.reduceLeDiff, Int.reduceLT, Int.reduceLE, Int.reduceEq, Int.reduceNe, Int.reduceAdd, Int.reduceSub, Int.reduceMul, Int.reduceNeg, Int.reduceToNat, nd]
  by_cases hk0 : k = 0
  all_goals repeat' first
    | simp only [ev0, ev1, ev2, ev3, ev4, ev5, ev6, ev7, ev8, ev9, ev10, ew, Nat.reduceEqDiff, reduceCtorEq, Nat.reduceAdd, Nat.reduceSub, Nat.reduceMul, Nat.reduceLT, Nat.reduceLeDiff, Int.reduceLT, Int.reduceLE, Int.reduceEq, Int.reduceNe, Int.reduceAdd, Int.reduceSub, Int.reduceMul, Int.reduceNeg, Int.reduceToNat, nd, *, q_ret1]
    | refine gob_split (fun hh => ?_) (fun hh => ?_)
  all_goals (refine Ret.here ?_; simp [takesB, *] at h ⊢; exact h)
theorem children_spec (x : Node) (h : K (.bool (childrenB x.kind x.k)) σ) : ACalls (env gs s) 92 [x.av] σ K := by
  refine A92_call rfl ?_
  unfold A92
  simp only [ev0, ev1, ev2, ev3, ev4, ev5, ev6, ev7, ev8, ev9, ev10, ew, Nat.reduceEqDiff, reduceCtorEq, Nat.reduceAdd, Nat.reduceSub, Nat.reduceMul, Nat.reduceLT, Nat.reduceLeDiff, Int.reduceLT, Int.reduceLE, Int.reduceEq, Int.reduceNe, Int.reduceAdd, Int.reduceSub, Int.reduceMul, Int.reduceNeg, Int.reduceToNat, nd, nd0]
  refine go_block ?_
  by_cases hk0 : (1 : Int) ≤ x.k
  all_goals repeat' first
    | simp only [ev0, ev1, ev2, ev3, ev4, ev5, ev6, ev7, ev8, ev9, ev10, ew, Nat.reduceEqDiff, reduceCtorEq, Nat.reduceAdd, Nat.reduceSub, Nat.reduceMul, Nat.reduceLT, Nat.reduceLeDiff, Int.reduceLT, Int.reduceLE, Int.reduceEq, Int.reduceNe, Int.reduceAdd, Int.reduceSub, Int.reduceMul, Int.reduceNeg, Int.reduceToNat, nd, *, q_ret1]
    | refine gob_split (fun hh => ?_) (fun hh => ?_)
  all_goals (refine Ret.here ?_; simp [childrenB, *] at h ⊢; exact h)
end Go.Proofs.YthmcfphafofheaaDoor
