/- Contracts: nodes are copied, made, put together. No statement of the seat is proved in this file. -/
import Derived.Test.YthmcfphafofheaaDoorCodeCore
import Derived.Test.YthmcfphafofheaaDoorTree
open Go Go.Proofs
namespace Go.Proofs.YthmcfphafofheaaDoor
open Pat
set_option maxRecDepth 10000
set_option linter.unusedSimpArgs false
set_option linter.unusedVariables false

def Node.av (x : Node) : AV := .agg [.int .i64 x.kind, .int .i64 x.n, .int .i64 x.k, .int .i64 x.size, .str x.str]
def nodes (l : List Node) : AV := .rd 5 (l.map Node.av)

variable {gs : List Nat} {s : Nat → Addr} {σ : Hp} {K : AV → Hp → Prop}
theorem nd : (∀ x : Node, Pat.part false 1 x.av.cells 0 = some (.int .i64 x.kind)) ∧ (∀ x : Node, Pat.part false 1 x.av.cells 1 = some (.int .i64 x.n)) ∧ (∀ x : Node, Pat.part false 1 x.av.cells 2 = some (.int .i64 x.k)) ∧
    (∀ x : Node, Pat.part false 1 x.av.cells 3 = some (.int .i64 x.size)) ∧ (∀ x : Node, Pat.part false 1 x.av.cells 4 = some (.str x.str)) := ⟨fun _ => rfl, fun _ => rfl, fun _ => rfl, fun _ => rfl, fun _ => rfl⟩
theorem av_scalar (x : Node) : ∀ y ∈ x.av.cells, y.scalar = true := by
  intro y hy
  simp only [Node.av, AV.cells, List.mem_cons, List.not_mem_nil, or_false] at hy
  rcases hy with rfl | rfl | rfl | rfl | rfl <;> rfl
theorem nd0 : (∀ x : Node, x.av.cells.length = 5) ∧ (∀ x : Node, x.av.known = true) ∧ (∀ x : Node, Pat.part true 5 x.av.cells 0 = some x.av) ∧ (∀ x : Node, (∀ y ∈ x.av.cells, y.scalar = true) ↔ True) ∧
    (∀ x : Node, (AV.agg [AV.int IntKind.i64 0, AV.int IntKind.i64 0, AV.int IntKind.i64 0, AV.int IntKind.i64 0, AV.str []]).splice 0 x.av.cells = x.av) ∧ (AV.agg [AV.int IntKind.i64 0, AV.int IntKind.i64 0, AV.int IntKind.i64 0, AV.int IntKind.i64 0, AV.str []]).cells.length = 5 :=
  ⟨fun _ => rfl, fun _ => rfl, fun _ => rfl, fun x => ⟨fun _ => trivial, fun _ => av_scalar x⟩, fun _ => rfl, rfl⟩
theorem nodes_ok (l : List Node) : (∀ y ∈ l.map Node.av, y.cells.length = 5) ∧ (∀ y ∈ l.map Node.av, ∀ c ∈ y.cells, c.scalar = true) := by
  constructor
  · intro y hy
    obtain ⟨x, _, rfl⟩ := List.mem_map.1 hy
    rfl
  · intro y hy c hc
    obtain ⟨x, _, rfl⟩ := List.mem_map.1 hy
    simp only [Node.av, AV.cells, List.mem_cons, List.not_mem_nil, or_false] at hc
    rcases hc with rfl | rfl | rfl | rfl | rfl <;> rfl
theorem clone_spec (l : List Node) (hl : l.length ≤ 1000000000) (h : ∀ v σ', Lst σ σ' v 5 (l.map Node.av) → K v σ') : ACalls (env gs s) 47 [nodes l] σ K := by
  refine A47_call rfl ?_
  unfold A47
  simp only [ev0, ev1, ev2, ev3, ev4, ev5, ev6, ev7, ev8, ev9, ev10, ew, Nat.reduceEqDiff, reduceCtorEq, Nat.reduceAdd, Nat.reduceSub, Nat.reduceMul, Nat.reduceLT, Nat.reduceLeDiff, Int.reduceLT, Int.reduceLE, Int.reduceEq, Int.reduceNe, Int.reduceAdd, Int.reduceSub, Int.reduceMul, Int.reduceNeg, Int.reduceToNat, nodes, q_ret1]
  refine ⟨fun hn => ?_, ?_⟩
  · have : l = [] := by simpa using hn
    subst this
    exact Ret.here (h _ _ (Lst.nil _ _))
  · simp only [view]
    refine (Lst.nil σ 5).app (nodes_ok l).1 (nodes_ok l).2 (by simp; omega) fun v σ' hv => ?_
    simp only [ev0, ev1, ev2, ev3, ev4, ev5, ev6, ev7, ev8, ev9, ev10, ew, Nat.reduceEqDiff, reduceCtorEq, Nat.reduceAdd, Nat.reduceSub, Nat.reduceMul, Nat.reduceLT, Nat.reduceLeDiff, Int.reduceLT, Int.reduceLE, Int.reduceEq, Int.reduceNe, Int.reduceAdd, Int.reduceSub, Int.reduceMul, Int.reduceNeg, Int.reduceToNat, q_ret1]
    exact Ret.here (h _ _ hv)
theorem clone_fz (l : List Node) (hl : l.length ≤ 1000000000) (h : K (nodes l) σ) : ACalls (env gs s) 47 [nodes l] σ K :=
  .ret (clone_spec l hl fun v σ' hv => Ret.as hv.sub hv.fz h)

/-- core.New. -/
def newI (σ : Hp) (kind n : Int) (str : List UInt8) (ks : List (List Node)) (m : Nat) (vs : List AV) (σ' : Hp) : Prop :=
  ∃ (v : AV) (i : Nat), vs = [v, .int .i64 i] ∧ Lst σ σ' v 5 ((⟨kind, n, ks.length, 0, str⟩ :: (ks.take i).flatten : List Node).map Node.av) ∧ i ≤ ks.length ∧ m = ks.length - i
def newL (kind n : Int) (str : List UInt8) (ks : List (List Node)) : List Node := ⟨kind, n, ks.length, ks.flatten.length + 1, str⟩ :: ks.flatten
theorem new_spec (kind n : Int) (str : List UInt8) (ks : List (List Node)) (hk : ks.flatten.length ≤ 1000000000) (hk2 : ks.length ≤ 1000000000) (h : K (nodes (newL kind n str ks)) σ) :
    ACalls (env gs s) 14 [.int .i64 kind, .int .i64 n, .str str, .rd 1 (ks.map nodes)] σ K := by
  refine A14_call rfl ?_
  unfold A14
  simp only [ev0, ev1, ev2, ev3, ev4, ev5, ev6, ev7, ev8, ev9, ev10, ew, Nat.reduceEqDiff, reduceCtorEq, Nat.reduceAdd, Nat.reduceSub, Nat.reduceMul, Nat.reduceLT, Nat.reduceLeDiff, Int.reduceLT, Int.reduceLE, Int.reduceEq, Int.reduceNe, Int.reduceAdd, Int.reduceSub, Int.reduceMul, Int.reduceNeg, Int.reduceToNat]
  refine ⟨by simp [partsOk, AV.known, AV.cells], ?_⟩
  simp only [fillA, AV.cells, List.take, List.drop, List.cons_append, List.nil_append, List.length_cons, List.length_nil, Nat.reduceAdd]
  simp only [ev0, ev1, ev2, ev3, ev4, ev5, ev6, ev7, ev8, ev9, ev10, ew, Nat.reduceEqDiff, reduceCtorEq, Nat.reduceAdd, Nat.reduceSub, Nat.reduceMul, Nat.reduceLT, Nat.reduceLeDiff, Int.reduceLT, Int.reduceLE, Int.reduceEq, Int.reduceNe, Int.reduceAdd, Int.reduceSub, Int.reduceMul, Int.reduceNeg, Int.reduceToNat]
  intro b hb
  refine go_block ?_
  refine go_loop W14_0 [19, 20] [.rd 1 (ks.map nodes), .int .i64 ks.length] [9, 21] (newI σ kind n str ks) A14_0_wr rfl ?_ ?_ ?_
  · simp only [ev0, ev1, ev2, ev3, ev4, ev5, ev6, ev7, ev8, ev9, ev10, ew, Nat.reduceEqDiff, reduceCtorEq, Nat.reduceAdd, Nat.reduceSub, Nat.reduceMul, Nat.reduceLT, Nat.reduceLeDiff, Int.reduceLT, Int.reduceLE, Int.reduceEq, Int.reduceNe, Int.reduceAdd, Int.reduceSub, Int.reduceMul, Int.reduceNeg, Int.reduceToNat]
  · refine ⟨ks.length, _, _, Sub.refl _, FzL.refl _ _ _, _, 0, ?_, Lst.one hb, by omega, rfl⟩
    simp only [ev0, ev1, ev2, ev3, ev4, ev5, ev6, ev7, ev8, ev9, ev10, ew, Nat.reduceEqDiff, reduceCtorEq, Nat.reduceAdd, Nat.reduceSub, Nat.reduceMul, Nat.reduceLT, Nat.reduceLeDiff, Int.reduceLT, Int.reduceLE, Int.reduceEq, Int.reduceNe, Int.reduceAdd, Int.reduceSub, Int.reduceMul, Int.reduceNeg, Int.reduceToNat]
  · rintro m vs σ' - ⟨v, i, rfl, hv, hi, rfl⟩
    unfold A14_0
    by_cases hc : (i : Int) < ks.length
    · simp only [ev0, ev1, ev2, ev3, ev4, ev5, ev6, ev7, ev8, ev9, ev10, ew, Nat.reduceEqDiff, reduceCtorEq, Nat.reduceAdd, Nat.reduceSub, Nat.reduceMul, Nat.reduceLT, Nat.reduceLeDiff, Int.reduceLT, Int.reduceLE, Int.reduceEq, Int.reduceNe, Int.reduceAdd, Int.reduceSub, Int.reduceMul, Int.reduceNeg, Int.reduceToNat, hc]
      refine go_block ?_
      obtain ⟨x, hx⟩ : ∃ x, ks[i]? = some x := ⟨ks[i]'(by omega), List.getElem?_eq_getElem _⟩
      have hp : Pat.part false 1 (nodes x).cells 0 = some (nodes x) := rfl
      simp only [ev0, ev1, ev2, ev3, ev4, ev5, ev6, ev7, ev8, ev9, ev10, ew, Nat.reduceEqDiff, reduceCtorEq, Nat.reduceAdd, Nat.reduceSub, Nat.reduceMul, Nat.reduceLT, Nat.reduceLeDiff, Int.reduceLT, Int.reduceLE, Int.reduceEq, Int.reduceNe, Int.reduceAdd, Int.reduceSub, Int.reduceMul, Int.reduceNeg, Int.reduceToNat, hx, hp]
      have hfl : ((ks.take i).flatten ++ x).length ≤ 1000000000 := by
        have h1 : ks.take (i + 1) = ks.take i ++ [x] := by rw [List.take_add_one, hx]; rfl
        have h2 : (ks.take (i + 1)).flatten.length ≤ ks.flatten.length := by
          conv => rhs; rw [← List.take_append_drop (i + 1) ks, List.flatten_append, List.length_append]
          omega
        rw [h1] at h2
        simpa using Nat.le_trans h2 hk
      have hw : IntKind.i64.wrap (i + 1) = (i + 1 : Nat) := i64_id _ (by omega) (by omega)
      refine hv.app (nodes_ok x).1 (nodes_ok x).2 (by simp only [List.length_map, List.length_cons, List.length_append] at hfl ⊢; omega) fun v' σ'' hv' => ?_
      simp only [ev0, ev1, ev2, ev3, ev4, ev5, ev6, ev7, ev8, ev9, ev10, ew, Nat.reduceEqDiff, reduceCtorEq, Nat.reduceAdd, Nat.reduceSub, Nat.reduceMul, Nat.reduceLT, Nat.reduceLeDiff, Int.reduceLT, Int.reduceLE, Int.reduceEq, Int.reduceNe, Int.reduceAdd, Int.reduceSub, Int.reduceMul, Int.reduceNeg, Int.reduceToNat, hw]
      refine loop_next (ks.length - (i + 1)) (by omega) ⟨v', i + 1, ?_, ?_, by omega, rfl⟩
      · simp only [ev0, ev1, ev2, ev3, ev4, ev5, ev6, ev7, ev8, ev9, ev10, ew, Nat.reduceEqDiff, reduceCtorEq, Nat.reduceAdd, Nat.reduceSub, Nat.reduceMul, Nat.reduceLT, Nat.reduceLeDiff, Int.reduceLT, Int.reduceLE, Int.reduceEq, Int.reduceNe, Int.reduceAdd, Int.reduceSub, Int.reduceMul, Int.reduceNeg, Int.reduceToNat]
      · have h1 : ks.take (i + 1) = ks.take i ++ [x] := by rw [List.take_add_one, hx]; rfl
        rw [h1]
        simpa using hv'
    · have hi' : i = ks.length := by omega
      subst hi'
      simp only [ev0, ev1, ev2, ev3, ev4, ev5, ev6, ev7, ev8, ev9, ev10, ew, Nat.reduceEqDiff, reduceCtorEq, Nat.reduceAdd, Nat.reduceSub, Nat.reduceMul, Nat.reduceLT, Nat.reduceLeDiff, Int.reduceLT, Int.reduceLE, Int.reduceEq, Int.reduceNe, Int.reduceAdd, Int.reduceSub, Int.reduceMul, Int.reduceNeg, Int.reduceToNat, hc, loop_exit, kont_gox]
      obtain ⟨b', hb', rfl, rfl⟩ := hv.ne (by simp)
      simp only [ev0, ev1, ev2, ev3, ev4, ev5, ev6, ev7, ev8, ev9, ev10, ew, Nat.reduceEqDiff, reduceCtorEq, Nat.reduceAdd, Nat.reduceSub, Nat.reduceMul, Nat.reduceLT, Nat.reduceLeDiff, Int.reduceLT, Int.reduceLE, Int.reduceEq, Int.reduceNe, Int.reduceAdd, Int.reduceSub, Int.reduceMul, Int.reduceNeg, Int.reduceToNat, upd_same, upd_upd, List.set_cons_zero]
      refine ⟨by omega, ?_⟩
      simp only [ev0, ev1, ev2, ev3, ev4, ev5, ev6, ev7, ev8, ev9, ev10, ew, Nat.reduceEqDiff, reduceCtorEq, Nat.reduceAdd, Nat.reduceSub, Nat.reduceMul, Nat.reduceLT, Nat.reduceLeDiff, Int.reduceLT, Int.reduceLE, Int.reduceEq, Int.reduceNe, Int.reduceAdd, Int.reduceSub, Int.reduceMul, Int.reduceNeg, Int.reduceToNat, upd_same, upd_upd, List.set_cons_zero, AV.cells, Node.av, AV.splice, List.take, List.drop, AV.scalar]
      refine ⟨by simp, ?_⟩
      simp only [ev0, ev1, ev2, ev3, ev4, ev5, ev6, ev7, ev8, ev9, ev10, ew, Nat.reduceEqDiff, reduceCtorEq, Nat.reduceAdd, Nat.reduceSub, Nat.reduceMul, Nat.reduceLT, Nat.reduceLeDiff, Int.reduceLT, Int.reduceLE, Int.reduceEq, Int.reduceNe, Int.reduceAdd, Int.reduceSub, Int.reduceMul, Int.reduceNeg, Int.reduceToNat, q_ret1, List.take_length]
      have hl2 : Lst σ (σ.upd b' (.row 5 ((newL kind n str ks).map Node.av))) (.own b' 5 0 (ks.flatten.length + 1)) 5 ((newL kind n str ks).map Node.av) := .inr ⟨b', hb', by simp only [newL, List.length_map, List.length_cons], rfl⟩
      exact Ret.as hl2.sub hl2.fz h
theorem new0_spec (kind n : Int) (str : List UInt8) (h : K (nodes [⟨kind, n, 0, 1, str⟩]) σ) : ACalls (env gs s) 14 [.int .i64 kind, .int .i64 n, .str str, .nils] σ K :=
  .args (args' := [.int .i64 kind, .int .i64 n, .str str, .rd 1 (([] : List (List Node)).map nodes)]) ⟨Fz.refl _ _ _, Fz.refl _ _ _, Fz.refl _ _ _, Fz.nils _ _ _, trivial⟩ (new_spec kind n str [] (by simp) (by simp) h)
/-- core.Lit. -/
theorem lit_spec (str : List UInt8) (h : K (nodes [⟨1, 0, 0, 1, str⟩]) σ) : ACalls (env gs s) 15 [.str str] σ K := by
  refine A15_call rfl ?_
  unfold A15
  simp only [ev0, ev1, ev2, ev3, ev4, ev5, ev6, ev7, ev8, ev9, ev10, ew, Nat.reduceEqDiff, reduceCtorEq, Nat.reduceAdd, Nat.reduceSub, Nat.reduceMul, Nat.reduceLT, Nat.reduceLeDiff, Int.reduceLT, Int.reduceLE, Int.reduceEq, Int.reduceNe, Int.reduceAdd, Int.reduceSub, Int.reduceMul, Int.reduceNeg, Int.reduceToNat]
  refine go_callI (new0_spec 1 0 str ?_)
  simp only [ev0, ev1, ev2, ev3, ev4, ev5, ev6, ev7, ev8, ev9, ev10, ew, Nat.reduceEqDiff, reduceCtorEq, Nat.reduceAdd, Nat.reduceSub, Nat.reduceMul, Nat.reduceLT, Nat.reduceLeDiff, Int.reduceLT, Int.reduceLE, Int.reduceEq, Int.reduceNe, Int.reduceAdd, Int.reduceSub, Int.reduceMul, Int.reduceNeg, Int.reduceToNat, q_ret1]
  exact Ret.here h
/-- core.Seq. -/
def seqL : List (List Node) → List Node
  | [] => [⟨20, 0, 0, 1, []⟩]
  | [l] => l
  | ks => newL 23 0 [] ks
theorem seq_spec (ks : List (List Node)) (hk : ks.flatten.length ≤ 1000000000) (hk2 : ks.length ≤ 1000000000) (h : K (nodes (seqL ks)) σ) : ACalls (env gs s) 16 [.rd 1 (ks.map nodes)] σ K := by
  refine A16_call rfl ?_
  unfold A16
  simp only [ev0, ev1, ev2, ev3, ev4, ev5, ev6, ev7, ev8, ev9, ev10, ew, Nat.reduceEqDiff, reduceCtorEq, Nat.reduceAdd, Nat.reduceSub, Nat.reduceMul, Nat.reduceLT, Nat.reduceLeDiff, Int.reduceLT, Int.reduceLE, Int.reduceEq, Int.reduceNe, Int.reduceAdd, Int.reduceSub, Int.reduceMul, Int.reduceNeg, Int.reduceToNat]
  refine go_block ?_
  match ks, hk, hk2, h with
  | [], _, _, h =>
    simp only [ev0, ev1, ev2, ev3, ev4, ev5, ev6, ev7, ev8, ev9, ev10, ew, Nat.reduceEqDiff, reduceCtorEq, Nat.reduceAdd, Nat.reduceSub, Nat.reduceMul, Nat.reduceLT, Nat.reduceLeDiff, Int.reduceLT, Int.reduceLE, Int.reduceEq, Int.reduceNe, Int.reduceAdd, Int.reduceSub, Int.reduceMul, Int.reduceNeg, Int.reduceToNat]
    refine go_callI (new0_spec 20 0 [] ?_)
    simp only [ev0, ev1, ev2, ev3, ev4, ev5, ev6, ev7, ev8, ev9, ev10, ew, Nat.reduceEqDiff, reduceCtorEq, Nat.reduceAdd, Nat.reduceSub, Nat.reduceMul, Nat.reduceLT, Nat.reduceLeDiff, Int.reduceLT, Int.reduceLE, Int.reduceEq, Int.reduceNe, Int.reduceAdd, Int.reduceSub, Int.reduceMul, Int.reduceNeg, Int.reduceToNat, q_ret1]
    exact Ret.here h
  | [l], hk, _, h =>
    have hp : Pat.part false 1 (nodes l).cells 0 = some (nodes l) := rfl
    simp only [ev0, ev1, ev2, ev3, ev4, ev5, ev6, ev7, ev8, ev9, ev10, ew, Nat.reduceEqDiff, reduceCtorEq, Nat.reduceAdd, Nat.reduceSub, Nat.reduceMul, Nat.reduceLT, Nat.reduceLeDiff, Int.reduceLT, Int.reduceLE, Int.reduceEq, Int.reduceNe, Int.reduceAdd, Int.reduceSub, Int.reduceMul, Int.reduceNeg, Int.reduceToNat, hp]
    refine go_callI (clone_fz l (by simpa using hk) ?_)
    simp only [ev0, ev1, ev2, ev3, ev4, ev5, ev6, ev7, ev8, ev9, ev10, ew, Nat.reduceEqDiff, reduceCtorEq, Nat.reduceAdd, Nat.reduceSub, Nat.reduceMul, Nat.reduceLT, Nat.reduceLeDiff, Int.reduceLT, Int.reduceLE, Int.reduceEq, Int.reduceNe, Int.reduceAdd, Int.reduceSub, Int.reduceMul, Int.reduceNeg, Int.reduceToNat, q_ret1]
    exact Ret.here h
  | a :: b :: ks, hk, hk2, h =>
    have h1 : (((ks.length + 1 + 1 : Nat) : Int) = 1) = False := by simp; omega
    simp only [ev0, ev1, ev2, ev3, ev4, ev5, ev6, ev7, ev8, ev9, ev10, ew, Nat.reduceEqDiff, reduceCtorEq, Nat.reduceAdd, Nat.reduceSub, Nat.reduceMul, Nat.reduceLT, Nat.reduceLeDiff, Int.reduceLT, Int.reduceLE, Int.reduceEq, Int.reduceNe, Int.reduceAdd, Int.reduceSub, Int.reduceMul, Int.reduceNeg, Int.reduceToNat, h1]
    refine go_callI (new_spec 23 0 [] (a :: b :: ks) hk hk2 ?_)
    simp only [ev0, ev1, ev2, ev3, ev4, ev5, ev6, ev7, ev8, ev9, ev10, ew, Nat.reduceEqDiff, reduceCtorEq, Nat.reduceAdd, Nat.reduceSub, Nat.reduceMul, Nat.reduceLT, Nat.reduceLeDiff, Int.reduceLT, Int.reduceLE, Int.reduceEq, Int.reduceNe, Int.reduceAdd, Int.reduceSub, Int.reduceMul, Int.reduceNeg, Int.reduceToNat, q_ret1]
    exact Ret.here h
end Go.Proofs.YthmcfphafofheaaDoor
