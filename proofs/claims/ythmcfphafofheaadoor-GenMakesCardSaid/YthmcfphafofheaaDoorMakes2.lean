/- Contracts: programs that are none are not made code. No statement of the seat is proved in this file. -/
import Derived.Test.YthmcfphafofheaaDoorMakes1
open Go Go.Proofs
namespace Go.Proofs.YthmcfphafofheaaDoor
open Pat
set_option maxRecDepth 10000
set_option maxHeartbeats 1000000
set_option linter.unusedSimpArgs false
set_option linter.unusedVariables false
variable {gs : List Nat} {s : Nat → Addr} {σ : Hp} {K : AV → Hp → Prop}
/-- What is amiss with a program. -/
def chkE (l : List Node) : Option Er :=
  if l = [] ∨ 3000 < l.length then some (.sent 10) else match lookE 30 l 0 false true with
    | none => none
    | some e => some (.at' e.1 (.sent (if e.2 then 1 else 9)))
theorem chkE_av (l : List Node) : erAV (chkE l) = (if l = [] ∨ 3000 < l.length then .iface 226 (.sptr 0) else errOf (lookE 30 l 0 false true)) := by
  unfold chkE
  split
  · rfl
  · cases h : lookE 30 l 0 false true with
    | none => rfl
    | some e => obtain ⟨p, b⟩ := e; cases b <;> rfl
theorem chkE_fit (l : List Node) : ∀ x, chkE l = some x → x.fit 8 := by
  intro x hx
  unfold chkE at hx
  split at hx
  · cases hx; show (10 : Nat) < 17; omega
  · split at hx
    · cases hx
    · rename_i e _
      cases hx
      show (if e.2 then 1 else 9) < 17
      split <;> omega
theorem chk_spec (hg : ∀ g ∈ sentG, g ∈ gs) (l : List Node) (hs : ∀ x ∈ l, x.fit) (hl : l.length ≤ 1000000000) (h : K (erAV (chkE l)) σ) : ACalls (env gs s) 20 [nodes l] σ K :=
  check_spec (hg _ (by decide)) (hg _ (by decide)) (hg _ (by decide)) l hs hl (by rw [← chkE_av]; exact h)
theorem chk_none {l : List Node} (h : chkE l = none) : ∃ t : T, l = t.flat ∧ T.ok 30 false t ∧ l.length ≤ 3000 := by
  unfold chkE at h
  split at h
  · cases h
  · rename_i hc
    split at h
    · rename_i hl
      obtain ⟨t, rest, h1, h2, h3⟩ := look_tree 30 l 0 false true (fun e => hc (.inl e)) hl
      rw [h3 rfl, List.append_nil] at h1
      refine ⟨t, h1, h2, ?_⟩
      rcases Nat.lt_or_ge 3000 l.length with h | h
      · exact absurd (.inr h) hc
      · exact h
    · cases h
theorem compile_bad (hg : ∀ g ∈ sentG, g ∈ gs) (l : List Node) (hs : ∀ x ∈ l, x.fit) (hl : l.length ≤ 1000000000) (e : Er) (he : chkE l = some e) (h : K (.tuple [.agg [.nils, .int .i64 0], e.av]) σ) : ACalls (env gs s) 17 [nodes l] σ K := by
  refine A17_call rfl ?_
  unfold A17
  simp only [ev0, ev1, ev2, ev3, ev4, ev5, ev6, ev7, ev8, ev9, ev10, ew, Nat.reduceEqDiff, reduceCtorEq, Nat.reduceAdd, Nat.reduceSub, Nat.reduceMul, Nat.reduceLT, Nat.reduceLeDiff, Int.reduceLT, Int.reduceLE, Int.reduceEq, Int.reduceNe, Int.reduceAdd, Int.reduceSub, Int.reduceMul, Int.reduceNeg, Int.reduceToNat]
  intro b2 hb2
  refine go_callI (chk_spec hg l hs hl ?_)
  rw [he]
  obtain ⟨t, v, hv⟩ := er_iface e
  rw [hv] at h
  simp only [ev0, ev1, ev2, ev3, ev4, ev5, ev6, ev7, ev8, ev9, ev10, ew, Nat.reduceEqDiff, reduceCtorEq, Nat.reduceAdd, Nat.reduceSub, Nat.reduceMul, Nat.reduceLT, Nat.reduceLeDiff, Int.reduceLT, Int.reduceLE, Int.reduceEq, Int.reduceNe, Int.reduceAdd, Int.reduceSub, Int.reduceMul, Int.reduceNeg, Int.reduceToNat, erAV, hv]
  refine ⟨by simp [partsOk, avc], ?_⟩; simp only [fillA, avc, List.take, List.drop, List.cons_append, List.nil_append, List.length_cons, List.length_nil, Nat.reduceAdd, ev0, ev1, ev2, ev3, ev4, ev5, ev6, ev7, ev8, ev9, ev10, ew, Nat.reduceEqDiff, reduceCtorEq, Nat.reduceAdd, Nat.reduceSub, Nat.reduceMul, Nat.reduceLT, Nat.reduceLeDiff, Int.reduceLT, Int.reduceLE, Int.reduceEq, Int.reduceNe, Int.reduceAdd, Int.reduceSub, Int.reduceMul, Int.reduceNeg, Int.reduceToNat]
  simp only [ev0, ev1, ev2, ev3, ev4, ev5, ev6, ev7, ev8, ev9, ev10, ew, Nat.reduceEqDiff, reduceCtorEq, Nat.reduceAdd, Nat.reduceSub, Nat.reduceMul, Nat.reduceLT, Nat.reduceLeDiff, Int.reduceLT, Int.reduceLE, Int.reduceEq, Int.reduceNe, Int.reduceAdd, Int.reduceSub, Int.reduceMul, Int.reduceNeg, Int.reduceToNat, upd_same, upd_upd, List.set_cons_zero, avc, splice2]
  refine ⟨by simp [AV.scalar], ?_⟩
  rw [q_retc (b := b2) (i := 0) (off := 0) (sz' := 2) 2 3 2 (by simp only [ev0, ev1, ev2, ev3, ev4, ev5, ev6, ev7, ev8, ev9, ev10, ew, Nat.reduceEqDiff, reduceCtorEq, Nat.reduceAdd, Nat.reduceSub, Nat.reduceMul, Nat.reduceLT, Nat.reduceLeDiff, Int.reduceLT, Int.reduceLE, Int.reduceEq, Int.reduceNe, Int.reduceAdd, Int.reduceSub, Int.reduceMul, Int.reduceNeg, Int.reduceToNat]) (upd_same _ _) rfl (part2a _ _)]
  exact Ret.less (Sub.upd hb2) h
def sumLen : List Node → Nat
  | [] => 0
  | x :: l => x.str.length + sumLen l
theorem sumLen_append : ∀ l m : List Node, sumLen (l ++ m) = sumLen l + sumLen m
  | [], m => by simp [sumLen]
  | x :: l, m => by simp only [sumLen, List.cons_append, sumLen_append l m]; omega
theorem sumLen_mem {x : Node} : ∀ {l : List Node}, x ∈ l → x.str.length ≤ sumLen l
  | [], h => by cases h
  | y :: l, h => by
    rcases List.mem_cons.1 h with rfl | h
    · simp only [sumLen]; omega
    · have := sumLen_mem h; simp only [sumLen]; omega
theorem sumLen_le {B : Nat} : ∀ {l : List Node}, (∀ x ∈ l, x.str.length ≤ B) → sumLen l ≤ l.length * B
  | [], _ => by simp [sumLen]
  | x :: l, h => by
    have h1 := h x (by simp)
    have h2 := sumLen_le (l := l) fun y hy => h y (by simp [hy])
    simp only [sumLen, List.length_cons, Nat.succ_mul]; omega
theorem makes_tail (hg : ∀ g ∈ sentG, g ∈ gs) (l : List Node) (hs : ∀ x ∈ l, x.fit) (hl : l.length ≤ 200) (h : K (.bool true) σ) (sl : Slots) (h0 : sl 0 = nodes l) :
    GoC (env gs s) 98 (bodyQ (env gs s) [.t 2] K) C6_5 [] sl σ := by
  unfold C6_5 C6_3 C6_4
  cases hck : chkE l with
  | some e =>
    have hfit := chkE_fit l e hck
    obtain ⟨ty, v, hv⟩ := er_iface e
    have hb := fun (σ : Hp) (K : AV → Hp → Prop) => compile_bad (s := s) (σ := σ) (K := K) hg l hs (by omega) e hck
    have hc := fun (σ : Hp) (K : AV → Hp → Prop) => chk_spec (s := s) (σ := σ) (K := K) hg l hs (by omega)
    have hF := fun (σ : Hp) (K : AV → Hp → Prop) => Fault_spec (s := s) (σ := σ) (K := K) hg (some e) (fun x hx => by cases hx; exact hfit)
    have hS := fun (σ : Hp) (K : AV → Hp → Prop) => Same_spec (s := s) (σ := σ) (K := K) hg (some e) (fun x hx => by cases hx; exact hfit) e.code e.places (by have := Er.places_len 8 e hfit; omega)
    rw [hck] at hc
    simp only [erAV, faultOf, hv, codeOfE, placesOfE, decide_true, Bool.and_self] at hb hc hF hS
    simp only [ev0, ev1, ev2, ev3, ev4, ev5, ev6, ev7, ev8, ev9, ev10, ew, Nat.reduceEqDiff, reduceCtorEq, Nat.reduceAdd, Nat.reduceSub, Nat.reduceMul, Nat.reduceLT, Nat.reduceLeDiff, Int.reduceLT, Int.reduceLE, Int.reduceEq, Int.reduceNe, Int.reduceAdd, Int.reduceSub, Int.reduceMul, Int.reduceNeg, Int.reduceToNat, h0]
    refine go_callI (hb _ _ ?_)
    simp only [ev0, ev1, ev2, ev3, ev4, ev5, ev6, ev7, ev8, ev9, ev10, ew, Nat.reduceEqDiff, reduceCtorEq, Nat.reduceAdd, Nat.reduceSub, Nat.reduceMul, Nat.reduceLT, Nat.reduceLeDiff, Int.reduceLT, Int.reduceLE, Int.reduceEq, Int.reduceNe, Int.reduceAdd, Int.reduceSub, Int.reduceMul, Int.reduceNeg, Int.reduceToNat, h0]
    intro b hb2
    try simp only [ev0, ev1, ev2, ev3, ev4, ev5, ev6, ev7, ev8, ev9, ev10, ew, Nat.reduceEqDiff, reduceCtorEq, Nat.reduceAdd, Nat.reduceSub, Nat.reduceMul, Nat.reduceLT, Nat.reduceLeDiff, Int.reduceLT, Int.reduceLE, Int.reduceEq, Int.reduceNe, Int.reduceAdd, Int.reduceSub, Int.reduceMul, Int.reduceNeg, Int.reduceToNat, h0, upd_same, upd_upd, List.set_cons_zero, avc, splice2]
    refine ⟨by simp [AV.scalar], ?_⟩
    refine go_callI (hc _ _ ?_)
    simp only [ev0, ev1, ev2, ev3, ev4, ev5, ev6, ev7, ev8, ev9, ev10, ew, Nat.reduceEqDiff, reduceCtorEq, Nat.reduceAdd, Nat.reduceSub, Nat.reduceMul, Nat.reduceLT, Nat.reduceLeDiff, Int.reduceLT, Int.reduceLE, Int.reduceEq, Int.reduceNe, Int.reduceAdd, Int.reduceSub, Int.reduceMul, Int.reduceNeg, Int.reduceToNat, h0]
    refine go_callI (hF _ _ ?_)
    simp only [ev0, ev1, ev2, ev3, ev4, ev5, ev6, ev7, ev8, ev9, ev10, ew, Nat.reduceEqDiff, reduceCtorEq, Nat.reduceAdd, Nat.reduceSub, Nat.reduceMul, Nat.reduceLT, Nat.reduceLeDiff, Int.reduceLT, Int.reduceLE, Int.reduceEq, Int.reduceNe, Int.reduceAdd, Int.reduceSub, Int.reduceMul, Int.reduceNeg, Int.reduceToNat, h0]
    refine go_callI (hS _ _ ?_)
    simp only [ev0, ev1, ev2, ev3, ev4, ev5, ev6, ev7, ev8, ev9, ev10, ew, Nat.reduceEqDiff, reduceCtorEq, Nat.reduceAdd, Nat.reduceSub, Nat.reduceMul, Nat.reduceLT, Nat.reduceLeDiff, Int.reduceLT, Int.reduceLE, Int.reduceEq, Int.reduceNe, Int.reduceAdd, Int.reduceSub, Int.reduceMul, Int.reduceNeg, Int.reduceToNat, h0, upd_same, part_f, avc, q_ret1]
    exact Ret.less (Sub.upd hb2) h
  | none =>
    obtain ⟨t, rfl, hok, hl3⟩ := chk_none hck
    have hc := fun (σ : Hp) (K : AV → Hp → Prop) => chk_spec (s := s) (σ := σ) (K := K) hg t.flat hs (by omega)
    rw [hck] at hc
    simp only [erAV] at hc
    have hlm : (t.flat.map Node.av).length = t.flat.length := by simp
    have hhl := t.h_le
    have heh := t.e_le hok
    simp only [ev0, ev1, ev2, ev3, ev4, ev5, ev6, ev7, ev8, ev9, ev10, ew, Nat.reduceEqDiff, reduceCtorEq, Nat.reduceAdd, Nat.reduceSub, Nat.reduceMul, Nat.reduceLT, Nat.reduceLeDiff, Int.reduceLT, Int.reduceLE, Int.reduceEq, Int.reduceNe, Int.reduceAdd, Int.reduceSub, Int.reduceMul, Int.reduceNeg, Int.reduceToNat, h0]
    refine go_callI (compile_spec (hg _ (by decide)) (hg _ (by decide)) (hg _ (by decide)) t hok hs (by omega) (by omega) fun L hL => ?_)
    have herr := hL.err
    obtain ⟨c1, c2, c3, c4, x, c5, c6⟩ := id hL
    have hlp : (0 : Int) < L.length := by omega
    have hL9 : (L.length : Int) ≤ 9000 := by omega
    have hLm : (L.map Ins.av).length = L.length := by simp
    have hw : IntKind.i64.wrap ((L.length : Int) - 1) = (L.length - 1 : Nat) := by rw [i64_id _ (by omega) (by omega)]; omega
    have hx' : (L.map Ins.av)[L.length - 1]? = some x.av := by simp [c5]
    have hx0 : x.av.cells[0]? = some (.int .i64 41) := by rw [← c6]; rfl
    simp only [ev0, ev1, ev2, ev3, ev4, ev5, ev6, ev7, ev8, ev9, ev10, ew, Nat.reduceEqDiff, reduceCtorEq, Nat.reduceAdd, Nat.reduceSub, Nat.reduceMul, Nat.reduceLT, Nat.reduceLeDiff, Int.reduceLT, Int.reduceLE, Int.reduceEq, Int.reduceNe, Int.reduceAdd, Int.reduceSub, Int.reduceMul, Int.reduceNeg, Int.reduceToNat, h0, codeAV]
    intro b hb2
    try simp only [ev0, ev1, ev2, ev3, ev4, ev5, ev6, ev7, ev8, ev9, ev10, ew, Nat.reduceEqDiff, reduceCtorEq, Nat.reduceAdd, Nat.reduceSub, Nat.reduceMul, Nat.reduceLT, Nat.reduceLeDiff, Int.reduceLT, Int.reduceLE, Int.reduceEq, Int.reduceNe, Int.reduceAdd, Int.reduceSub, Int.reduceMul, Int.reduceNeg, Int.reduceToNat, h0, upd_same, upd_upd, List.set_cons_zero, avc, splice2]
    refine ⟨by simp [AV.scalar], ?_⟩
    refine go_callI (hc _ _ ?_)
    simp only [ev0, ev1, ev2, ev3, ev4, ev5, ev6, ev7, ev8, ev9, ev10, ew, Nat.reduceEqDiff, reduceCtorEq, Nat.reduceAdd, Nat.reduceSub, Nat.reduceMul, Nat.reduceLT, Nat.reduceLeDiff, Int.reduceLT, Int.reduceLE, Int.reduceEq, Int.reduceNe, Int.reduceAdd, Int.reduceSub, Int.reduceMul, Int.reduceNeg, Int.reduceToNat, h0]
    refine DT6_15_go ?_
    unfold DT6_15
    have hCC := fun (σ : Hp) (K : AV → Hp → Prop) => codeCheck_spec (s := s) (σ := σ) (K := K) (hg _ (by decide)) (hg _ (by decide)) L t.e (by omega)
    rw [herr] at hCC
    simp only [codeAV] at hCC
    repeat' first
      | simp only [ev0, ev1, ev2, ev3, ev4, ev5, ev6, ev7, ev8, ev9, ev10, ew, Nat.reduceEqDiff, reduceCtorEq, Nat.reduceAdd, Nat.reduceSub, Nat.reduceMul, Nat.reduceLT, Nat.reduceLeDiff, Int.reduceLT, Int.reduceLE, Int.reduceEq, Int.reduceNe, Int.reduceAdd, Int.reduceSub, Int.reduceMul, Int.reduceNeg, Int.reduceToNat, h0, upd_same, part_f, avc, part2, hLm, hlp, hw, hx', hx0, heh, nodes, hlm, hhl, hL9, q_ret1]
      | with_reducible refine And.intro ?_ ?_
      | refine go_callI (hCC _ _ ?_)
      | refine go_callI (height_spec t _ _ (by omega) ?_)
    all_goals exact Ret.less (Sub.upd hb2) h
def sumI (σ : Hp) (l : List Node) (n : Nat) (vs : List AV) (σ' : Hp) : Prop :=
  ∃ i : Nat, vs = [.int .i64 (sumLen (l.take i) : Nat), .int .i64 i] ∧ σ' = σ ∧ n + i = l.length
theorem makes_spec (hg : ∀ g ∈ sentG, g ∈ gs) (l : List Node) (hs : ∀ x ∈ l, (i64ok x.kind ∧ i64ok x.n ∧ i64ok x.k ∧ i64ok x.size) ∧ x.str.length ≤ 140737488355328) (h : K (.bool true) σ) : ACalls (env gs s) 6 [nodes l] σ K := by
  refine A6_call rfl ?_
  unfold A6 C6_0 C6_6 C6_1
  simp only [ev0, ev1, ev2, ev3, ev4, ev5, ev6, ev7, ev8, ev9, ev10, ew, Nat.reduceEqDiff, reduceCtorEq, Nat.reduceAdd, Nat.reduceSub, Nat.reduceMul, Nat.reduceLT, Nat.reduceLeDiff, Int.reduceLT, Int.reduceLE, Int.reduceEq, Int.reduceNe, Int.reduceAdd, Int.reduceSub, Int.reduceMul, Int.reduceNeg, Int.reduceToNat]
  refine go_callI (first_spec (hg _ (by decide)) (hg _ (by decide)) (hg _ (by decide)) (hg _ (by decide)) ?_)
  have hlm : (l.map Node.av).length = l.length := by simp
  by_cases hl : (200 : Int) < l.length
  · simp only [ev0, ev1, ev2, ev3, ev4, ev5, ev6, ev7, ev8, ev9, ev10, ew, Nat.reduceEqDiff, reduceCtorEq, Nat.reduceAdd, Nat.reduceSub, Nat.reduceMul, Nat.reduceLT, Nat.reduceLeDiff, Int.reduceLT, Int.reduceLE, Int.reduceEq, Int.reduceNe, Int.reduceAdd, Int.reduceSub, Int.reduceMul, Int.reduceNeg, Int.reduceToNat, nodes, hl, q_ret1]
    exact Ret.here h
  · simp only [ev0, ev1, ev2, ev3, ev4, ev5, ev6, ev7, ev8, ev9, ev10, ew, Nat.reduceEqDiff, reduceCtorEq, Nat.reduceAdd, Nat.reduceSub, Nat.reduceMul, Nat.reduceLT, Nat.reduceLeDiff, Int.reduceLT, Int.reduceLE, Int.reduceEq, Int.reduceNe, Int.reduceAdd, Int.reduceSub, Int.reduceMul, Int.reduceNeg, Int.reduceToNat, nodes, hl]
    refine go_block ?_
    refine go_loop W6_0 [0] [nodes l] [4, 5] (sumI σ l) A6_0_wr rfl ?_ ?_ ?_
    · simp only [ev0, ev1, ev2, ev3, ev4, ev5, ev6, ev7, ev8, ev9, ev10, ew, Nat.reduceEqDiff, reduceCtorEq, Nat.reduceAdd, Nat.reduceSub, Nat.reduceMul, Nat.reduceLT, Nat.reduceLeDiff, Int.reduceLT, Int.reduceLE, Int.reduceEq, Int.reduceNe, Int.reduceAdd, Int.reduceSub, Int.reduceMul, Int.reduceNeg, Int.reduceToNat, nodes]
    · refine ⟨l.length, _, _, Sub.refl _, FzL.refl _ _ _, 0, ?_, rfl, rfl⟩
      simp only [ev0, ev1, ev2, ev3, ev4, ev5, ev6, ev7, ev8, ev9, ev10, ew, Nat.reduceEqDiff, reduceCtorEq, Nat.reduceAdd, Nat.reduceSub, Nat.reduceMul, Nat.reduceLT, Nat.reduceLeDiff, Int.reduceLT, Int.reduceLE, Int.reduceEq, Int.reduceNe, Int.reduceAdd, Int.reduceSub, Int.reduceMul, Int.reduceNeg, Int.reduceToNat]
      simp [sumLen]
    · rintro n vs σ' - ⟨i, rfl, rfl, hi⟩
      unfold A6_0
      by_cases hc : (i : Int) < l.length
      · obtain ⟨x, hx⟩ : ∃ x, l[i]? = some x := ⟨l[i]'(by omega), List.getElem?_eq_getElem _⟩
        have htk : l.take (i + 1) = l.take i ++ [x] := by rw [List.take_add_one, hx]; rfl
        have hsx := (hs x (List.mem_of_getElem? hx)).2
        have hsum := sumLen_le (l := l.take i) fun y hy => (hs y (List.mem_of_mem_take hy)).2
        have hil : (l.take i).length ≤ 200 := by rw [List.length_take]; omega
        have hmul : (l.take i).length * 140737488355328 ≤ 200 * 140737488355328 := Nat.mul_le_mul_right _ hil
        have hw : IntKind.i64.wrap ((sumLen (l.take i) : Int) + x.str.length) = (sumLen (l.take (i + 1)) : Nat) := by
          rw [htk, sumLen_append, i64_id _ (by omega) (by omega)]; simp only [sumLen]; omega
        have hw2 : IntKind.i64.wrap ((i : Int) + 1) = (i + 1 : Nat) := i64_id _ (by omega) (by omega)
        simp only [ev0, ev1, ev2, ev3, ev4, ev5, ev6, ev7, ev8, ev9, ev10, ew, Nat.reduceEqDiff, reduceCtorEq, Nat.reduceAdd, Nat.reduceSub, Nat.reduceMul, Nat.reduceLT, Nat.reduceLeDiff, Int.reduceLT, Int.reduceLE, Int.reduceEq, Int.reduceNe, Int.reduceAdd, Int.reduceSub, Int.reduceMul, Int.reduceNeg, Int.reduceToNat, nodes, hlm, hc]
        refine go_block ?_
        simp only [ev0, ev1, ev2, ev3, ev4, ev5, ev6, ev7, ev8, ev9, ev10, ew, Nat.reduceEqDiff, reduceCtorEq, Nat.reduceAdd, Nat.reduceSub, Nat.reduceMul, Nat.reduceLT, Nat.reduceLeDiff, Int.reduceLT, Int.reduceLE, Int.reduceEq, Int.reduceNe, Int.reduceAdd, Int.reduceSub, Int.reduceMul, Int.reduceNeg, Int.reduceToNat, nodes, hx, nd, hw, hw2]
        refine loop_next (n - 1) (by omega) ⟨i + 1, ?_, rfl, by omega⟩
        simp only [ev0, ev1, ev2, ev3, ev4, ev5, ev6, ev7, ev8, ev9, ev10, ew, Nat.reduceEqDiff, reduceCtorEq, Nat.reduceAdd, Nat.reduceSub, Nat.reduceMul, Nat.reduceLT, Nat.reduceLeDiff, Int.reduceLT, Int.reduceLE, Int.reduceEq, Int.reduceNe, Int.reduceAdd, Int.reduceSub, Int.reduceMul, Int.reduceNeg, Int.reduceToNat]
      · rw [List.take_of_length_le (by omega)]
        simp only [ev0, ev1, ev2, ev3, ev4, ev5, ev6, ev7, ev8, ev9, ev10, ew, Nat.reduceEqDiff, reduceCtorEq, Nat.reduceAdd, Nat.reduceSub, Nat.reduceMul, Nat.reduceLT, Nat.reduceLeDiff, Int.reduceLT, Int.reduceLE, Int.reduceEq, Int.reduceNe, Int.reduceAdd, Int.reduceSub, Int.reduceMul, Int.reduceNeg, Int.reduceToNat, nodes, hlm, hc, loop_exit, kont_gox]
        unfold C6_2
        by_cases h9 : (9000 : Int) < sumLen l
        · simp only [ev0, ev1, ev2, ev3, ev4, ev5, ev6, ev7, ev8, ev9, ev10, ew, Nat.reduceEqDiff, reduceCtorEq, Nat.reduceAdd, Nat.reduceSub, Nat.reduceMul, Nat.reduceLT, Nat.reduceLeDiff, Int.reduceLT, Int.reduceLE, Int.reduceEq, Int.reduceNe, Int.reduceAdd, Int.reduceSub, Int.reduceMul, Int.reduceNeg, Int.reduceToNat, h9, q_ret1]
          exact Ret.here h
        · simp only [ev0, ev1, ev2, ev3, ev4, ev5, ev6, ev7, ev8, ev9, ev10, ew, Nat.reduceEqDiff, reduceCtorEq, Nat.reduceAdd, Nat.reduceSub, Nat.reduceMul, Nat.reduceLT, Nat.reduceLeDiff, Int.reduceLT, Int.reduceLE, Int.reduceEq, Int.reduceNe, Int.reduceAdd, Int.reduceSub, Int.reduceMul, Int.reduceNeg, Int.reduceToNat, h9]
          refine makes_tail hg l (fun x hx => ?_) (by omega) h _ ?_
          · obtain ⟨a, c⟩ := hs x hx
            have := sumLen_mem hx
            exact ⟨a, by omega⟩
          · simp only [ev0, ev1, ev2, ev3, ev4, ev5, ev6, ev7, ev8, ev9, ev10, ew, Nat.reduceEqDiff, reduceCtorEq, Nat.reduceAdd, Nat.reduceSub, Nat.reduceMul, Nat.reduceLT, Nat.reduceLeDiff, Int.reduceLT, Int.reduceLE, Int.reduceEq, Int.reduceNe, Int.reduceAdd, Int.reduceSub, Int.reduceMul, Int.reduceNeg, Int.reduceToNat, nodes]
end Go.Proofs.YthmcfphafofheaaDoor
