/- Contracts: a command behind its tick is written. No statement of the seat is proved in this file. -/
import Derived.Test.YthmcfphafofheaaDoorGen5
open Go Go.Proofs
namespace Go.Proofs.YthmcfphafofheaaDoor
open Pat
set_option maxRecDepth 10000
set_option maxHeartbeats 1000000
set_option linter.unusedSimpArgs false
set_option linter.unusedVariables false
variable {gs : List Nat} {s : Nat → Addr} {σ : Hp} {K : AV → Hp → Prop}
theorem two_kids {ks : List T} (h : (ks.length : Int) = 2) : ∃ a c, ks = [a, c] := by
  match ks, h with
  | [a, c], _ => exact ⟨a, c, rfl⟩
  | [], h => simp at h
  | [_], h => simp at h
  | _ :: _ :: _ :: _, h => simp at h; omega
theorem pairs_of {f : Nat} {t : T} (hok : T.ok f false t) (hk : t.kind = 30) (ih : ∀ u ∈ t.ks, WordOk gs s u ∧ DoOk gs s u) : ∀ (n i : Nat) (r : List T), r.length = 2 * n → t.ks.drop (2 * i + 1) = r → Pairs gs s r := by
  intro n
  induction n with
  | zero =>
    intro i r hr _
    have : r = [] := List.eq_nil_of_length_eq_zero (by omega)
    subst this; trivial
  | succ n ihn =>
    intro i r hr hd
    match r, hr, hd with
    | p :: c :: r, hr, hd =>
      have hp : t.ks[2 * i + 1]? = some p := by have := congrArg (fun l => l[0]?) hd; simpa using this
      have hc : t.ks[2 * i + 2]? = some c := by have := congrArg (fun l => l[1]?) hd; simpa using this
      obtain ⟨f1, o1⟩ := T.ok_kid hok hp
      obtain ⟨f2, o2⟩ := T.ok_kid hok hc
      have t1 : takesB t.kind ((2 * i + 1 : Nat) : Int) t.ks.length = true := by
        have : ((2 * i + 1 : Nat) : Int).tmod 2 = 1 := by rw [Int.tmod_eq_emod_of_nonneg (by omega)]; omega
        rw [hk, takesB, if_neg (by decide), if_neg (by decide), if_pos rfl, this, decide_eq_true rfl, Bool.or_true]
      have t2 : takesB t.kind ((2 * i + 2 : Nat) : Int) t.ks.length = false := by
        have : ((2 * i + 2 : Nat) : Int).tmod 2 = 0 := by rw [Int.tmod_eq_emod_of_nonneg (by omega)]; omega
        rw [hk, takesB, if_neg (by decide), if_neg (by decide), if_pos rfl, this, decide_eq_false (by omega)]; rfl
      rw [t1] at o1
      rw [t2] at o2
      refine ⟨⟨(ih p (List.mem_of_getElem? hp)).1, f1, o1⟩, ⟨(ih c (List.mem_of_getElem? hc)).2, f2, o2⟩, ihn (i + 1) r (by simp at hr; omega) ?_⟩
      have := congrArg (List.drop 2) hd
      rw [List.drop_drop] at this
      simpa [Nat.mul_add, Nat.add_comm, Nat.add_left_comm, Nat.add_assoc] using this
    | [_], hr, _ => simp at hr; omega
    | [], hr, _ => simp at hr
def pipeI (σ0 : Hp) (bw : Nat) (st : St) (ks : List T) (H : Int) (n : Nat) (vs : List AV) (σ' : Hp) : Prop :=
  ∃ (i : Nat) (st' : St), vs = [.int .i64 i] ∧ WS σ0 bw st' σ' ∧ Inv st' ∧ n + i = ks.length ∧ st.l.length ≤ st'.l.length ∧ st'.l.length + 8 * (T.flats (ks.drop i)).length ≤ st.l.length + 8 * (T.flats ks).length ∧ st'.now = st.now ∧ max st'.high (st.now + maxi ((ks.drop i).map T.e)) = H
theorem flats_drop {ks : List T} {i : Nat} {u : T} (h : ks[i]? = some u) : (T.flats (ks.drop i)).length = u.flat.length + (T.flats (ks.drop (i + 1))).length ∧ (ks.drop i).map T.e = u.e :: (ks.drop (i + 1)).map T.e ∧ (T.flats (ks.drop i)).length ≤ (T.flats ks).length := by
  have hd : ks.drop i = u :: ks.drop (i + 1) := by
    rw [List.drop_eq_getElem_cons (List.getElem?_eq_some_iff.1 h).1]; congr 1; exact (List.getElem?_eq_some_iff.1 h).2
  refine ⟨by rw [hd]; simp [T.flats], by rw [hd]; rfl, ?_⟩
  conv => rhs; rw [← List.take_append_drop i ks, T.flats_append, List.length_append]
  omega
theorem ticked_spec (t : T) (ih : ∀ u ∈ t.ks, WordOk gs s u ∧ DoOk gs s u) {f : Nat} {σ0 : Hp} {bw : Nat} {st : St} (hok : T.ok f false t) (hk : t.kind ∉ [20, 23, 24, 25, 26, 27, 28, 29]) (hw : WS σ0 bw st σ) (hI : Inv st) (hl : st.l.length + 8 * (T.flats t.ks).length ≤ 99993) (hn : st.now + (T.flats t.ks).length ≤ 99999)
    (h : ∀ st' σ', WS σ0 bw st' σ' → Post st st' (8 * (T.flats t.ks).length + 5) 0 t.e → K (.tuple []) σ') :
    ACalls (env gs s) 84 [.ptr bw 3 0 0, t.head.av, .rd 1 ((t.ks.map T.flat).map nodes)] σ K := by
  obtain ⟨p1, p2, p3⟩ := T.ok_parts hok
  have hkind : 20 ≤ t.kind ∧ t.kind ≤ 37 := of_decide_eq_true p1
  have hstr := fieldsB_str p2
  have hnn := fieldsB_n p2
  have hnow := hI.2
  have hee := T.e_eq t
  have hkl := T.flats_len_le t.ks
  have hth : t.head.kind = t.kind ∧ t.head.n = t.n ∧ t.head.str = t.str := ⟨rfl, rfl, rfl⟩
  have hlm : (List.map nodes (List.map T.flat t.ks)).length = t.ks.length := by simp
  simp only [List.mem_cons, List.not_mem_nil, or_false, not_or] at hk
  refine A84_call rfl ?_
  unfold A84 C84_0
  by_cases k21 : t.kind = 21
  · have he : t.e = togE (t.ks.map T.e) := by rw [hee, eOf, if_neg (by omega), if_neg (by omega), if_neg (by omega), if_pos k21]
    obtain ⟨m, hm, hm0, hm1, hm2⟩ : ∃ m : Int, (if (2 : Int) < t.ks.length then 2 else (t.ks.length : Int)) = m ∧ m = (if t.ks.length = 0 then 0 else if t.ks.length = 1 then 1 else 2) ∧ 0 ≤ m ∧ m ≤ 2 := by
      refine ⟨_, rfl, ?_, ?_, ?_⟩ <;> repeat' split
      all_goals omega
    have hkw : ∀ u ∈ t.ks, WordOk gs s u ∧ ∃ f, T.ok f true u := fun u hu => by
      obtain ⟨i, hi⟩ := List.getElem?_of_mem hu
      obtain ⟨f', hf'⟩ := T.ok_kid hok hi
      have ht : takesB t.kind i t.ks.length = true := by rw [k21]; rfl
      rw [ht] at hf'
      exact ⟨(ih u hu).1, f', hf'⟩
    have hmin : m ≤ togE (t.ks.map T.e) := by
      have := togE_min (t.ks.map T.e) fun e he => by
        obtain ⟨u, hu, rfl⟩ := List.mem_map.1 he
        obtain ⟨_, f', hf'⟩ := hkw u hu
        exact u.e_word hf'
      rw [List.length_map, ← hm0] at this
      exact this
    have hw1 : IntKind.i64.wrap (0 - m) = -m := by rw [i64_id _ (by omega) (by omega)]; omega
    generalize hKS : List.map nodes (List.map T.flat t.ks) = KS at *
    simp only [ev0, ev1, ev2, ev3, ev4, ev5, ev6, ev7, ev8, ev9, ev10, ew, Nat.reduceEqDiff, reduceCtorEq, Nat.reduceAdd, Nat.reduceSub, Nat.reduceMul, Nat.reduceLT, Nat.reduceLeDiff, Int.reduceLT, Int.reduceLE, Int.reduceEq, Int.reduceNe, Int.reduceAdd, Int.reduceSub, Int.reduceMul, Int.reduceNeg, Int.reduceToNat, nd, nd0, hth, k21]
    refine go_block ?_
    simp only [ev0, ev1, ev2, ev3, ev4, ev5, ev6, ev7, ev8, ev9, ev10, ew, Nat.reduceEqDiff, reduceCtorEq, Nat.reduceAdd, Nat.reduceSub, Nat.reduceMul, Nat.reduceLT, Nat.reduceLeDiff, Int.reduceLT, Int.reduceLE, Int.reduceEq, Int.reduceNe, Int.reduceAdd, Int.reduceSub, Int.reduceMul, Int.reduceNeg, Int.reduceToNat, nd, nd0, hth, k21]
    refine go_callI ?_
    rw [← hKS]
    refine together_spec t.ks _ 0 hkw (.inl rfl) (.inl rfl) hw hI (by omega) (by omega) fun st1 σ1 w1 hI1 l1 l2 n1 e1 => ?_
    rw [hKS]
    have hI1' := hI1.2
    rw [← hm0] at n1
    simp only [ev0, ev1, ev2, ev3, ev4, ev5, ev6, ev7, ev8, ev9, ev10, ew, Nat.reduceEqDiff, reduceCtorEq, Nat.reduceAdd, Nat.reduceSub, Nat.reduceMul, Nat.reduceLT, Nat.reduceLeDiff, Int.reduceLT, Int.reduceLE, Int.reduceEq, Int.reduceNe, Int.reduceAdd, Int.reduceSub, Int.reduceMul, Int.reduceNeg, Int.reduceToNat, hlm, hm]
    refine go_callI (op_post _ m 0 [] w1 hI1 (by omega) (okA_plain (by omega) (by omega) (by simp) hm1 (by simp)) fun st2 σ2 w2 q2 l3 _ => ?_)
    have n2 := q2.2.2.2.1
    simp only [ev0, ev1, ev2, ev3, ev4, ev5, ev6, ev7, ev8, ev9, ev10, ew, Nat.reduceEqDiff, reduceCtorEq, Nat.reduceAdd, Nat.reduceSub, Nat.reduceMul, Nat.reduceLT, Nat.reduceLeDiff, Int.reduceLT, Int.reduceLE, Int.reduceEq, Int.reduceNe, Int.reduceAdd, Int.reduceSub, Int.reduceMul, Int.reduceNeg, Int.reduceToNat, hw1]
    refine go_callI (push_spec (-m) w2 (by omega) (by omega) fun σ3 w3 => ?_)
    simp only [ev0, ev1, ev2, ev3, ev4, ev5, ev6, ev7, ev8, ev9, ev10, ew, Nat.reduceEqDiff, reduceCtorEq, Nat.reduceAdd, Nat.reduceSub, Nat.reduceMul, Nat.reduceLT, Nat.reduceLeDiff, Int.reduceLT, Int.reduceLE, Int.reduceEq, Int.reduceNe, Int.reduceAdd, Int.reduceSub, Int.reduceMul, Int.reduceNeg, Int.reduceToNat, q_end0]
    have q1 : Post st st1 (8 * (T.flats t.ks).length - t.ks.length) m (togE (t.ks.map T.e)) := ⟨hI1, l1, by omega, n1, e1⟩
    exact Ret.here (h _ _ w3 (((q1.op q2 hmin).pop (-m) (by omega) (by omega)).as hI (by omega) (by omega) (by omega)))
  by_cases k22 : t.kind = 22
  · obtain ⟨c, hc⟩ := one_kid (ks := t.ks) (by rw [k22] at p3; simpa [childrenB] using p3)
    have he : t.e = c.e := by
      rw [hee, eOf, if_neg (by omega), if_neg (by omega), if_neg (by omega), if_neg (by omega), if_neg (by omega), if_neg (by omega), hc]; simp only [List.map_cons, List.map_nil, maxi]; have := c.e_nonneg; omega
    obtain ⟨f', hf'⟩ := T.ok_kid hok (i := 0) (u := c) (by rw [hc]; rfl)
    rw [show takesB t.kind (0 : Nat) t.ks.length = true by rw [k22]; rfl] at hf'
    have hcl : (T.flats t.ks).length = c.flat.length := by rw [hc]; simp [T.flats]
    have hce := c.e_word hf'
    have hcp := c.flat_len_pos
    simp only [ev0, ev1, ev2, ev3, ev4, ev5, ev6, ev7, ev8, ev9, ev10, ew, Nat.reduceEqDiff, reduceCtorEq, Nat.reduceAdd, Nat.reduceSub, Nat.reduceMul, Nat.reduceLT, Nat.reduceLeDiff, Int.reduceLT, Int.reduceLE, Int.reduceEq, Int.reduceNe, Int.reduceAdd, Int.reduceSub, Int.reduceMul, Int.reduceNeg, Int.reduceToNat, nd, nd0, hth, k22, hc]
    refine go_block ?_
    simp only [ev0, ev1, ev2, ev3, ev4, ev5, ev6, ev7, ev8, ev9, ev10, ew, Nat.reduceEqDiff, reduceCtorEq, Nat.reduceAdd, Nat.reduceSub, Nat.reduceMul, Nat.reduceLT, Nat.reduceLeDiff, Int.reduceLT, Int.reduceLE, Int.reduceEq, Int.reduceNe, Int.reduceAdd, Int.reduceSub, Int.reduceMul, Int.reduceNeg, Int.reduceToNat, nd, nd0, hth, k22, npart]
    refine go_callI ((ih c (by rw [hc]; simp)).1 f' _ _ bw st _ hf' hw hI (by omega) (by omega) fun st1 σ1 w1 q1 => ?_)
    have n1 := q1.2.2.2.1
    have l1 := q1.2.2.1
    simp only [ev0, ev1, ev2, ev3, ev4, ev5, ev6, ev7, ev8, ev9, ev10, ew, Nat.reduceEqDiff, reduceCtorEq, Nat.reduceAdd, Nat.reduceSub, Nat.reduceMul, Nat.reduceLT, Nat.reduceLeDiff, Int.reduceLT, Int.reduceLE, Int.reduceEq, Int.reduceNe, Int.reduceAdd, Int.reduceSub, Int.reduceMul, Int.reduceNeg, Int.reduceToNat]
    refine DT84_9_go ?_
    unfold DT84_9
    simp only [ev0, ev1, ev2, ev3, ev4, ev5, ev6, ev7, ev8, ev9, ev10, ew, Nat.reduceEqDiff, reduceCtorEq, Nat.reduceAdd, Nat.reduceSub, Nat.reduceMul, Nat.reduceLT, Nat.reduceLeDiff, Int.reduceLT, Int.reduceLE, Int.reduceEq, Int.reduceNe, Int.reduceAdd, Int.reduceSub, Int.reduceMul, Int.reduceNeg, Int.reduceToNat, nd, nd0, hth]
    refine go_callI (op_post 16 0 0 t.str w1 q1.1 (by omega) (okA_plain (by omega) (by omega) (by simp) (by omega) hstr) fun st2 σ2 w2 q2 l2 _ => ?_)
    have n2 := q2.2.2.2.1
    simp only [ev0, ev1, ev2, ev3, ev4, ev5, ev6, ev7, ev8, ev9, ev10, ew, Nat.reduceEqDiff, reduceCtorEq, Nat.reduceAdd, Nat.reduceSub, Nat.reduceMul, Nat.reduceLT, Nat.reduceLeDiff, Int.reduceLT, Int.reduceLE, Int.reduceEq, Int.reduceNe, Int.reduceAdd, Int.reduceSub, Int.reduceMul, Int.reduceNeg, Int.reduceToNat]
    refine go_callI (push_spec (-1) w2 (by omega) (by omega) fun σ3 w3 => ?_)
    simp only [ev0, ev1, ev2, ev3, ev4, ev5, ev6, ev7, ev8, ev9, ev10, ew, Nat.reduceEqDiff, reduceCtorEq, Nat.reduceAdd, Nat.reduceSub, Nat.reduceMul, Nat.reduceLT, Nat.reduceLeDiff, Int.reduceLT, Int.reduceLE, Int.reduceEq, Int.reduceNe, Int.reduceAdd, Int.reduceSub, Int.reduceMul, Int.reduceNeg, Int.reduceToNat, q_end0]
    exact Ret.here (h _ _ w3 (((q1.op q2 hce).pop (-1) (by omega) (by omega)).as hI (by omega) (by omega) (by omega)))
  by_cases k31 : t.kind = 31
  · obtain ⟨c, hc⟩ := one_kid (ks := t.ks) (by rw [k31] at p3; simpa [childrenB] using p3)
    have he : t.e = c.e := by
      rw [hee, eOf, if_neg (by omega), if_neg (by omega), if_neg (by omega), if_neg (by omega), if_neg (by omega), if_neg (by omega), hc]; simp only [List.map_cons, List.map_nil, maxi]; have := c.e_nonneg; omega
    obtain ⟨f', hf'⟩ := T.ok_kid hok (i := 0) (u := c) (by rw [hc]; rfl)
    rw [show takesB t.kind (0 : Nat) t.ks.length = false by rw [k31]; rfl] at hf'
    have hcl : (T.flats t.ks).length = c.flat.length := by rw [hc]; simp [T.flats]
    have hce := c.e_nonneg
    have hcp := c.flat_len_pos
    simp only [ev0, ev1, ev2, ev3, ev4, ev5, ev6, ev7, ev8, ev9, ev10, ew, Nat.reduceEqDiff, reduceCtorEq, Nat.reduceAdd, Nat.reduceSub, Nat.reduceMul, Nat.reduceLT, Nat.reduceLeDiff, Int.reduceLT, Int.reduceLE, Int.reduceEq, Int.reduceNe, Int.reduceAdd, Int.reduceSub, Int.reduceMul, Int.reduceNeg, Int.reduceToNat, nd, nd0, hth, k31, hc]
    refine go_block ?_
    simp only [ev0, ev1, ev2, ev3, ev4, ev5, ev6, ev7, ev8, ev9, ev10, ew, Nat.reduceEqDiff, reduceCtorEq, Nat.reduceAdd, Nat.reduceSub, Nat.reduceMul, Nat.reduceLT, Nat.reduceLeDiff, Int.reduceLT, Int.reduceLE, Int.reduceEq, Int.reduceNe, Int.reduceAdd, Int.reduceSub, Int.reduceMul, Int.reduceNeg, Int.reduceToNat, nd, nd0, hth, k31]
    refine DT84_12_go ?_
    unfold DT84_12
    simp only [ev0, ev1, ev2, ev3, ev4, ev5, ev6, ev7, ev8, ev9, ev10, ew, Nat.reduceEqDiff, reduceCtorEq, Nat.reduceAdd, Nat.reduceSub, Nat.reduceMul, Nat.reduceLT, Nat.reduceLeDiff, Int.reduceLT, Int.reduceLE, Int.reduceEq, Int.reduceNe, Int.reduceAdd, Int.reduceSub, Int.reduceMul, Int.reduceNeg, Int.reduceToNat, nd, nd0, hth]
    refine go_callI (op_post 26 0 0 t.str hw hI (by omega) (okA_zero (by omega) (by omega) (.inl rfl) hstr) fun st1 σ1 w1 q1 l1 _ => ?_)
    have n1 := q1.2.2.2.1
    obtain ⟨b, x, hv, hb, hx, st2, w2, q2, l2⟩ := patchA w1 q1.1 (i := st.l.length) (by omega) st1.l.length (Nat.le_refl _)
    have hlt : (st.l.length : Int) < st1.l.length := by omega
    have hx' : (List.map Ins.av st1.l)[st.l.length]? = some x.av := by simp [hx]
    have n2 := q2.2.2.2.1
    simp only [ev0, ev1, ev2, ev3, ev4, ev5, ev6, ev7, ev8, ev9, ev10, ew, Nat.reduceEqDiff, reduceCtorEq, Nat.reduceAdd, Nat.reduceSub, Nat.reduceMul, Nat.reduceLT, Nat.reduceLeDiff, Int.reduceLT, Int.reduceLE, Int.reduceEq, Int.reduceNe, Int.reduceAdd, Int.reduceSub, Int.reduceMul, Int.reduceNeg, Int.reduceToNat]
    refine DT84_13_go ?_
    unfold DT84_13
    repeat' first
      | simp only [ev0, ev1, ev2, ev3, ev4, ev5, ev6, ev7, ev8, ev9, ev10, ew, Nat.reduceEqDiff, reduceCtorEq, Nat.reduceAdd, Nat.reduceSub, Nat.reduceMul, Nat.reduceLT, Nat.reduceLeDiff, Int.reduceLT, Int.reduceLE, Int.reduceEq, Int.reduceNe, Int.reduceAdd, Int.reduceSub, Int.reduceMul, Int.reduceNeg, Int.reduceToNat, hv, hb, hx', wrow, part_f, avc, isplice, hlt]
      | with_reducible refine And.intro ?_ ?_
      | refine go_callI (here_spec w1 ?_)
    all_goals first
      | (intro y hy; rw [List.mem_singleton.1 hy]; rfl)
      | skip
    all_goals
      refine go_callI ((ih c (by rw [hc]; simp)).2 f' _ _ bw st2 _ hf' w2 q2.1 (by omega) (by omega) fun st3 σ3 w3 q3 => ?_)
      have n3 := q3.2.2.2.1
      have l3 := q3.2.2.1
      have l3' := q3.2.1
      simp only [ev0, ev1, ev2, ev3, ev4, ev5, ev6, ev7, ev8, ev9, ev10, ew, Nat.reduceEqDiff, reduceCtorEq, Nat.reduceAdd, Nat.reduceSub, Nat.reduceMul, Nat.reduceLT, Nat.reduceLeDiff, Int.reduceLT, Int.reduceLE, Int.reduceEq, Int.reduceNe, Int.reduceAdd, Int.reduceSub, Int.reduceMul, Int.reduceNeg, Int.reduceToNat]
      refine go_callI (op_post 40 0 0 [] w3 q3.1 (by omega) (okA_plain (by omega) (by omega) (by simp) (by omega) (by simp)) fun st4 σ4 w4 q4 l4 _ => ?_)
      obtain ⟨b', x', hv2, hb2, hx2, st5, w5, q5, l5⟩ := patchB w4 q4.1 (i := st.l.length) (by omega) st4.l.length (Nat.le_refl _)
      have hlt2 : (st.l.length : Int) < st4.l.length := by omega
      have hx2' : (List.map Ins.av st4.l)[st.l.length]? = some x'.av := by simp [hx2]
      have q := (((q1.trans q2).trans q3).trans q4).trans q5
      refine DT84_16_go ?_
      unfold DT84_16
      repeat' first
        | simp only [ev0, ev1, ev2, ev3, ev4, ev5, ev6, ev7, ev8, ev9, ev10, ew, Nat.reduceEqDiff, reduceCtorEq, Nat.reduceAdd, Nat.reduceSub, Nat.reduceMul, Nat.reduceLT, Nat.reduceLeDiff, Int.reduceLT, Int.reduceLE, Int.reduceEq, Int.reduceNe, Int.reduceAdd, Int.reduceSub, Int.reduceMul, Int.reduceNeg, Int.reduceToNat, hv2, hb2, hx2', wrow, part_f, avc, isplice, hlt2, q_end0]
        | with_reducible refine And.intro ?_ ?_
        | refine go_callI (here_spec w4 ?_)
      all_goals first
        | (intro y hy; rw [List.mem_singleton.1 hy]; rfl)
        | exact Ret.here (h _ _ w5 (q.as hI (by omega) (by omega) (by omega)))
  by_cases k30 : t.kind = 30
  · obtain ⟨a, r, hc⟩ : ∃ a r, t.ks = a :: r := by
      cases hc : t.ks with
      | nil => rw [k30, hc] at p3; exact absurd p3 (by decide)
      | cons a r => exact ⟨a, r, rfl⟩
    obtain ⟨f', hf'⟩ := T.ok_kid hok (i := 0) (u := a) (by rw [hc]; rfl)
    rw [show takesB t.kind (0 : Nat) t.ks.length = true by rw [k30]; rfl] at hf'
    have hodd : ∃ n, r.length = 2 * n := by
      have p4 : (decide (1 ≤ (t.ks.length : Int)) && decide ((t.ks.length : Int).tmod 2 = 1)) = true := by rw [k30] at p3; exact p3
      simp only [Bool.and_eq_true, decide_eq_true_eq] at p4
      rw [Int.tmod_eq_emod_of_nonneg (by omega), hc, List.length_cons] at p4
      exact ⟨r.length / 2, by omega⟩
    obtain ⟨nn, hnn2⟩ := hodd
    have hP := pairs_of (gs := gs) (s := s) hok k30 ih nn 0 r hnn2 (by rw [hc]; rfl)
    have hfl : (T.flats t.ks).length = a.flat.length + (T.flats r).length := by rw [hc]; simp [T.flats]
    have he : t.e = max a.e (altE (r.map T.e)) := by
      rw [hee, eOf, if_neg (by omega), if_neg (by omega), if_neg (by omega), if_neg (by omega), if_pos k30, hc]; rfl
    generalize hKS : List.map nodes (List.map T.flat t.ks) = KS at *
    simp only [ev0, ev1, ev2, ev3, ev4, ev5, ev6, ev7, ev8, ev9, ev10, ew, Nat.reduceEqDiff, reduceCtorEq, Nat.reduceAdd, Nat.reduceSub, Nat.reduceMul, Nat.reduceLT, Nat.reduceLeDiff, Int.reduceLT, Int.reduceLE, Int.reduceEq, Int.reduceNe, Int.reduceAdd, Int.reduceSub, Int.reduceMul, Int.reduceNeg, Int.reduceToNat, nd, nd0, hth, k30]
    refine go_block ?_
    simp only [ev0, ev1, ev2, ev3, ev4, ev5, ev6, ev7, ev8, ev9, ev10, ew, Nat.reduceEqDiff, reduceCtorEq, Nat.reduceAdd, Nat.reduceSub, Nat.reduceMul, Nat.reduceLT, Nat.reduceLeDiff, Int.reduceLT, Int.reduceLE, Int.reduceEq, Int.reduceNe, Int.reduceAdd, Int.reduceSub, Int.reduceMul, Int.reduceNeg, Int.reduceToNat, nd, nd0, hth, k30]
    refine go_callI ?_
    rw [← hKS, hc]
    refine choose_spec a r f' hf' (ih a (by rw [hc]; simp)).1 hP hw hI (by omega) (by omega) fun st1 σ1 w1 q1 => ?_
    simp only [ev0, ev1, ev2, ev3, ev4, ev5, ev6, ev7, ev8, ev9, ev10, ew, Nat.reduceEqDiff, reduceCtorEq, Nat.reduceAdd, Nat.reduceSub, Nat.reduceMul, Nat.reduceLT, Nat.reduceLeDiff, Int.reduceLT, Int.reduceLE, Int.reduceEq, Int.reduceNe, Int.reduceAdd, Int.reduceSub, Int.reduceMul, Int.reduceNeg, Int.reduceToNat, q_end0]
    exact Ret.here (h _ _ w1 (q1.as hI (by omega) (by omega) (by omega)))
  have hmaxi : t.kind ≠ 37 → t.e = maxi (t.ks.map T.e) := fun h37 => by
    rw [hee, eOf, if_neg (by omega), if_neg (by omega), if_neg (by omega), if_neg (by omega), if_neg (by omega), if_neg h37]
  by_cases k32 : t.kind = 32
  · have hkd : ∀ u ∈ t.ks, DoOk gs s u ∧ ∃ f, T.ok f false u := fun u hu => by
      obtain ⟨i, hi⟩ := List.getElem?_of_mem hu
      obtain ⟨f', hf'⟩ := T.ok_kid hok hi
      rw [show takesB t.kind i t.ks.length = false by rw [k32]; rfl] at hf'
      exact ⟨(ih u hu).2, f', hf'⟩
    have he := hmaxi (by omega)
    generalize hKS : List.map nodes (List.map T.flat t.ks) = KS at *
    simp only [ev0, ev1, ev2, ev3, ev4, ev5, ev6, ev7, ev8, ev9, ev10, ew, Nat.reduceEqDiff, reduceCtorEq, Nat.reduceAdd, Nat.reduceSub, Nat.reduceMul, Nat.reduceLT, Nat.reduceLeDiff, Int.reduceLT, Int.reduceLE, Int.reduceEq, Int.reduceNe, Int.reduceAdd, Int.reduceSub, Int.reduceMul, Int.reduceNeg, Int.reduceToNat, nd, nd0, hth, k32]
    refine go_block ?_
    simp only [ev0, ev1, ev2, ev3, ev4, ev5, ev6, ev7, ev8, ev9, ev10, ew, Nat.reduceEqDiff, reduceCtorEq, Nat.reduceAdd, Nat.reduceSub, Nat.reduceMul, Nat.reduceLT, Nat.reduceLeDiff, Int.reduceLT, Int.reduceLE, Int.reduceEq, Int.reduceNe, Int.reduceAdd, Int.reduceSub, Int.reduceMul, Int.reduceNeg, Int.reduceToNat, nd, nd0, hth, k32, hlm]
    refine go_callI (op_post 27 t.ks.length 0 [] hw hI (by omega) (okA_plain (by omega) (by omega) (by simp) (by omega) (by simp)) fun st1 σ1 w1 q1 l1 _ => ?_)
    have n1 := q1.2.2.2.1
    have e1 := q1.2.2.2.2
    have hw0 : IntKind.i64.wrap ((t.ks.length : Int) - 1) = (t.ks.length : Int) - 1 := i64_id _ (by omega) (by omega)
    simp only [ev0, ev1, ev2, ev3, ev4, ev5, ev6, ev7, ev8, ev9, ev10, ew, Nat.reduceEqDiff, reduceCtorEq, Nat.reduceAdd, Nat.reduceSub, Nat.reduceMul, Nat.reduceLT, Nat.reduceLeDiff, Int.reduceLT, Int.reduceLE, Int.reduceEq, Int.reduceNe, Int.reduceAdd, Int.reduceSub, Int.reduceMul, Int.reduceNeg, Int.reduceToNat, hlm]
    refine go_block ?_
    refine go_loop W84_0 [0, 2, 100, 101] [.ptr bw 3 0 0, .rd 1 KS, .rd 1 KS, .int .i64 t.ks.length] [102] (pipeI σ0 bw st1 t.ks (max st.high (st.now + maxi (t.ks.map T.e)))) A84_0_wr rfl ?_ ?_ ?_
    · simp only [ev0, ev1, ev2, ev3, ev4, ev5, ev6, ev7, ev8, ev9, ev10, ew, Nat.reduceEqDiff, reduceCtorEq, Nat.reduceAdd, Nat.reduceSub, Nat.reduceMul, Nat.reduceLT, Nat.reduceLeDiff, Int.reduceLT, Int.reduceLE, Int.reduceEq, Int.reduceNe, Int.reduceAdd, Int.reduceSub, Int.reduceMul, Int.reduceNeg, Int.reduceToNat]
    · refine ⟨t.ks.length, _, _, Sub.refl _, FzL.refl _ _ _, 0, st1, ?_, w1, q1.1, rfl, by omega, by rw [List.drop_zero]; omega, rfl, ?_⟩
      · simp only [ev0, ev1, ev2, ev3, ev4, ev5, ev6, ev7, ev8, ev9, ev10, ew, Nat.reduceEqDiff, reduceCtorEq, Nat.reduceAdd, Nat.reduceSub, Nat.reduceMul, Nat.reduceLT, Nat.reduceLeDiff, Int.reduceLT, Int.reduceLE, Int.reduceEq, Int.reduceNe, Int.reduceAdd, Int.reduceSub, Int.reduceMul, Int.reduceNeg, Int.reduceToNat]
      · rw [List.drop_zero]; have := maxi_nonneg (t.ks.map T.e); omega
    · rintro n vs σ' - ⟨i, st2, rfl, w2, hI2, hi, b1, b2, b3, b4⟩
      unfold A84_0
      have hI2' := hI2.2
      by_cases hci : (i : Int) < t.ks.length
      · obtain ⟨u, hu⟩ : ∃ u, t.ks[i]? = some u := ⟨t.ks[i]'(by omega), List.getElem?_eq_getElem _⟩
        obtain ⟨d1, d2, d3⟩ := flats_drop hu
        obtain ⟨hud, f', hf'⟩ := hkd u (List.mem_of_getElem? hu)
        have hul := u.flat_len_pos
        have hue := u.e_nonneg
        have hnu : KS[i]? = some (nodes u.flat) := by rw [← hKS, List.getElem?_map, List.getElem?_map, hu]; rfl
        have hw1 : IntKind.i64.wrap ((i : Int) + 1) = (i + 1 : Nat) := i64_id _ (by omega) (by omega)
        rw [d2] at b4
        simp only [maxi] at b4
        have hmn := maxi_nonneg ((t.ks.drop (i + 1)).map T.e)
        simp only [ev0, ev1, ev2, ev3, ev4, ev5, ev6, ev7, ev8, ev9, ev10, ew, Nat.reduceEqDiff, reduceCtorEq, Nat.reduceAdd, Nat.reduceSub, Nat.reduceMul, Nat.reduceLT, Nat.reduceLeDiff, Int.reduceLT, Int.reduceLE, Int.reduceEq, Int.reduceNe, Int.reduceAdd, Int.reduceSub, Int.reduceMul, Int.reduceNeg, Int.reduceToNat, hci]
        refine go_block ?_
        simp only [ev0, ev1, ev2, ev3, ev4, ev5, ev6, ev7, ev8, ev9, ev10, ew, Nat.reduceEqDiff, reduceCtorEq, Nat.reduceAdd, Nat.reduceSub, Nat.reduceMul, Nat.reduceLT, Nat.reduceLeDiff, Int.reduceLT, Int.reduceLE, Int.reduceEq, Int.reduceNe, Int.reduceAdd, Int.reduceSub, Int.reduceMul, Int.reduceNeg, Int.reduceToNat, hnu, npart]
        refine go_callI (hud f' _ _ bw st2 _ hf' w2 hI2 (by omega) (by omega) fun st3 σ3 w3 q3 => ?_)
        have n3 := q3.2.2.2.1
        have l3 := q3.2.2.1
        have l3' := q3.2.1
        have e3 := q3.2.2.2.2
        by_cases hl1 : (i : Int) < (t.ks.length : Int) - 1
        · simp only [ev0, ev1, ev2, ev3, ev4, ev5, ev6, ev7, ev8, ev9, ev10, ew, Nat.reduceEqDiff, reduceCtorEq, Nat.reduceAdd, Nat.reduceSub, Nat.reduceMul, Nat.reduceLT, Nat.reduceLeDiff, Int.reduceLT, Int.reduceLE, Int.reduceEq, Int.reduceNe, Int.reduceAdd, Int.reduceSub, Int.reduceMul, Int.reduceNeg, Int.reduceToNat, hlm, hw0, hl1]
          refine go_callI (op_post 28 0 0 [] w3 q3.1 (by omega) (okA_plain (by omega) (by omega) (by simp) (by omega) (by simp)) fun st4 σ4 w4 q4 l4 _ => ?_)
          have e4 := q4.2.2.2.2
          have n4 := q4.2.2.2.1
          simp only [ev0, ev1, ev2, ev3, ev4, ev5, ev6, ev7, ev8, ev9, ev10, ew, Nat.reduceEqDiff, reduceCtorEq, Nat.reduceAdd, Nat.reduceSub, Nat.reduceMul, Nat.reduceLT, Nat.reduceLeDiff, Int.reduceLT, Int.reduceLE, Int.reduceEq, Int.reduceNe, Int.reduceAdd, Int.reduceSub, Int.reduceMul, Int.reduceNeg, Int.reduceToNat, hw1]
          refine loop_next (n - 1) (by omega) ⟨i + 1, st4, ?_, w4, q4.1, by omega, by omega, by omega, by omega, by omega⟩
          simp only [ev0, ev1, ev2, ev3, ev4, ev5, ev6, ev7, ev8, ev9, ev10, ew, Nat.reduceEqDiff, reduceCtorEq, Nat.reduceAdd, Nat.reduceSub, Nat.reduceMul, Nat.reduceLT, Nat.reduceLeDiff, Int.reduceLT, Int.reduceLE, Int.reduceEq, Int.reduceNe, Int.reduceAdd, Int.reduceSub, Int.reduceMul, Int.reduceNeg, Int.reduceToNat]
        · simp only [ev0, ev1, ev2, ev3, ev4, ev5, ev6, ev7, ev8, ev9, ev10, ew, Nat.reduceEqDiff, reduceCtorEq, Nat.reduceAdd, Nat.reduceSub, Nat.reduceMul, Nat.reduceLT, Nat.reduceLeDiff, Int.reduceLT, Int.reduceLE, Int.reduceEq, Int.reduceNe, Int.reduceAdd, Int.reduceSub, Int.reduceMul, Int.reduceNeg, Int.reduceToNat, hlm, hw0, hl1, hw1]
          refine loop_next (n - 1) (by omega) ⟨i + 1, st3, ?_, w3, q3.1, by omega, by omega, by omega, by omega, by omega⟩
          simp only [ev0, ev1, ev2, ev3, ev4, ev5, ev6, ev7, ev8, ev9, ev10, ew, Nat.reduceEqDiff, reduceCtorEq, Nat.reduceAdd, Nat.reduceSub, Nat.reduceMul, Nat.reduceLT, Nat.reduceLeDiff, Int.reduceLT, Int.reduceLE, Int.reduceEq, Int.reduceNe, Int.reduceAdd, Int.reduceSub, Int.reduceMul, Int.reduceNeg, Int.reduceToNat]
      · have hdn : t.ks.drop i = [] := List.drop_of_length_le (by omega)
        rw [hdn] at b2 b4
        simp only [T.flats, List.length_nil, List.map_nil, maxi] at b2 b4
        simp only [ev0, ev1, ev2, ev3, ev4, ev5, ev6, ev7, ev8, ev9, ev10, ew, Nat.reduceEqDiff, reduceCtorEq, Nat.reduceAdd, Nat.reduceSub, Nat.reduceMul, Nat.reduceLT, Nat.reduceLeDiff, Int.reduceLT, Int.reduceLE, Int.reduceEq, Int.reduceNe, Int.reduceAdd, Int.reduceSub, Int.reduceMul, Int.reduceNeg, Int.reduceToNat, hci, loop_exit, kont_gox]
        refine go_callI (op_post 29 0 0 [] w2 hI2 (by omega) (okA_plain (by omega) (by omega) (by simp) (by omega) (by simp)) fun st4 σ4 w4 q4 l4 _ => ?_)
        simp only [ev0, ev1, ev2, ev3, ev4, ev5, ev6, ev7, ev8, ev9, ev10, ew, Nat.reduceEqDiff, reduceCtorEq, Nat.reduceAdd, Nat.reduceSub, Nat.reduceMul, Nat.reduceLT, Nat.reduceLeDiff, Int.reduceLT, Int.reduceLE, Int.reduceEq, Int.reduceNe, Int.reduceAdd, Int.reduceSub, Int.reduceMul, Int.reduceNeg, Int.reduceToNat, q_end0]
        obtain ⟨y1, y2, y3, y4, y5⟩ := q4
        refine Ret.here (h _ _ w4 ⟨y1, by omega, by omega, by omega, ?_⟩)
        rw [he]; omega
  have two : t.kind = 33 ∨ t.kind = 34 ∨ t.kind = 35 → ∃ (a c : T) (fa fc : Nat), t.ks = [a, c] ∧ T.ok fa true a ∧ T.ok fc false c ∧ WordOk gs s a ∧ DoOk gs s c ∧ t.e = max a.e c.e ∧ (T.flats t.ks).length = a.flat.length + c.flat.length := fun hk3 => by
    obtain ⟨a, c, hc⟩ := two_kids (ks := t.ks) (by rcases hk3 with e | e | e <;> (rw [e] at p3; simpa [childrenB] using p3))
    obtain ⟨fa, ha⟩ := T.ok_kid hok (i := 0) (u := a) (by rw [hc]; rfl)
    obtain ⟨fc, hcc⟩ := T.ok_kid hok (i := 1) (u := c) (by rw [hc]; rfl)
    rw [show takesB t.kind (0 : Nat) t.ks.length = true by rcases hk3 with e | e | e <;> (rw [e]; rfl)] at ha
    rw [show takesB t.kind (1 : Nat) t.ks.length = false by rcases hk3 with e | e | e <;> (rw [e]; rfl)] at hcc
    refine ⟨a, c, fa, fc, hc, ha, hcc, (ih a (by rw [hc]; simp)).1, (ih c (by rw [hc]; simp)).2, ?_, by rw [hc]; simp [T.flats]⟩
    rw [hmaxi (by omega), hc]; simp only [List.map_cons, List.map_nil, maxi]; have := c.e_nonneg; omega
  by_cases k3 : t.kind = 33 ∨ t.kind = 34 ∨ t.kind = 35
  · obtain ⟨a, c, fa, fc, hc, hao, hco, haw, hcd, he, hfl⟩ := two k3
    rcases k3 with k | k | k
    · simp only [ev0, ev1, ev2, ev3, ev4, ev5, ev6, ev7, ev8, ev9, ev10, ew, Nat.reduceEqDiff, reduceCtorEq, Nat.reduceAdd, Nat.reduceSub, Nat.reduceMul, Nat.reduceLT, Nat.reduceLeDiff, Int.reduceLT, Int.reduceLE, Int.reduceEq, Int.reduceNe, Int.reduceAdd, Int.reduceSub, Int.reduceMul, Int.reduceNeg, Int.reduceToNat, nd, nd0, hth, k, hc]
      refine go_block ?_
      simp only [ev0, ev1, ev2, ev3, ev4, ev5, ev6, ev7, ev8, ev9, ev10, ew, Nat.reduceEqDiff, reduceCtorEq, Nat.reduceAdd, Nat.reduceSub, Nat.reduceMul, Nat.reduceLT, Nat.reduceLeDiff, Int.reduceLT, Int.reduceLE, Int.reduceEq, Int.reduceNe, Int.reduceAdd, Int.reduceSub, Int.reduceMul, Int.reduceNeg, Int.reduceToNat, nd, nd0, hth, k]
      refine go_callI (around_spec a c fa fc hao hco haw hcd 30 31 t.n [] (by omega) hnn (by simp) hw hI (by omega) (by omega) fun st1 σ1 w1 q1 => ?_)
      simp only [ev0, ev1, ev2, ev3, ev4, ev5, ev6, ev7, ev8, ev9, ev10, ew, Nat.reduceEqDiff, reduceCtorEq, Nat.reduceAdd, Nat.reduceSub, Nat.reduceMul, Nat.reduceLT, Nat.reduceLeDiff, Int.reduceLT, Int.reduceLE, Int.reduceEq, Int.reduceNe, Int.reduceAdd, Int.reduceSub, Int.reduceMul, Int.reduceNeg, Int.reduceToNat, q_end0]
      exact Ret.here (h _ _ w1 (q1.as hI (by omega) (by omega) (by omega)))
    · simp only [ev0, ev1, ev2, ev3, ev4, ev5, ev6, ev7, ev8, ev9, ev10, ew, Nat.reduceEqDiff, reduceCtorEq, Nat.reduceAdd, Nat.reduceSub, Nat.reduceMul, Nat.reduceLT, Nat.reduceLeDiff, Int.reduceLT, Int.reduceLE, Int.reduceEq, Int.reduceNe, Int.reduceAdd, Int.reduceSub, Int.reduceMul, Int.reduceNeg, Int.reduceToNat, nd, nd0, hth, k, hc]
      refine go_block ?_
      simp only [ev0, ev1, ev2, ev3, ev4, ev5, ev6, ev7, ev8, ev9, ev10, ew, Nat.reduceEqDiff, reduceCtorEq, Nat.reduceAdd, Nat.reduceSub, Nat.reduceMul, Nat.reduceLT, Nat.reduceLeDiff, Int.reduceLT, Int.reduceLE, Int.reduceEq, Int.reduceNe, Int.reduceAdd, Int.reduceSub, Int.reduceMul, Int.reduceNeg, Int.reduceToNat, nd, nd0, hth, k]
      refine go_callI (around_spec a c fa fc hao hco haw hcd 32 33 0 [] (by omega) (by omega) (by simp) hw hI (by omega) (by omega) fun st1 σ1 w1 q1 => ?_)
      simp only [ev0, ev1, ev2, ev3, ev4, ev5, ev6, ev7, ev8, ev9, ev10, ew, Nat.reduceEqDiff, reduceCtorEq, Nat.reduceAdd, Nat.reduceSub, Nat.reduceMul, Nat.reduceLT, Nat.reduceLeDiff, Int.reduceLT, Int.reduceLE, Int.reduceEq, Int.reduceNe, Int.reduceAdd, Int.reduceSub, Int.reduceMul, Int.reduceNeg, Int.reduceToNat, q_end0]
      exact Ret.here (h _ _ w1 (q1.as hI (by omega) (by omega) (by omega)))
    · simp only [ev0, ev1, ev2, ev3, ev4, ev5, ev6, ev7, ev8, ev9, ev10, ew, Nat.reduceEqDiff, reduceCtorEq, Nat.reduceAdd, Nat.reduceSub, Nat.reduceMul, Nat.reduceLT, Nat.reduceLeDiff, Int.reduceLT, Int.reduceLE, Int.reduceEq, Int.reduceNe, Int.reduceAdd, Int.reduceSub, Int.reduceMul, Int.reduceNeg, Int.reduceToNat, nd, nd0, hth, k, hc]
      refine go_block ?_
      simp only [ev0, ev1, ev2, ev3, ev4, ev5, ev6, ev7, ev8, ev9, ev10, ew, Nat.reduceEqDiff, reduceCtorEq, Nat.reduceAdd, Nat.reduceSub, Nat.reduceMul, Nat.reduceLT, Nat.reduceLeDiff, Int.reduceLT, Int.reduceLE, Int.reduceEq, Int.reduceNe, Int.reduceAdd, Int.reduceSub, Int.reduceMul, Int.reduceNeg, Int.reduceToNat, nd, nd0, hth, k]
      refine go_callI (around_spec a c fa fc hao hco haw hcd 34 35 0 t.str (by omega) (by omega) hstr hw hI (by omega) (by omega) fun st1 σ1 w1 q1 => ?_)
      simp only [ev0, ev1, ev2, ev3, ev4, ev5, ev6, ev7, ev8, ev9, ev10, ew, Nat.reduceEqDiff, reduceCtorEq, Nat.reduceAdd, Nat.reduceSub, Nat.reduceMul, Nat.reduceLT, Nat.reduceLeDiff, Int.reduceLT, Int.reduceLE, Int.reduceEq, Int.reduceNe, Int.reduceAdd, Int.reduceSub, Int.reduceMul, Int.reduceNeg, Int.reduceToNat, q_end0]
      exact Ret.here (h _ _ w1 (q1.as hI (by omega) (by omega) (by omega)))
  by_cases k36 : t.kind = 36
  · obtain ⟨c, hc⟩ := one_kid (ks := t.ks) (by rw [k36] at p3; simpa [childrenB] using p3)
    have he : t.e = c.e := by
      rw [hmaxi (by omega), hc]; simp only [List.map_cons, List.map_nil, maxi]; have := c.e_nonneg; omega
    obtain ⟨f', hf'⟩ := T.ok_kid hok (i := 0) (u := c) (by rw [hc]; rfl)
    rw [show takesB t.kind (0 : Nat) t.ks.length = true by rw [k36]; rfl] at hf'
    have hcl : (T.flats t.ks).length = c.flat.length := by rw [hc]; simp [T.flats]
    have hce := c.e_word hf'
    have hcp := c.flat_len_pos
    simp only [ev0, ev1, ev2, ev3, ev4, ev5, ev6, ev7, ev8, ev9, ev10, ew, Nat.reduceEqDiff, reduceCtorEq, Nat.reduceAdd, Nat.reduceSub, Nat.reduceMul, Nat.reduceLT, Nat.reduceLeDiff, Int.reduceLT, Int.reduceLE, Int.reduceEq, Int.reduceNe, Int.reduceAdd, Int.reduceSub, Int.reduceMul, Int.reduceNeg, Int.reduceToNat, nd, nd0, hth, k36, hc]
    refine go_block ?_
    simp only [ev0, ev1, ev2, ev3, ev4, ev5, ev6, ev7, ev8, ev9, ev10, ew, Nat.reduceEqDiff, reduceCtorEq, Nat.reduceAdd, Nat.reduceSub, Nat.reduceMul, Nat.reduceLT, Nat.reduceLeDiff, Int.reduceLT, Int.reduceLE, Int.reduceEq, Int.reduceNe, Int.reduceAdd, Int.reduceSub, Int.reduceMul, Int.reduceNeg, Int.reduceToNat, nd, nd0, hth, k36, npart]
    refine go_callI ((ih c (by rw [hc]; simp)).1 f' _ _ bw st _ hf' hw hI (by omega) (by omega) fun st1 σ1 w1 q1 => ?_)
    have n1 := q1.2.2.2.1
    have l1 := q1.2.2.1
    simp only [ev0, ev1, ev2, ev3, ev4, ev5, ev6, ev7, ev8, ev9, ev10, ew, Nat.reduceEqDiff, reduceCtorEq, Nat.reduceAdd, Nat.reduceSub, Nat.reduceMul, Nat.reduceLT, Nat.reduceLeDiff, Int.reduceLT, Int.reduceLE, Int.reduceEq, Int.reduceNe, Int.reduceAdd, Int.reduceSub, Int.reduceMul, Int.reduceNeg, Int.reduceToNat]
    refine go_callI (op_post 37 0 0 [] w1 q1.1 (by omega) (okA_plain (by omega) (by omega) (by simp) (by omega) (by simp)) fun st2 σ2 w2 q2 l2 _ => ?_)
    have n2 := q2.2.2.2.1
    simp only [ev0, ev1, ev2, ev3, ev4, ev5, ev6, ev7, ev8, ev9, ev10, ew, Nat.reduceEqDiff, reduceCtorEq, Nat.reduceAdd, Nat.reduceSub, Nat.reduceMul, Nat.reduceLT, Nat.reduceLeDiff, Int.reduceLT, Int.reduceLE, Int.reduceEq, Int.reduceNe, Int.reduceAdd, Int.reduceSub, Int.reduceMul, Int.reduceNeg, Int.reduceToNat]
    refine go_callI (push_spec (-1) w2 (by omega) (by omega) fun σ3 w3 => ?_)
    simp only [ev0, ev1, ev2, ev3, ev4, ev5, ev6, ev7, ev8, ev9, ev10, ew, Nat.reduceEqDiff, reduceCtorEq, Nat.reduceAdd, Nat.reduceSub, Nat.reduceMul, Nat.reduceLT, Nat.reduceLeDiff, Int.reduceLT, Int.reduceLE, Int.reduceEq, Int.reduceNe, Int.reduceAdd, Int.reduceSub, Int.reduceMul, Int.reduceNeg, Int.reduceToNat, q_end0]
    exact Ret.here (h _ _ w3 (((q1.op q2 hce).pop (-1) (by omega) (by omega)).as hI (by omega) (by omega) (by omega)))
  have k37 : t.kind = 37 := by omega
  obtain ⟨ws, c, hc⟩ : ∃ ws c, t.ks = ws ++ [c] := by
    rcases List.eq_nil_or_concat t.ks with hc | ⟨ws, c, hc⟩
    · rw [k37, hc] at p3; exact absurd p3 (by decide)
    · exact ⟨ws, c, by rw [hc]; simp⟩
  have hlen : t.ks.length = ws.length + 1 := by rw [hc]; simp
  have hkw : ∀ u ∈ ws, WordOk gs s u ∧ ∃ f, T.ok f true u := fun u hu => by
    obtain ⟨i, hi⟩ := List.getElem?_of_mem hu
    have hil := (List.getElem?_eq_some_iff.1 hi).1
    obtain ⟨f', hf'⟩ := T.ok_kid hok (i := i) (u := u) (by rw [hc, List.getElem?_append_left hil]; exact hi)
    have ht : takesB t.kind i t.ks.length = true := by
      rw [k37, takesB, if_neg (by decide), if_neg (by decide), if_neg (by decide), if_pos rfl]
      exact decide_eq_true (by omega)
    rw [ht] at hf'
    exact ⟨(ih u (by rw [hc]; simp [hu])).1, f', hf'⟩
  have hcg : t.ks[ws.length]? = some c := by rw [hc]; simp
  obtain ⟨fc, hco⟩ := T.ok_kid hok hcg
  have ht : takesB t.kind ws.length t.ks.length = false := by
    rw [k37, takesB, if_neg (by decide), if_neg (by decide), if_neg (by decide), if_pos rfl]
    exact decide_eq_false (by omega)
  rw [ht] at hco
  have hfl : (T.flats t.ks).length = (T.flats ws).length + c.flat.length := by rw [hc, T.flats_append, List.length_append]; simp [T.flats]
  have he : t.e = max (togE (ws.map T.e)) c.e := by
    rw [hee, eOf, if_neg (by omega), if_neg (by omega), if_neg (by omega), if_neg (by omega), if_neg (by omega), if_pos k37, hc, List.map_append, List.map_singleton, List.dropLast_concat, List.getLast?_concat]
    simp only [Option.toList_some, maxi]; have := c.e_nonneg; omega
  obtain ⟨m, hm, hm0, hm1, hm2⟩ : ∃ m : Int, (if (2 : Int) < ws.length then 2 else (ws.length : Int)) = m ∧ m = (if ws.length = 0 then 0 else if ws.length = 1 then 1 else 2) ∧ 0 ≤ m ∧ m ≤ 2 := by
    refine ⟨_, rfl, ?_, ?_, ?_⟩ <;> repeat' split
    all_goals omega
  have hmin : m ≤ togE (ws.map T.e) := by
    have := togE_min (ws.map T.e) fun e he => by
      obtain ⟨u, hu, rfl⟩ := List.mem_map.1 he
      obtain ⟨_, f', hf'⟩ := hkw u hu
      exact u.e_word hf'
    rw [List.length_map, ← hm0] at this
    exact this
  have hwl := T.flats_len_le ws
  have hcp := c.flat_len_pos
  have hce := c.e_nonneg
  have hw0 : IntKind.i64.wrap ((t.ks.length : Int) - 1) = (ws.length : Int) := by rw [i64_id _ (by omega) (by omega)]; omega
  have hw1 : IntKind.i64.wrap (0 - m) = -m := by rw [i64_id _ (by omega) (by omega)]; omega
  have hsl : List.take (ws.length) (List.map nodes (List.map T.flat t.ks)) = List.map nodes (List.map T.flat ws) := by
    rw [hc, List.map_append, List.map_append]
    have : ws.length = (List.map nodes (List.map T.flat ws)).length := by simp
    rw [this, List.take_left]
  have hnc : (List.map nodes (List.map T.flat t.ks))[ws.length]? = some (nodes c.flat) := by rw [List.getElem?_map, List.getElem?_map, hcg]; rfl
  have hlw : (List.map nodes (List.map T.flat ws)).length = ws.length := by simp
  generalize hKS : List.map nodes (List.map T.flat t.ks) = KS at *
  generalize hWS : List.map nodes (List.map T.flat ws) = WSS at *
  simp only [ev0, ev1, ev2, ev3, ev4, ev5, ev6, ev7, ev8, ev9, ev10, ew, Nat.reduceEqDiff, reduceCtorEq, Nat.reduceAdd, Nat.reduceSub, Nat.reduceMul, Nat.reduceLT, Nat.reduceLeDiff, Int.reduceLT, Int.reduceLE, Int.reduceEq, Int.reduceNe, Int.reduceAdd, Int.reduceSub, Int.reduceMul, Int.reduceNeg, Int.reduceToNat, nd, nd0, hth, k37]
  refine go_block ?_
  simp only [ev0, ev1, ev2, ev3, ev4, ev5, ev6, ev7, ev8, ev9, ev10, ew, Nat.reduceEqDiff, reduceCtorEq, Nat.reduceAdd, Nat.reduceSub, Nat.reduceMul, Nat.reduceLT, Nat.reduceLeDiff, Int.reduceLT, Int.reduceLE, Int.reduceEq, Int.reduceNe, Int.reduceAdd, Int.reduceSub, Int.reduceMul, Int.reduceNeg, Int.reduceToNat, nd, nd0, hth, k37, hlm, hw0]
  refine ⟨by omega, ?_⟩
  simp only [ev0, ev1, ev2, ev3, ev4, ev5, ev6, ev7, ev8, ev9, ev10, ew, Nat.reduceEqDiff, reduceCtorEq, Nat.reduceAdd, Nat.reduceSub, Nat.reduceMul, Nat.reduceLT, Nat.reduceLeDiff, Int.reduceLT, Int.reduceLE, Int.reduceEq, Int.reduceNe, Int.reduceAdd, Int.reduceSub, Int.reduceMul, Int.reduceNeg, Int.reduceToNat, Int.sub_zero, Nat.sub_zero, List.drop_zero, hsl]
  refine go_callI ?_
  rw [← hWS]
  refine together_spec ws _ 1 hkw (.inr (.inr rfl)) (.inr rfl) hw hI (by omega) (by omega) fun st1 σ1 w1 hI1 l1 l2 n1 e1 => ?_
  rw [hWS]
  have hI1' := hI1.2
  rw [← hm0] at n1
  simp only [ev0, ev1, ev2, ev3, ev4, ev5, ev6, ev7, ev8, ev9, ev10, ew, Nat.reduceEqDiff, reduceCtorEq, Nat.reduceAdd, Nat.reduceSub, Nat.reduceMul, Nat.reduceLT, Nat.reduceLeDiff, Int.reduceLT, Int.reduceLE, Int.reduceEq, Int.reduceNe, Int.reduceAdd, Int.reduceSub, Int.reduceMul, Int.reduceNeg, Int.reduceToNat, hlw, hm]
  refine go_callI (op_post _ m 0 [] w1 hI1 (by omega) (okA_plain (by omega) (by omega) (by simp) hm1 (by simp)) fun st2 σ2 w2 q2 l3 _ => ?_)
  have n2 := q2.2.2.2.1
  simp only [ev0, ev1, ev2, ev3, ev4, ev5, ev6, ev7, ev8, ev9, ev10, ew, Nat.reduceEqDiff, reduceCtorEq, Nat.reduceAdd, Nat.reduceSub, Nat.reduceMul, Nat.reduceLT, Nat.reduceLeDiff, Int.reduceLT, Int.reduceLE, Int.reduceEq, Int.reduceNe, Int.reduceAdd, Int.reduceSub, Int.reduceMul, Int.reduceNeg, Int.reduceToNat, hw1]
  refine go_callI (push_spec (-m) w2 (by omega) (by omega) fun σ3 w3 => ?_)
  have q1 : Post st st1 (8 * (T.flats ws).length - ws.length) m (togE (ws.map T.e)) := ⟨hI1, l1, by omega, n1, e1⟩
  have q3 := (q1.op q2 hmin).pop (-m) (by omega) (by omega)
  simp only [ev0, ev1, ev2, ev3, ev4, ev5, ev6, ev7, ev8, ev9, ev10, ew, Nat.reduceEqDiff, reduceCtorEq, Nat.reduceAdd, Nat.reduceSub, Nat.reduceMul, Nat.reduceLT, Nat.reduceLeDiff, Int.reduceLT, Int.reduceLE, Int.reduceEq, Int.reduceNe, Int.reduceAdd, Int.reduceSub, Int.reduceMul, Int.reduceNeg, Int.reduceToNat, hlm, hw0, hnc, npart]
  refine go_callI ((ih c (by rw [hc]; simp)).2 fc _ _ bw _ _ hco w3 q3.1 (by dsimp only; omega) (by dsimp only; omega) fun st4 σ4 w4 q4 => ?_)
  have l4 := q4.2.2.1
  dsimp only at l4
  simp only [ev0, ev1, ev2, ev3, ev4, ev5, ev6, ev7, ev8, ev9, ev10, ew, Nat.reduceEqDiff, reduceCtorEq, Nat.reduceAdd, Nat.reduceSub, Nat.reduceMul, Nat.reduceLT, Nat.reduceLeDiff, Int.reduceLT, Int.reduceLE, Int.reduceEq, Int.reduceNe, Int.reduceAdd, Int.reduceSub, Int.reduceMul, Int.reduceNeg, Int.reduceToNat]
  refine go_callI (op_post 39 0 0 [] w4 q4.1 (by omega) (okA_plain (by omega) (by omega) (by simp) (by omega) (by simp)) fun st5 σ5 w5 q5 l5 _ => ?_)
  simp only [ev0, ev1, ev2, ev3, ev4, ev5, ev6, ev7, ev8, ev9, ev10, ew, Nat.reduceEqDiff, reduceCtorEq, Nat.reduceAdd, Nat.reduceSub, Nat.reduceMul, Nat.reduceLT, Nat.reduceLeDiff, Int.reduceLT, Int.reduceLE, Int.reduceEq, Int.reduceNe, Int.reduceAdd, Int.reduceSub, Int.reduceMul, Int.reduceNeg, Int.reduceToNat, q_end0]
  exact Ret.here (h _ _ w5 (((q3.trans q4).trans q5).as hI (by omega) (by omega) (by omega)))
end Go.Proofs.YthmcfphafofheaaDoor
