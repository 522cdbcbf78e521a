/- Contracts: a word is written. No statement of the seat is proved in this file. -/
import Derived.Test.YthmcfphafofheaaDoorGen2
open Go Go.Proofs
namespace Go.Proofs.YthmcfphafofheaaDoor
open Pat
set_option maxRecDepth 10000
set_option maxHeartbeats 1000000
set_option linter.unusedSimpArgs false
set_option linter.unusedVariables false
variable {gs : List Nat} {s : Nat → Addr} {σ : Hp} {K : AV → Hp → Prop}
theorem ops_spec (k : Int) (h1 : 5 ≤ k) (h2 : k ≤ 11) (h : K (.int .i64 k) σ) : ACalls (env gs s) 164 [.int .i64 k] σ K := by
  refine A164_call rfl ?_
  unfold A164
  have : k = 5 ∨ k = 6 ∨ k = 7 ∨ k = 8 ∨ k = 9 ∨ k = 10 ∨ k = 11 := by omega
  rcases this with rfl | rfl | rfl | rfl | rfl | rfl | rfl
  all_goals
    simp only [ev0, ev1, ev2, ev3, ev4, ev5, ev6, ev7, ev8, ev9, ev10, ew, Nat.reduceEqDiff, reduceCtorEq, Nat.reduceAdd, Nat.reduceSub, Nat.reduceMul, Nat.reduceLT, Nat.reduceLeDiff, Int.reduceLT, Int.reduceLE, Int.reduceEq, Int.reduceNe, Int.reduceAdd, Int.reduceSub, Int.reduceMul, Int.reduceNeg, Int.reduceToNat]
    refine ⟨by simp [partsOk, avc], ?_⟩; simp only [fillA, avc, List.take, List.drop, List.cons_append, List.nil_append, List.length_cons, List.length_nil, Nat.reduceAdd, ev0, ev1, ev2, ev3, ev4, ev5, ev6, ev7, ev8, ev9, ev10, ew, Nat.reduceEqDiff, reduceCtorEq, Nat.reduceAdd, Nat.reduceSub, Nat.reduceMul, Nat.reduceLT, Nat.reduceLeDiff, Int.reduceLT, Int.reduceLE, Int.reduceEq, Int.reduceNe, Int.reduceAdd, Int.reduceSub, Int.reduceMul, Int.reduceNeg, Int.reduceToNat]
    simp only [ev0, ev1, ev2, ev3, ev4, ev5, ev6, ev7, ev8, ev9, ev10, ew, Nat.reduceEqDiff, reduceCtorEq, Nat.reduceAdd, Nat.reduceSub, Nat.reduceMul, Nat.reduceLT, Nat.reduceLeDiff, Int.reduceLT, Int.reduceLE, Int.reduceEq, Int.reduceNe, Int.reduceAdd, Int.reduceSub, Int.reduceMul, Int.reduceNeg, Int.reduceToNat, part_f, List.replicate, List.flatten, q_ret1]
    exact ⟨by omega, Ret.here h⟩
theorem T.ok_kid {f : Nat} {word : Bool} {t : T} (h : T.ok f word t) {i : Nat} {u : T} (hu : t.ks[i]? = some u) : ∃ f', T.ok f' (takesB t.kind i t.ks.length) u := by
  cases f with
  | zero => exact h.elim
  | succ f => exact ⟨f, h.2.2.2 i u hu⟩
theorem nth_kid {t : T} {c : T} {i : Nat} (h : t.ks[i]? = some c) : ((kids t.flat).map nodes)[i]? = some (nodes c.flat) := by
  rw [kids_flat]; simp [h]
theorem Post.trans {a b c : St} {m n : Nat} {d d' e e' : Int} (h : Post a b m d e) (h' : Post b c n d' e') : Post a c (m + n) (d + d') (max e (d + e')) := by
  obtain ⟨_, h1, h2, h3, h4⟩ := h
  obtain ⟨i, k1, k2, k3, k4⟩ := h'
  exact ⟨i, by omega, by omega, by omega, by omega⟩
theorem Post.push {a b : St} {m : Nat} {d e : Int} (h : Post a b m d e) (n : Int) (hn : 0 ≤ b.now + n) : Post a ⟨b.l, b.now + n, max b.high (b.now + n)⟩ m (d + n) (max e (d + n)) := by
  obtain ⟨i, h1, h2, h3, h4⟩ := h
  exact ⟨⟨i.1, hn, by dsimp only; omega⟩, h1, h2, by dsimp only; omega, by dsimp only; omega⟩
theorem Post.as {a b : St} {m m' : Nat} {d d' e e' : Int} (h : Post a b m d e) (hI : Inv a) (hm : m ≤ m') (hd : d = d') (he : max 0 e = max 0 e') : Post a b m' d' e' := by
  obtain ⟨i, h1, h2, h3, h4⟩ := h
  have := hI.2
  exact ⟨i, h1, by omega, by omega, by omega⟩
theorem okA_plain {n : Nat} {op a b : Int} {str : List UInt8} (h1 : 1 ≤ op) (h2 : op ≤ 41) (h3 : op ∉ [18, 19, 20, 22, 24, 26, 30]) (ha : 0 ≤ a) (hs : str.length ≤ 2000) : okA n ⟨op, a, b, str⟩ := by
  refine ⟨⟨h1, h2⟩, fun hx => ?_, fun hx => ?_, fun _ => ha, hs⟩
  · exfalso; apply h3; simp only [List.mem_cons, List.not_mem_nil, or_false] at hx ⊢; omega
  · exfalso; apply h3; simp only [List.mem_cons, List.not_mem_nil, or_false] at hx ⊢; omega
theorem okA_zero {n : Nat} {op : Int} {str : List UInt8} {b : Int} (h1 : 1 ≤ op) (h2 : op ≤ 41) (hb : b = 0 ∨ op ∉ [30, 26]) (hs : str.length ≤ 2000) : okA n ⟨op, 0, b, str⟩ := by
  refine ⟨⟨h1, h2⟩, fun hx => ⟨by simp, by simp⟩, fun hx => ?_, fun _ => by simp, hs⟩
  rcases hb with rfl | hb
  · exact ⟨by simp, by simp⟩
  · exact absurd hx hb
theorem fieldsB_str {kind n : Int} {str : List UInt8} (h : fieldsB kind n str = true) : str.length ≤ 2000 := by
  unfold fieldsB at h
  have hn : nameB str = true → str.length ≤ 2000 := fun h => by
    unfold nameB at h
    simp only [Bool.and_eq_true, decide_eq_true_eq] at h
    omega
  have he : str = [] → str.length ≤ 2000 := fun h => by rw [h]; simp
  split at h
  · simp only [Bool.and_eq_true, decide_eq_true_eq] at h; exact h.2
  split at h
  · simp only [Bool.and_eq_true, decide_eq_true_eq] at h; exact he h.2
  split at h
  · simp only [Bool.and_eq_true, decide_eq_true_eq] at h; exact he h.2
  split at h
  · cases h
  split at h
  · simp only [Bool.or_eq_true, decide_eq_true_eq] at h
    rcases h with h | h
    · exact hn h
    · rw [h]; simp
  split at h
  · exact hn h
  · exact he (by simpa using h)
theorem fieldsB_n {kind n : Int} {str : List UInt8} (h : fieldsB kind n str = true) : 0 ≤ n := by
  unfold fieldsB at h
  split at h
  · simp only [Bool.and_eq_true, Bool.or_eq_true, decide_eq_true_eq] at h
    rcases h.1 with h | h <;> omega
  split at h
  · simp only [Bool.and_eq_true, decide_eq_true_eq] at h; omega
  split at h
  · simp only [Bool.and_eq_true, decide_eq_true_eq] at h; omega
  split at h
  · cases h
  · omega
theorem one_kid {ks : List T} (h : (ks.length : Int) = 1) : ∃ c, ks = [c] := by
  cases ks with
  | nil => simp at h
  | cons c r =>
    cases r with
    | nil => exact ⟨c, rfl⟩
    | cons d r => simp at h; omega
theorem T.ok_parts {f : Nat} {word : Bool} {t : T} (h : T.ok f word t) : kindB word t.kind = true ∧ fieldsB t.kind t.n t.str = true ∧ childrenB t.kind t.ks.length = true := by
  cases f with
  | zero => exact h.elim
  | succ f => exact ⟨h.1, h.2.1, h.2.2.1⟩
theorem T.e_bound {t : T} {f : Nat} {word : Bool} (h : T.ok f word t) : 0 ≤ t.e ∧ t.e ≤ t.flat.length := ⟨t.e_nonneg, Int.le_trans (t.e_le h) t.h_le⟩
theorem T.e_word (t : T) : ∀ {f : Nat}, T.ok f true t → 1 ≤ t.e := by
  refine T.ind (P := fun t => ∀ {f : Nat}, T.ok f true t → 1 ≤ t.e) (fun kind n str ks ih => ?_) t
  intro f hok
  obtain ⟨p1, _, p3⟩ := T.ok_parts hok
  have hkind : 1 ≤ kind ∧ kind ≤ 12 := of_decide_eq_true p1
  rw [T.e_mk, eOf]
  by_cases k1 : kind = 1 ∨ kind = 2
  · rw [if_pos k1]; omega
  by_cases k3 : kind = 3 ∨ kind = 4
  · rw [if_neg k1, if_pos k3]; omega
  by_cases k12 : kind = 12
  · rw [if_neg k1, if_neg k3, if_pos k12]; omega
  rw [if_neg k1, if_neg k3, if_neg k12, if_neg (by omega), if_neg (by omega), if_neg (by omega)]
  have hcase : kind = 5 ∨ kind = 6 ∨ kind = 7 ∨ kind = 8 ∨ kind = 9 ∨ kind = 10 ∨ kind = 11 := by omega
  have p3 : childrenB kind ks.length = true := p3
  have h1k : (ks.length : Int) = 1 := by
    rcases hcase with e | e | e | e | e | e | e <;> (rw [e] at p3; simpa [childrenB] using p3)
  obtain ⟨c, rfl⟩ := one_kid h1k
  obtain ⟨f', hf'⟩ := T.ok_kid (t := .mk kind n str [c]) hok (i := 0) rfl
  have ht : takesB (T.mk kind n str [c]).kind (0 : Nat) (T.mk kind n str [c]).ks.length = true := by
    show takesB kind 0 _ = true
    rcases hcase with e | e | e | e | e | e | e <;> rw [e] <;> rfl
  rw [ht] at hf'
  have := ih c (by simp) hf'
  simp only [List.map_cons, List.map_nil, maxi]
  omega
theorem togE_min : ∀ (es : List Int), (∀ e ∈ es, 1 ≤ e) → (if es.length = 0 then 0 else if es.length = 1 then 1 else 2) ≤ togE es
  | [], _ => by simp [togE]
  | [a], h => by have := h a (by simp); simp [togE, maxi]; omega
  | a :: b :: r, h => by
    have h1 := h b (by simp)
    simp only [togE, List.map_cons, maxi, List.length_cons]
    rw [if_neg (by omega), if_neg (by omega)]
    omega
theorem T.head_kind (t : T) : t.head.kind = t.kind := rfl
theorem word_ok (t : T) (ih : ∀ u ∈ t.ks, WordOk gs s u ∧ DoOk gs s u) : WordOk gs s t := by
  intro f σ0 σ bw st K hok hw hI hl hn h
  have hflat : t.flat.length = (T.flats t.ks).length + 1 := by rw [t.flat_eq]; rfl
  have hx : t.flat[0]? = some t.head := by rw [t.flat_eq]; rfl
  obtain ⟨p1, p2, p3⟩ := T.ok_parts hok
  have hkind : 1 ≤ t.kind ∧ t.kind ≤ 12 := of_decide_eq_true p1
  have hstr := fieldsB_str p2
  have hnow := hI.2
  refine A124_call rfl ?_
  unfold A124
  have front : ∀ (b : Nat), σ b = none → ∀ sl : Slots, sl 0 = .ptr bw 3 0 0 → sl 4 = .ptr b 5 0 0 → sl 5 = .rd 1 ((kids t.flat).map nodes) → sl 14 = .int .i64 t.kind →
      GoC (env gs s) 93 (bodyQ (env gs s) [] K) C124_0 [] sl (σ.upd b (.row 5 [t.head.av])) := by
    intro b hb sl h0 h4 h5 h14
    have w0 : WS (σ0.upd b (.row 5 [t.head.av])) bw st (σ.upd b (.row 5 [t.head.av])) := hw.fresh hb
    have hb0 := hw.isNone hb
    have fin : ∀ st' σ', WS (σ0.upd b (.row 5 [t.head.av])) bw st' σ' → Post st st' (8 * t.flat.length - 2) 1 t.e → Ret (env gs s) K (.tuple []) σ' := fun st' σ' w' hp => Ret.here (h st' σ' (w'.weak hb0) hp)
    have hee := T.e_eq t
    unfold C124_0
    refine go_block ?_
    by_cases k1 : t.kind = 1
    · have he : t.e = 1 := by rw [hee, eOf, if_pos (.inl k1)]
      simp only [ev0, ev1, ev2, ev3, ev4, ev5, ev6, ev7, ev8, ev9, ev10, ew, Nat.reduceEqDiff, reduceCtorEq, Nat.reduceAdd, Nat.reduceSub, Nat.reduceMul, Nat.reduceLT, Nat.reduceLeDiff, Int.reduceLT, Int.reduceLE, Int.reduceEq, Int.reduceNe, Int.reduceAdd, Int.reduceSub, Int.reduceMul, Int.reduceNeg, Int.reduceToNat, h14, k1]
      refine DT124_5_go ?_
      unfold DT124_5
      simp only [ev0, ev1, ev2, ev3, ev4, ev5, ev6, ev7, ev8, ev9, ev10, ew, Nat.reduceEqDiff, reduceCtorEq, Nat.reduceAdd, Nat.reduceSub, Nat.reduceMul, Nat.reduceLT, Nat.reduceLeDiff, Int.reduceLT, Int.reduceLE, Int.reduceEq, Int.reduceNe, Int.reduceAdd, Int.reduceSub, Int.reduceMul, Int.reduceNeg, Int.reduceToNat, h0, h4, upd_same, nd]
      refine go_callI (op_post 1 0 0 t.str w0 hI (by omega) (okA_plain (by omega) (by omega) (by simp) (by omega) hstr) fun st1 σ1 w1 q1 _ _ => ?_)
      simp only [ev0, ev1, ev2, ev3, ev4, ev5, ev6, ev7, ev8, ev9, ev10, ew, Nat.reduceEqDiff, reduceCtorEq, Nat.reduceAdd, Nat.reduceSub, Nat.reduceMul, Nat.reduceLT, Nat.reduceLeDiff, Int.reduceLT, Int.reduceLE, Int.reduceEq, Int.reduceNe, Int.reduceAdd, Int.reduceSub, Int.reduceMul, Int.reduceNeg, Int.reduceToNat, h0]
      have hI1 := q1.1.2
      refine go_callI (push_spec 1 w1 (by omega) (by have := q1.2.2.2.1; omega) fun σ2 w2 => ?_)
      simp only [ev0, ev1, ev2, ev3, ev4, ev5, ev6, ev7, ev8, ev9, ev10, ew, Nat.reduceEqDiff, reduceCtorEq, Nat.reduceAdd, Nat.reduceSub, Nat.reduceMul, Nat.reduceLT, Nat.reduceLeDiff, Int.reduceLT, Int.reduceLE, Int.reduceEq, Int.reduceNe, Int.reduceAdd, Int.reduceSub, Int.reduceMul, Int.reduceNeg, Int.reduceToNat, q_end0]
      exact fin _ _ w2 ((q1.push 1 (by omega)).as hI (by omega) (by omega) (by omega))
    by_cases k2 : t.kind = 2
    · have he : t.e = 1 := by rw [hee, eOf, if_pos (.inr k2)]
      simp only [ev0, ev1, ev2, ev3, ev4, ev5, ev6, ev7, ev8, ev9, ev10, ew, Nat.reduceEqDiff, reduceCtorEq, Nat.reduceAdd, Nat.reduceSub, Nat.reduceMul, Nat.reduceLT, Nat.reduceLeDiff, Int.reduceLT, Int.reduceLE, Int.reduceEq, Int.reduceNe, Int.reduceAdd, Int.reduceSub, Int.reduceMul, Int.reduceNeg, Int.reduceToNat, h14, k2]
      refine DT124_8_go ?_
      unfold DT124_8
      simp only [ev0, ev1, ev2, ev3, ev4, ev5, ev6, ev7, ev8, ev9, ev10, ew, Nat.reduceEqDiff, reduceCtorEq, Nat.reduceAdd, Nat.reduceSub, Nat.reduceMul, Nat.reduceLT, Nat.reduceLeDiff, Int.reduceLT, Int.reduceLE, Int.reduceEq, Int.reduceNe, Int.reduceAdd, Int.reduceSub, Int.reduceMul, Int.reduceNeg, Int.reduceToNat, h0, h4, upd_same, nd]
      refine go_callI (op_post 2 0 0 t.str w0 hI (by omega) (okA_plain (by omega) (by omega) (by simp) (by omega) hstr) fun st1 σ1 w1 q1 _ _ => ?_)
      simp only [ev0, ev1, ev2, ev3, ev4, ev5, ev6, ev7, ev8, ev9, ev10, ew, Nat.reduceEqDiff, reduceCtorEq, Nat.reduceAdd, Nat.reduceSub, Nat.reduceMul, Nat.reduceLT, Nat.reduceLeDiff, Int.reduceLT, Int.reduceLE, Int.reduceEq, Int.reduceNe, Int.reduceAdd, Int.reduceSub, Int.reduceMul, Int.reduceNeg, Int.reduceToNat, h0]
      have hI1 := q1.1.2
      refine go_callI (push_spec 1 w1 (by omega) (by have := q1.2.2.2.1; omega) fun σ2 w2 => ?_)
      simp only [ev0, ev1, ev2, ev3, ev4, ev5, ev6, ev7, ev8, ev9, ev10, ew, Nat.reduceEqDiff, reduceCtorEq, Nat.reduceAdd, Nat.reduceSub, Nat.reduceMul, Nat.reduceLT, Nat.reduceLeDiff, Int.reduceLT, Int.reduceLE, Int.reduceEq, Int.reduceNe, Int.reduceAdd, Int.reduceSub, Int.reduceMul, Int.reduceNeg, Int.reduceToNat, q_end0]
      exact fin _ _ w2 ((q1.push 1 (by omega)).as hI (by omega) (by omega) (by omega))
    have hkw : t.kind ≠ 12 → ∀ u ∈ t.ks, ∃ f', T.ok f' true u := fun hk u hu => by
      obtain ⟨i, hi⟩ := List.getElem?_of_mem hu
      obtain ⟨f', hf'⟩ := T.ok_kid hok hi
      have ht : takesB t.kind i t.ks.length = true := by
        have : t.kind = 3 ∨ t.kind = 4 ∨ t.kind = 5 ∨ t.kind = 6 ∨ t.kind = 7 ∨ t.kind = 8 ∨ t.kind = 9 ∨ t.kind = 10 ∨ t.kind = 11 := by omega
        rcases this with e | e | e | e | e | e | e | e | e <;> rw [e] <;> simp [takesB]
      rw [ht] at hf'
      exact ⟨f', hf'⟩
    have h5' : sl 5 = .rd 1 ((t.ks.map T.flat).map nodes) := by rw [h5, kids_flat]
    by_cases k34 : t.kind = 3 ∨ t.kind = 4
    · have he : t.e = max 1 (togE (t.ks.map T.e)) := by rw [hee, eOf, if_neg (by omega), if_pos k34]
      have hks : ∀ u ∈ t.ks, WordOk gs s u ∧ ∃ f, T.ok f true u := fun u hu => ⟨(ih u hu).1, hkw (by omega) u hu⟩
      have hkl := T.flats_len_le t.ks
      obtain ⟨m, hm, hm0, hm1, hm2⟩ : ∃ m : Int, (if (2 : Int) < t.ks.length then 2 else (t.ks.length : Int)) = m ∧ m = (if t.ks.length = 0 then 0 else if t.ks.length = 1 then 1 else 2) ∧ 0 ≤ m ∧ m ≤ 2 := by
        refine ⟨_, rfl, ?_, ?_, ?_⟩ <;> repeat' split
        all_goals omega
      have hlm : (t.ks.map T.flat).length = t.ks.length := by simp
      have hmin : m ≤ togE (t.ks.map T.e) := by
        have := togE_min (t.ks.map T.e) fun e he => by
          obtain ⟨u, hu, rfl⟩ := List.mem_map.1 he
          obtain ⟨f', hf'⟩ := hkw (by omega) u hu
          exact u.e_word hf'
        rw [List.length_map, ← hm0] at this
        exact this
      rcases k34 with k | k
      all_goals
        have hw1 : IntKind.i64.wrap (1 - m) = 1 - m := i64_id _ (by omega) (by omega)
        simp only [ev0, ev1, ev2, ev3, ev4, ev5, ev6, ev7, ev8, ev9, ev10, ew, Nat.reduceEqDiff, reduceCtorEq, Nat.reduceAdd, Nat.reduceSub, Nat.reduceMul, Nat.reduceLT, Nat.reduceLeDiff, Int.reduceLT, Int.reduceLE, Int.reduceEq, Int.reduceNe, Int.reduceAdd, Int.reduceSub, Int.reduceMul, Int.reduceNeg, Int.reduceToNat, h14, k, h4, upd_same, nd, t.head_kind]
        simp only [ev0, ev1, ev2, ev3, ev4, ev5, ev6, ev7, ev8, ev9, ev10, ew, Nat.reduceEqDiff, reduceCtorEq, Nat.reduceAdd, Nat.reduceSub, Nat.reduceMul, Nat.reduceLT, Nat.reduceLeDiff, Int.reduceLT, Int.reduceLE, Int.reduceEq, Int.reduceNe, Int.reduceAdd, Int.reduceSub, Int.reduceMul, Int.reduceNeg, Int.reduceToNat, h0, h5', k]
        refine go_callI (together_spec t.ks _ 0 hks (by omega) (.inl rfl) w0 hI (by omega) (by omega) fun st1 σ1 w1 hI1 l1 l2 n1 e1 => ?_)
        simp only [ev0, ev1, ev2, ev3, ev4, ev5, ev6, ev7, ev8, ev9, ev10, ew, Nat.reduceEqDiff, reduceCtorEq, Nat.reduceAdd, Nat.reduceSub, Nat.reduceMul, Nat.reduceLT, Nat.reduceLeDiff, Int.reduceLT, Int.reduceLE, Int.reduceEq, Int.reduceNe, Int.reduceAdd, Int.reduceSub, Int.reduceMul, Int.reduceNeg, Int.reduceToNat, h0, h5', hlm, hm]
        have hI1' := hI1.2
        rw [← hm0] at n1
        refine go_callI (op_post _ m 0 [] w1 hI1 (by omega) (okA_plain (by omega) (by omega) (by simp) hm1 (by simp)) fun st2 σ2 w2 q2 l3 _ => ?_)
        simp only [ev0, ev1, ev2, ev3, ev4, ev5, ev6, ev7, ev8, ev9, ev10, ew, Nat.reduceEqDiff, reduceCtorEq, Nat.reduceAdd, Nat.reduceSub, Nat.reduceMul, Nat.reduceLT, Nat.reduceLeDiff, Int.reduceLT, Int.reduceLE, Int.reduceEq, Int.reduceNe, Int.reduceAdd, Int.reduceSub, Int.reduceMul, Int.reduceNeg, Int.reduceToNat, h0, hw1]
        have hI2 := q2.1.2
        obtain ⟨_, _, _, n2, e2⟩ := id q2
        refine go_callI (push_spec (1 - m) w2 (by omega) (by omega) fun σ3 w3 => ?_)
        simp only [ev0, ev1, ev2, ev3, ev4, ev5, ev6, ev7, ev8, ev9, ev10, ew, Nat.reduceEqDiff, reduceCtorEq, Nat.reduceAdd, Nat.reduceSub, Nat.reduceMul, Nat.reduceLT, Nat.reduceLeDiff, Int.reduceLT, Int.reduceLE, Int.reduceEq, Int.reduceNe, Int.reduceAdd, Int.reduceSub, Int.reduceMul, Int.reduceNeg, Int.reduceToNat, q_end0]
        have q1 : Post st st1 (8 * (T.flats t.ks).length - t.ks.length) m (togE (t.ks.map T.e)) := ⟨hI1, l1, by omega, n1, e1⟩
        exact fin _ _ w3 (((q1.trans q2).push (1 - m) (by omega)).as hI (by omega) (by omega) (by omega))
    by_cases k12 : t.kind = 12
    · obtain ⟨c, hc⟩ := one_kid (ks := t.ks) (by rw [k12] at p3; simpa [childrenB] using p3)
      have hc0 : t.ks[0]? = some c := by rw [hc]; rfl
      have he : t.e = max 1 c.e := by rw [hee, eOf, if_neg (by omega), if_neg (by omega), if_pos k12, hc]; simp only [List.map_cons, List.map_nil, maxi]; have := c.e_nonneg; omega
      have hcl : (T.flats t.ks).length = c.flat.length := by rw [hc]; simp [T.flats]
      obtain ⟨f', hf'⟩ := T.ok_kid hok hc0
      have ht : takesB t.kind (0 : Nat) t.ks.length = false := by rw [k12]; rfl
      rw [ht] at hf'
      have hp : Pat.part false 1 (nodes c.flat).cells 0 = some (nodes c.flat) := rfl
      simp only [ev0, ev1, ev2, ev3, ev4, ev5, ev6, ev7, ev8, ev9, ev10, ew, Nat.reduceEqDiff, reduceCtorEq, Nat.reduceAdd, Nat.reduceSub, Nat.reduceMul, Nat.reduceLT, Nat.reduceLeDiff, Int.reduceLT, Int.reduceLE, Int.reduceEq, Int.reduceNe, Int.reduceAdd, Int.reduceSub, Int.reduceMul, Int.reduceNeg, Int.reduceToNat, h14, k12, h0]
      refine go_callI (op_post 14 0 0 [] w0 hI (by omega) (okA_plain (by omega) (by omega) (by simp) (by omega) (by simp)) fun st1 σ1 w1 q1 l1 _ => ?_)
      simp only [ev0, ev1, ev2, ev3, ev4, ev5, ev6, ev7, ev8, ev9, ev10, ew, Nat.reduceEqDiff, reduceCtorEq, Nat.reduceAdd, Nat.reduceSub, Nat.reduceMul, Nat.reduceLT, Nat.reduceLeDiff, Int.reduceLT, Int.reduceLE, Int.reduceEq, Int.reduceNe, Int.reduceAdd, Int.reduceSub, Int.reduceMul, Int.reduceNeg, Int.reduceToNat, h0]
      refine go_callI (op_post 12 0 0 [] w1 q1.1 (by omega) (okA_plain (by omega) (by omega) (by simp) (by omega) (by simp)) fun st2 σ2 w2 q2 l2 _ => ?_)
      simp only [ev0, ev1, ev2, ev3, ev4, ev5, ev6, ev7, ev8, ev9, ev10, ew, Nat.reduceEqDiff, reduceCtorEq, Nat.reduceAdd, Nat.reduceSub, Nat.reduceMul, Nat.reduceLT, Nat.reduceLeDiff, Int.reduceLT, Int.reduceLE, Int.reduceEq, Int.reduceNe, Int.reduceAdd, Int.reduceSub, Int.reduceMul, Int.reduceNeg, Int.reduceToNat, h0, h5', hc, hp]
      have n1 := q1.2.2.2.1
      have n2 := q2.2.2.2.1
      refine go_callI ((ih c (by rw [hc]; simp)).2 f' _ _ bw st2 _ hf' w2 q2.1 (by omega) (by omega) fun st3 σ3 w3 q3 => ?_)
      have n3 := q3.2.2.2.1
      have l3 := q3.2.2.1
      simp only [ev0, ev1, ev2, ev3, ev4, ev5, ev6, ev7, ev8, ev9, ev10, ew, Nat.reduceEqDiff, reduceCtorEq, Nat.reduceAdd, Nat.reduceSub, Nat.reduceMul, Nat.reduceLT, Nat.reduceLeDiff, Int.reduceLT, Int.reduceLE, Int.reduceEq, Int.reduceNe, Int.reduceAdd, Int.reduceSub, Int.reduceMul, Int.reduceNeg, Int.reduceToNat, h0]
      refine go_callI (op_post 13 0 0 [] w3 q3.1 (by omega) (okA_plain (by omega) (by omega) (by simp) (by omega) (by simp)) fun st4 σ4 w4 q4 l4 _ => ?_)
      simp only [ev0, ev1, ev2, ev3, ev4, ev5, ev6, ev7, ev8, ev9, ev10, ew, Nat.reduceEqDiff, reduceCtorEq, Nat.reduceAdd, Nat.reduceSub, Nat.reduceMul, Nat.reduceLT, Nat.reduceLeDiff, Int.reduceLT, Int.reduceLE, Int.reduceEq, Int.reduceNe, Int.reduceAdd, Int.reduceSub, Int.reduceMul, Int.reduceNeg, Int.reduceToNat, h0]
      have n4 := q4.2.2.2.1
      refine go_callI (push_spec 1 w4 (by omega) (by omega) fun σ5 w5 => ?_)
      simp only [ev0, ev1, ev2, ev3, ev4, ev5, ev6, ev7, ev8, ev9, ev10, ew, Nat.reduceEqDiff, reduceCtorEq, Nat.reduceAdd, Nat.reduceSub, Nat.reduceMul, Nat.reduceLT, Nat.reduceLeDiff, Int.reduceLT, Int.reduceLE, Int.reduceEq, Int.reduceNe, Int.reduceAdd, Int.reduceSub, Int.reduceMul, Int.reduceNeg, Int.reduceToNat, q_end0]
      have hce := c.e_nonneg
      exact fin _ _ w5 (((((q1.trans q2).trans q3).trans q4).push 1 (by omega)).as hI (by omega) (by omega) (by omega))
    · have hr : 5 ≤ t.kind ∧ t.kind ≤ 11 := by omega
      have h1k : (t.ks.length : Int) = 1 := by
        have : t.kind = 5 ∨ t.kind = 6 ∨ t.kind = 7 ∨ t.kind = 8 ∨ t.kind = 9 ∨ t.kind = 10 ∨ t.kind = 11 := by omega
        rcases this with e | e | e | e | e | e | e <;> (rw [e] at p3; simpa [childrenB] using p3)
      obtain ⟨c, hc⟩ := one_kid h1k
      have hcl : (T.flats t.ks).length = c.flat.length := by rw [hc]; simp [T.flats]
      have he : t.e = c.e := by
        rw [hee, eOf, if_neg (by omega), if_neg (by omega), if_neg (by omega), if_neg (by omega), if_neg (by omega), if_neg (by omega), hc]; simp only [List.map_cons, List.map_nil, maxi]; have := c.e_nonneg; omega
      obtain ⟨f', hf'⟩ := hkw k12 c (by rw [hc]; simp)
      have hp : Pat.part false 1 (nodes c.flat).cells 0 = some (nodes c.flat) := rfl
      have hk3 : t.kind ≠ 3 := by omega
      have hk4 : t.kind ≠ 4 := by omega
      simp only [ev0, ev1, ev2, ev3, ev4, ev5, ev6, ev7, ev8, ev9, ev10, ew, Nat.reduceEqDiff, reduceCtorEq, Nat.reduceAdd, Nat.reduceSub, Nat.reduceMul, Nat.reduceLT, Nat.reduceLeDiff, Int.reduceLT, Int.reduceLE, Int.reduceEq, Int.reduceNe, Int.reduceAdd, Int.reduceSub, Int.reduceMul, Int.reduceNeg, Int.reduceToNat, h14, k1, k2, hk3, hk4, k12, h0, h5', hc, hp]
      refine go_callI ((ih c (by rw [hc]; simp)).1 f' _ _ bw st _ hf' w0 hI (by omega) (by omega) fun st1 σ1 w1 q1 => ?_)
      have n1 := q1.2.2.2.1
      have l1 := q1.2.2.1
      have hce := c.e_word hf'
      simp only [ev0, ev1, ev2, ev3, ev4, ev5, ev6, ev7, ev8, ev9, ev10, ew, Nat.reduceEqDiff, reduceCtorEq, Nat.reduceAdd, Nat.reduceSub, Nat.reduceMul, Nat.reduceLT, Nat.reduceLeDiff, Int.reduceLT, Int.reduceLE, Int.reduceEq, Int.reduceNe, Int.reduceAdd, Int.reduceSub, Int.reduceMul, Int.reduceNeg, Int.reduceToNat]
      refine DT124_3_go ?_
      unfold DT124_3
      repeat' first
        | simp only [ev0, ev1, ev2, ev3, ev4, ev5, ev6, ev7, ev8, ev9, ev10, ew, Nat.reduceEqDiff, reduceCtorEq, Nat.reduceAdd, Nat.reduceSub, Nat.reduceMul, Nat.reduceLT, Nat.reduceLeDiff, Int.reduceLT, Int.reduceLE, Int.reduceEq, Int.reduceNe, Int.reduceAdd, Int.reduceSub, Int.reduceMul, Int.reduceNeg, Int.reduceToNat, h0, h4, w1.cell, nd, q_end0, t.head_kind]
        | with_reducible refine And.intro ?_ ?_
        | refine go_callI (ops_spec t.kind hr.1 hr.2 ?_)
        | refine go_callI (op_post t.kind t.head.n 0 [] w1 q1.1 (by omega) (okA_plain (by omega) (by omega) (by simp only [List.mem_cons, List.not_mem_nil, or_false]; omega) ?_ (by simp)) fun st2 σ2 w2 q2 l2 _ => ?_)
      all_goals first
        | exact fieldsB_n p2
        | exact fin _ _ w2 ((q1.trans q2).as hI (by omega) (by omega) (by omega))
  simp only [ev0, ev1, ev2, ev3, ev4, ev5, ev6, ev7, ev8, ev9, ev10, ew, Nat.reduceEqDiff, reduceCtorEq, Nat.reduceAdd, Nat.reduceSub, Nat.reduceMul, Nat.reduceLT, Nat.reduceLeDiff, Int.reduceLT, Int.reduceLE, Int.reduceEq, Int.reduceNe, Int.reduceAdd, Int.reduceSub, Int.reduceMul, Int.reduceNeg, Int.reduceToNat]
  refine DT124_0_go ?_
  unfold DT124_0
  repeat' first
    | simp only [ev0, ev1, ev2, ev3, ev4, ev5, ev6, ev7, ev8, ev9, ev10, ew, Nat.reduceEqDiff, reduceCtorEq, Nat.reduceAdd, Nat.reduceSub, Nat.reduceMul, Nat.reduceLT, Nat.reduceLeDiff, Int.reduceLT, Int.reduceLE, Int.reduceEq, Int.reduceNe, Int.reduceAdd, Int.reduceSub, Int.reduceMul, Int.reduceNeg, Int.reduceToNat, nodes, hx, nd0, nd, upd_same, upd_upd, List.set_cons_zero]
    | with_reducible refine And.intro ?_ ?_
    | refine go_callI (kids_spec t.flat (by omega) ?_)
    | intro b hb
  all_goals
    refine front _ ‹_› _ ?_ ?_ ?_ ?_ <;> simp only [ev0, ev1, ev2, ev3, ev4, ev5, ev6, ev7, ev8, ev9, ev10, ew, Nat.reduceEqDiff, reduceCtorEq, Nat.reduceAdd, Nat.reduceSub, Nat.reduceMul, Nat.reduceLT, Nat.reduceLeDiff, Int.reduceLT, Int.reduceLE, Int.reduceEq, Int.reduceNe, Int.reduceAdd, Int.reduceSub, Int.reduceMul, Int.reduceNeg, Int.reduceToNat]
    rfl
end Go.Proofs.YthmcfphafofheaaDoor
