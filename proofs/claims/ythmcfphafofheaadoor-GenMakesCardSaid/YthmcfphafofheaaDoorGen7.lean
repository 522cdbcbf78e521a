/- Contracts: a command is written; a program is made code. No statement of the seat is proved in this file. -/
import Derived.Test.YthmcfphafofheaaDoorGen6
import Derived.Test.YthmcfphafofheaaDoorCore6
open Go Go.Proofs
namespace Go.Proofs.YthmcfphafofheaaDoor
open Pat
set_option maxRecDepth 10000
set_option maxHeartbeats 1000000
set_option linter.unusedSimpArgs false
set_option linter.unusedVariables false
variable {gs : List Nat} {s : Nat → Addr} {σ : Hp} {K : AV → Hp → Prop}
theorem three_kids {ks : List T} (h : (ks.length : Int) = 3) : ∃ a b c, ks = [a, b, c] := by
  match ks, h with
  | [a, b, c], _ => exact ⟨a, b, c, rfl⟩
  | [], h => simp at h
  | [_], h => simp at h
  | [_, _], h => simp at h
  | _ :: _ :: _ :: _ :: _, h => simp at h; omega
theorem do_ok (t : T) (ih : ∀ u ∈ t.ks, WordOk gs s u ∧ DoOk gs s u) : DoOk gs s t := by
  intro f σ0 σ bw st K hok hw hI hl hn h
  have hflat : t.flat.length = (T.flats t.ks).length + 1 := by rw [t.flat_eq]; rfl
  have hx : t.flat[0]? = some t.head := by rw [t.flat_eq]; rfl
  obtain ⟨p1, p2, p3⟩ := T.ok_parts hok
  have hkind : 20 ≤ t.kind ∧ t.kind ≤ 37 := of_decide_eq_true p1
  have hstr := fieldsB_str p2
  have hnow := hI.2
  have hkl := T.flats_len_le t.ks
  have hth : t.head.kind = t.kind ∧ t.head.n = t.n ∧ t.head.str = t.str := ⟨rfl, rfl, rfl⟩
  refine A48_call rfl ?_
  unfold A48
  have front : ∀ (b : Nat), σ b = none → ∀ sl : Slots, sl 0 = .ptr bw 3 0 0 → sl 4 = .ptr b 5 0 0 → sl 5 = .rd 1 ((kids t.flat).map nodes) → sl 18 = .int .i64 t.kind →
      GoC (env gs s) 150 (bodyQ (env gs s) [] K) C48_0 [] sl (σ.upd b (.row 5 [t.head.av])) := by
    intro b hb sl h0 h4 h5 h18
    have w0 : WS (σ0.upd b (.row 5 [t.head.av])) bw st (σ.upd b (.row 5 [t.head.av])) := hw.fresh hb
    have hb0 := hw.isNone hb
    have fin : ∀ st' σ', WS (σ0.upd b (.row 5 [t.head.av])) bw st' σ' → Post st st' (8 * t.flat.length - 2) 0 t.e → Ret (env gs s) K (.tuple []) σ' := fun st' σ' w' hp => Ret.here (h st' σ' (w'.weak hb0) hp)
    have hee := T.e_eq t
    rw [kids_flat] at h5
    have hlm : (List.map nodes (List.map T.flat t.ks)).length = t.ks.length := by simp
    have hmaxi : t.kind ≠ 21 → t.kind ≠ 30 → t.kind ≠ 37 → t.e = maxi (t.ks.map T.e) := fun h21 h30 h37 => by
      rw [hee, eOf, if_neg (by omega), if_neg (by omega), if_neg (by omega), if_neg h21, if_neg h30, if_neg h37]
    have hcmd : t.kind = 23 ∨ t.kind = 24 ∨ t.kind = 25 ∨ t.kind = 26 ∨ t.kind = 27 ∨ t.kind = 28 → ∀ u ∈ t.ks, DoOk gs s u ∧ ∃ f, T.ok f false u := fun hk u hu => by
      obtain ⟨i, hi⟩ := List.getElem?_of_mem hu
      obtain ⟨f', hf'⟩ := T.ok_kid hok hi
      rw [show takesB t.kind i t.ks.length = false by rcases hk with e | e | e | e | e | e <;> (rw [e]; rfl)] at hf'
      exact ⟨(ih u hu).2, f', hf'⟩
    unfold C48_0
    refine go_block ?_
    by_cases k20 : t.kind = 20
    · have he := hmaxi (by omega) (by omega) (by omega)
      have hks : t.ks = [] := by
        have : (t.ks.length : Int) = 0 := by rw [k20] at p3; simpa [childrenB] using p3
        exact List.eq_nil_of_length_eq_zero (by omega)
      have he0 : t.e = 0 := by rw [he, hks]; rfl
      simp only [ev0, ev1, ev2, ev3, ev4, ev5, ev6, ev7, ev8, ev9, ev10, ew, Nat.reduceEqDiff, reduceCtorEq, Nat.reduceAdd, Nat.reduceSub, Nat.reduceMul, Nat.reduceLT, Nat.reduceLeDiff, Int.reduceLT, Int.reduceLE, Int.reduceEq, Int.reduceNe, Int.reduceAdd, Int.reduceSub, Int.reduceMul, Int.reduceNeg, Int.reduceToNat, h18, k20, h0]
      refine go_callI (op_post 17 0 0 [] w0 hI (by omega) (okA_plain (by omega) (by omega) (by simp) (by omega) (by simp)) fun st1 σ1 w1 q1 _ _ => ?_)
      simp only [ev0, ev1, ev2, ev3, ev4, ev5, ev6, ev7, ev8, ev9, ev10, ew, Nat.reduceEqDiff, reduceCtorEq, Nat.reduceAdd, Nat.reduceSub, Nat.reduceMul, Nat.reduceLT, Nat.reduceLeDiff, Int.reduceLT, Int.reduceLE, Int.reduceEq, Int.reduceNe, Int.reduceAdd, Int.reduceSub, Int.reduceMul, Int.reduceNeg, Int.reduceToNat, q_end0]
      exact fin _ _ w1 (q1.as hI (by omega) (by omega) (by omega))
    by_cases k23 : t.kind = 23
    · have he := hmaxi (by omega) (by omega) (by omega)
      have hkd := hcmd (by omega)
      generalize hKS : List.map nodes (List.map T.flat t.ks) = KS at *
      simp only [ev0, ev1, ev2, ev3, ev4, ev5, ev6, ev7, ev8, ev9, ev10, ew, Nat.reduceEqDiff, reduceCtorEq, Nat.reduceAdd, Nat.reduceSub, Nat.reduceMul, Nat.reduceLT, Nat.reduceLeDiff, Int.reduceLT, Int.reduceLE, Int.reduceEq, Int.reduceNe, Int.reduceAdd, Int.reduceSub, Int.reduceMul, Int.reduceNeg, Int.reduceToNat, h18, k23, h5, hlm]
      refine go_block ?_
      refine go_loop W48_0 [0, 35, 36] [.ptr bw 3 0 0, .rd 1 KS, .int .i64 t.ks.length] [37] (pipeI (σ0.upd b (.row 5 [t.head.av])) bw st t.ks (max st.high (st.now + maxi (t.ks.map T.e)))) A48_0_wr rfl ?_ ?_ ?_
      · simp only [ev0, ev1, ev2, ev3, ev4, ev5, ev6, ev7, ev8, ev9, ev10, ew, Nat.reduceEqDiff, reduceCtorEq, Nat.reduceAdd, Nat.reduceSub, Nat.reduceMul, Nat.reduceLT, Nat.reduceLeDiff, Int.reduceLT, Int.reduceLE, Int.reduceEq, Int.reduceNe, Int.reduceAdd, Int.reduceSub, Int.reduceMul, Int.reduceNeg, Int.reduceToNat, h0]
      · refine ⟨t.ks.length, _, _, Sub.refl _, FzL.refl _ _ _, 0, st, ?_, w0, hI, rfl, by omega, by rw [List.drop_zero]; omega, rfl, ?_⟩
        · simp only [ev0, ev1, ev2, ev3, ev4, ev5, ev6, ev7, ev8, ev9, ev10, ew, Nat.reduceEqDiff, reduceCtorEq, Nat.reduceAdd, Nat.reduceSub, Nat.reduceMul, Nat.reduceLT, Nat.reduceLeDiff, Int.reduceLT, Int.reduceLE, Int.reduceEq, Int.reduceNe, Int.reduceAdd, Int.reduceSub, Int.reduceMul, Int.reduceNeg, Int.reduceToNat]
        · rw [List.drop_zero]
      · rintro n vs σ' - ⟨i, st2, rfl, w2, hI2, hi, b1, b2, b3, b4⟩
        unfold A48_0
        have hI2' := hI2.2
        by_cases hci : (i : Int) < t.ks.length
        · obtain ⟨u, hu⟩ : ∃ u, t.ks[i]? = some u := ⟨t.ks[i]'(by omega), List.getElem?_eq_getElem _⟩
          obtain ⟨d1, d2, d3⟩ := flats_drop hu
          obtain ⟨hud, f', hf'⟩ := hkd u (List.mem_of_getElem? hu)
          have hul := u.flat_len_pos
          have hue := u.e_nonneg
          have hnu : KS[i]? = some (nodes u.flat) := by rw [← hKS, List.getElem?_map, List.getElem?_map, hu]; rfl
          have hw1 : IntKind.i64.wrap ((i : Int) + 1) = (i + 1 : Nat) := i64_id _ (by omega) (by omega)
          rw [d2] at b4
          simp only [maxi] at b4
          have hmn := maxi_nonneg ((t.ks.drop (i + 1)).map T.e)
          simp only [ev0, ev1, ev2, ev3, ev4, ev5, ev6, ev7, ev8, ev9, ev10, ew, Nat.reduceEqDiff, reduceCtorEq, Nat.reduceAdd, Nat.reduceSub, Nat.reduceMul, Nat.reduceLT, Nat.reduceLeDiff, Int.reduceLT, Int.reduceLE, Int.reduceEq, Int.reduceNe, Int.reduceAdd, Int.reduceSub, Int.reduceMul, Int.reduceNeg, Int.reduceToNat, hci]
          refine go_block ?_
          simp only [ev0, ev1, ev2, ev3, ev4, ev5, ev6, ev7, ev8, ev9, ev10, ew, Nat.reduceEqDiff, reduceCtorEq, Nat.reduceAdd, Nat.reduceSub, Nat.reduceMul, Nat.reduceLT, Nat.reduceLeDiff, Int.reduceLT, Int.reduceLE, Int.reduceEq, Int.reduceNe, Int.reduceAdd, Int.reduceSub, Int.reduceMul, Int.reduceNeg, Int.reduceToNat, hnu, npart]
          refine go_callI (hud f' _ _ bw st2 _ hf' w2 hI2 (by omega) (by omega) fun st3 σ3 w3 q3 => ?_)
          have n3 := q3.2.2.2.1
          have l3 := q3.2.2.1
          have l3' := q3.2.1
          have e3 := q3.2.2.2.2
          simp only [ev0, ev1, ev2, ev3, ev4, ev5, ev6, ev7, ev8, ev9, ev10, ew, Nat.reduceEqDiff, reduceCtorEq, Nat.reduceAdd, Nat.reduceSub, Nat.reduceMul, Nat.reduceLT, Nat.reduceLeDiff, Int.reduceLT, Int.reduceLE, Int.reduceEq, Int.reduceNe, Int.reduceAdd, Int.reduceSub, Int.reduceMul, Int.reduceNeg, Int.reduceToNat, hw1]
          refine loop_next (n - 1) (by omega) ⟨i + 1, st3, ?_, w3, q3.1, by omega, by omega, by omega, by omega, by omega⟩
          simp only [ev0, ev1, ev2, ev3, ev4, ev5, ev6, ev7, ev8, ev9, ev10, ew, Nat.reduceEqDiff, reduceCtorEq, Nat.reduceAdd, Nat.reduceSub, Nat.reduceMul, Nat.reduceLT, Nat.reduceLeDiff, Int.reduceLT, Int.reduceLE, Int.reduceEq, Int.reduceNe, Int.reduceAdd, Int.reduceSub, Int.reduceMul, Int.reduceNeg, Int.reduceToNat]
        · have hdn : t.ks.drop i = [] := List.drop_of_length_le (by omega)
          rw [hdn] at b2 b4
          simp only [T.flats, List.length_nil, List.map_nil, maxi] at b2 b4
          simp only [ev0, ev1, ev2, ev3, ev4, ev5, ev6, ev7, ev8, ev9, ev10, ew, Nat.reduceEqDiff, reduceCtorEq, Nat.reduceAdd, Nat.reduceSub, Nat.reduceMul, Nat.reduceLT, Nat.reduceLeDiff, Int.reduceLT, Int.reduceLE, Int.reduceEq, Int.reduceNe, Int.reduceAdd, Int.reduceSub, Int.reduceMul, Int.reduceNeg, Int.reduceToNat, hci, loop_exit, kont_gox, q_end0]
          refine fin _ _ w2 ⟨hI2, by omega, by omega, by omega, ?_⟩
          rw [he]; omega
    by_cases k24 : t.kind = 24
    · obtain ⟨a, b2, c, hc⟩ := three_kids (ks := t.ks) (by rw [k24] at p3; simpa [childrenB] using p3)
      obtain ⟨had, fa, hao⟩ := hcmd (by omega) a (by rw [hc]; simp)
      obtain ⟨hbd, fb, hbo⟩ := hcmd (by omega) b2 (by rw [hc]; simp)
      obtain ⟨hcd, fc, hco⟩ := hcmd (by omega) c (by rw [hc]; simp)
      have hfl : (T.flats t.ks).length = a.flat.length + b2.flat.length + c.flat.length := by rw [hc]; simp [T.flats]; omega
      have e1 := a.e_nonneg
      have e2 := b2.e_nonneg
      have e3 := c.e_nonneg
      have m1 := a.flat_len_pos
      have m2 := b2.flat_len_pos
      have m3 := c.flat_len_pos
      have he : t.e = max a.e (max b2.e c.e) := by rw [hmaxi (by omega) (by omega) (by omega), hc]; simp only [List.map_cons, List.map_nil, maxi]; omega
      rw [hc] at h5
      simp only [ev0, ev1, ev2, ev3, ev4, ev5, ev6, ev7, ev8, ev9, ev10, ew, Nat.reduceEqDiff, reduceCtorEq, Nat.reduceAdd, Nat.reduceSub, Nat.reduceMul, Nat.reduceLT, Nat.reduceLeDiff, Int.reduceLT, Int.reduceLE, Int.reduceEq, Int.reduceNe, Int.reduceAdd, Int.reduceSub, Int.reduceMul, Int.reduceNeg, Int.reduceToNat, h18, k24, h0, h5, npart]
      refine go_callI (had fa _ _ bw st _ hao w0 hI (by omega) (by omega) fun st1 σ1 w1 q1 => ?_)
      have n1 := q1.2.2.2.1
      have l1 := q1.2.2.1
      have l1' := q1.2.1
      simp only [ev0, ev1, ev2, ev3, ev4, ev5, ev6, ev7, ev8, ev9, ev10, ew, Nat.reduceEqDiff, reduceCtorEq, Nat.reduceAdd, Nat.reduceSub, Nat.reduceMul, Nat.reduceLT, Nat.reduceLeDiff, Int.reduceLT, Int.reduceLE, Int.reduceEq, Int.reduceNe, Int.reduceAdd, Int.reduceSub, Int.reduceMul, Int.reduceNeg, Int.reduceToNat, h0]
      refine go_callI (op_post 19 0 0 [] w1 q1.1 (by omega) (okA_zero (by omega) (by omega) (.inl rfl) (by simp)) fun st2 σ2 w2 q2 l2 _ => ?_)
      have n2 := q2.2.2.2.1
      simp only [ev0, ev1, ev2, ev3, ev4, ev5, ev6, ev7, ev8, ev9, ev10, ew, Nat.reduceEqDiff, reduceCtorEq, Nat.reduceAdd, Nat.reduceSub, Nat.reduceMul, Nat.reduceLT, Nat.reduceLeDiff, Int.reduceLT, Int.reduceLE, Int.reduceEq, Int.reduceNe, Int.reduceAdd, Int.reduceSub, Int.reduceMul, Int.reduceNeg, Int.reduceToNat, h0, h5, npart]
      refine go_callI (hbd fb _ _ bw st2 _ hbo w2 q2.1 (by omega) (by omega) fun st3 σ3 w3 q3 => ?_)
      have n3 := q3.2.2.2.1
      have l3 := q3.2.2.1
      have l3' := q3.2.1
      simp only [ev0, ev1, ev2, ev3, ev4, ev5, ev6, ev7, ev8, ev9, ev10, ew, Nat.reduceEqDiff, reduceCtorEq, Nat.reduceAdd, Nat.reduceSub, Nat.reduceMul, Nat.reduceLT, Nat.reduceLeDiff, Int.reduceLT, Int.reduceLE, Int.reduceEq, Int.reduceNe, Int.reduceAdd, Int.reduceSub, Int.reduceMul, Int.reduceNeg, Int.reduceToNat, h0]
      refine go_callI (op_post 18 0 0 [] w3 q3.1 (by omega) (okA_zero (by omega) (by omega) (.inl rfl) (by simp)) fun st4 σ4 w4 q4 l4 _ => ?_)
      have n4 := q4.2.2.2.1
      obtain ⟨bb, x, hv, hbb, hx, st5, w5, q5, l5⟩ := patchA w4 q4.1 (i := st1.l.length) (by omega) st4.l.length (Nat.le_refl _)
      have hlt : (st1.l.length : Int) < st4.l.length := by omega
      have hx' : (List.map Ins.av st4.l)[st1.l.length]? = some x.av := by simp [hx]
      have n5 := q5.2.2.2.1
      have q15 : Post st st5 (8 * a.flat.length + 8 * b2.flat.length - 2) 0 (max a.e b2.e) := ((((q1.op q2 e1).trans q3).op q4 (by omega)).op q5 (by omega)).as hI (by omega) (by omega) (by omega)
      simp only [ev0, ev1, ev2, ev3, ev4, ev5, ev6, ev7, ev8, ev9, ev10, ew, Nat.reduceEqDiff, reduceCtorEq, Nat.reduceAdd, Nat.reduceSub, Nat.reduceMul, Nat.reduceLT, Nat.reduceLeDiff, Int.reduceLT, Int.reduceLE, Int.reduceEq, Int.reduceNe, Int.reduceAdd, Int.reduceSub, Int.reduceMul, Int.reduceNeg, Int.reduceToNat]
      refine DT48_17_go ?_
      unfold DT48_17
      repeat' first
        | simp only [ev0, ev1, ev2, ev3, ev4, ev5, ev6, ev7, ev8, ev9, ev10, ew, Nat.reduceEqDiff, reduceCtorEq, Nat.reduceAdd, Nat.reduceSub, Nat.reduceMul, Nat.reduceLT, Nat.reduceLeDiff, Int.reduceLT, Int.reduceLE, Int.reduceEq, Int.reduceNe, Int.reduceAdd, Int.reduceSub, Int.reduceMul, Int.reduceNeg, Int.reduceToNat, h0, hv, hbb, hx', wrow, part_f, avc, isplice, hlt]
        | with_reducible refine And.intro ?_ ?_
        | refine go_callI (here_spec w4 ?_)
      all_goals first
        | (intro y hy; rw [List.mem_singleton.1 hy]; rfl)
        | skip
      all_goals
        simp only [ev0, ev1, ev2, ev3, ev4, ev5, ev6, ev7, ev8, ev9, ev10, ew, Nat.reduceEqDiff, reduceCtorEq, Nat.reduceAdd, Nat.reduceSub, Nat.reduceMul, Nat.reduceLT, Nat.reduceLeDiff, Int.reduceLT, Int.reduceLE, Int.reduceEq, Int.reduceNe, Int.reduceAdd, Int.reduceSub, Int.reduceMul, Int.reduceNeg, Int.reduceToNat, h5, npart]
        refine go_callI (hcd fc _ _ bw st5 _ hco w5 q5.1 (by omega) (by omega) fun st6 σ6 w6 q6 => ?_)
        have l6 := q6.2.2.1
        have l6' := q6.2.1
        obtain ⟨bb2, x2, hv2, hbb2, hx2, st7, w7, q7, l7⟩ := patchA w6 q6.1 (i := st3.l.length) (by omega) st6.l.length (Nat.le_refl _)
        have hlt2 : (st3.l.length : Int) < st6.l.length := by omega
        have hx2' : (List.map Ins.av st6.l)[st3.l.length]? = some x2.av := by simp [hx2]
        have q := (q15.trans q6).op q7 (by omega)
        simp only [ev0, ev1, ev2, ev3, ev4, ev5, ev6, ev7, ev8, ev9, ev10, ew, Nat.reduceEqDiff, reduceCtorEq, Nat.reduceAdd, Nat.reduceSub, Nat.reduceMul, Nat.reduceLT, Nat.reduceLeDiff, Int.reduceLT, Int.reduceLE, Int.reduceEq, Int.reduceNe, Int.reduceAdd, Int.reduceSub, Int.reduceMul, Int.reduceNeg, Int.reduceToNat]
        refine DT48_19_go ?_
        unfold DT48_19
        repeat' first
          | simp only [ev0, ev1, ev2, ev3, ev4, ev5, ev6, ev7, ev8, ev9, ev10, ew, Nat.reduceEqDiff, reduceCtorEq, Nat.reduceAdd, Nat.reduceSub, Nat.reduceMul, Nat.reduceLT, Nat.reduceLeDiff, Int.reduceLT, Int.reduceLE, Int.reduceEq, Int.reduceNe, Int.reduceAdd, Int.reduceSub, Int.reduceMul, Int.reduceNeg, Int.reduceToNat, h0, hv2, hbb2, hx2', wrow, part_f, avc, isplice, hlt2, q_end0]
          | with_reducible refine And.intro ?_ ?_
          | refine go_callI (here_spec w6 ?_)
        all_goals first
          | (intro y hy; rw [List.mem_singleton.1 hy]; rfl)
          | exact fin _ _ w7 (q.as hI (by omega) (by omega) (by omega))
    by_cases k2526 : t.kind = 25 ∨ t.kind = 26
    · obtain ⟨a, c, hc⟩ := two_kids (ks := t.ks) (by rcases k2526 with e | e <;> (rw [e] at p3; simpa [childrenB] using p3))
      obtain ⟨had, fa, hao⟩ := hcmd (by omega) a (by rw [hc]; simp)
      obtain ⟨hcd, fc, hco⟩ := hcmd (by omega) c (by rw [hc]; simp)
      have hfl : (T.flats t.ks).length = a.flat.length + c.flat.length := by rw [hc]; simp [T.flats]
      have e1 := a.e_nonneg
      have e3 := c.e_nonneg
      have m1 := a.flat_len_pos
      have m3 := c.flat_len_pos
      have he : t.e = max a.e c.e := by rw [hmaxi (by omega) (by omega) (by omega), hc]; simp only [List.map_cons, List.map_nil, maxi]; omega
      rw [hc] at h5
      rcases k2526 with k | k
      all_goals
        simp only [ev0, ev1, ev2, ev3, ev4, ev5, ev6, ev7, ev8, ev9, ev10, ew, Nat.reduceEqDiff, reduceCtorEq, Nat.reduceAdd, Nat.reduceSub, Nat.reduceMul, Nat.reduceLT, Nat.reduceLeDiff, Int.reduceLT, Int.reduceLE, Int.reduceEq, Int.reduceNe, Int.reduceAdd, Int.reduceSub, Int.reduceMul, Int.reduceNeg, Int.reduceToNat, h18, k, h0, h5, npart]
        refine go_callI (had fa _ _ bw st _ hao w0 hI (by omega) (by omega) fun st1 σ1 w1 q1 => ?_)
        have n1 := q1.2.2.2.1
        have l1 := q1.2.2.1
        have l1' := q1.2.1
        simp only [ev0, ev1, ev2, ev3, ev4, ev5, ev6, ev7, ev8, ev9, ev10, ew, Nat.reduceEqDiff, reduceCtorEq, Nat.reduceAdd, Nat.reduceSub, Nat.reduceMul, Nat.reduceLT, Nat.reduceLeDiff, Int.reduceLT, Int.reduceLE, Int.reduceEq, Int.reduceNe, Int.reduceAdd, Int.reduceSub, Int.reduceMul, Int.reduceNeg, Int.reduceToNat, h0, h4, w1.cell, nd, hth, k]
        refine go_callI (op_post _ 0 0 [] w1 q1.1 (by omega) (okA_zero (by omega) (by omega) (.inl rfl) (by simp)) fun st2 σ2 w2 q2 l2 _ => ?_)
        have n2 := q2.2.2.2.1
        simp only [ev0, ev1, ev2, ev3, ev4, ev5, ev6, ev7, ev8, ev9, ev10, ew, Nat.reduceEqDiff, reduceCtorEq, Nat.reduceAdd, Nat.reduceSub, Nat.reduceMul, Nat.reduceLT, Nat.reduceLeDiff, Int.reduceLT, Int.reduceLE, Int.reduceEq, Int.reduceNe, Int.reduceAdd, Int.reduceSub, Int.reduceMul, Int.reduceNeg, Int.reduceToNat, h0, h5, npart]
        refine go_callI (hcd fc _ _ bw st2 _ hco w2 q2.1 (by omega) (by omega) fun st3 σ3 w3 q3 => ?_)
        have n3 := q3.2.2.2.1
        have l3 := q3.2.2.1
        have l3' := q3.2.1
        obtain ⟨bb, x, hv, hbb, hx, st5, w5, q5, l5⟩ := patchA w3 q3.1 (i := st1.l.length) (by omega) st3.l.length (Nat.le_refl _)
        have hlt : (st1.l.length : Int) < st3.l.length := by omega
        have hx' : (List.map Ins.av st3.l)[st1.l.length]? = some x.av := by simp [hx]
        have q := ((q1.op q2 e1).trans q3).op q5 (by omega)
        simp only [ev0, ev1, ev2, ev3, ev4, ev5, ev6, ev7, ev8, ev9, ev10, ew, Nat.reduceEqDiff, reduceCtorEq, Nat.reduceAdd, Nat.reduceSub, Nat.reduceMul, Nat.reduceLT, Nat.reduceLeDiff, Int.reduceLT, Int.reduceLE, Int.reduceEq, Int.reduceNe, Int.reduceAdd, Int.reduceSub, Int.reduceMul, Int.reduceNeg, Int.reduceToNat]
        refine DT48_28_go ?_
        unfold DT48_28
        repeat' first
          | simp only [ev0, ev1, ev2, ev3, ev4, ev5, ev6, ev7, ev8, ev9, ev10, ew, Nat.reduceEqDiff, reduceCtorEq, Nat.reduceAdd, Nat.reduceSub, Nat.reduceMul, Nat.reduceLT, Nat.reduceLeDiff, Int.reduceLT, Int.reduceLE, Int.reduceEq, Int.reduceNe, Int.reduceAdd, Int.reduceSub, Int.reduceMul, Int.reduceNeg, Int.reduceToNat, h0, hv, hbb, hx', wrow, part_f, avc, isplice, hlt, q_end0]
          | with_reducible refine And.intro ?_ ?_
          | refine go_callI (here_spec w3 ?_)
        all_goals first
          | (intro y hy; rw [List.mem_singleton.1 hy]; rfl)
          | exact fin _ _ w5 (q.as hI (by omega) (by omega) (by omega))
    by_cases k27 : t.kind = 27
    · obtain ⟨a, hc⟩ := one_kid (ks := t.ks) (by rw [k27] at p3; simpa [childrenB] using p3)
      obtain ⟨had, fa, hao⟩ := hcmd (by omega) a (by rw [hc]; simp)
      have hfl : (T.flats t.ks).length = a.flat.length := by rw [hc]; simp [T.flats]
      have e1 := a.e_nonneg
      have m1 := a.flat_len_pos
      have he : t.e = a.e := by rw [hmaxi (by omega) (by omega) (by omega), hc]; simp only [List.map_cons, List.map_nil, maxi]; omega
      rw [hc] at h5
      simp only [ev0, ev1, ev2, ev3, ev4, ev5, ev6, ev7, ev8, ev9, ev10, ew, Nat.reduceEqDiff, reduceCtorEq, Nat.reduceAdd, Nat.reduceSub, Nat.reduceMul, Nat.reduceLT, Nat.reduceLeDiff, Int.reduceLT, Int.reduceLE, Int.reduceEq, Int.reduceNe, Int.reduceAdd, Int.reduceSub, Int.reduceMul, Int.reduceNeg, Int.reduceToNat, h18, k27, h0, h5, npart]
      refine go_callI (had fa _ _ bw st _ hao w0 hI (by omega) (by omega) fun st1 σ1 w1 q1 => ?_)
      have n1 := q1.2.2.2.1
      have l1 := q1.2.2.1
      simp only [ev0, ev1, ev2, ev3, ev4, ev5, ev6, ev7, ev8, ev9, ev10, ew, Nat.reduceEqDiff, reduceCtorEq, Nat.reduceAdd, Nat.reduceSub, Nat.reduceMul, Nat.reduceLT, Nat.reduceLeDiff, Int.reduceLT, Int.reduceLE, Int.reduceEq, Int.reduceNe, Int.reduceAdd, Int.reduceSub, Int.reduceMul, Int.reduceNeg, Int.reduceToNat, h0]
      refine go_callI (op_post 36 0 0 [] w1 q1.1 (by omega) (okA_plain (by omega) (by omega) (by simp) (by omega) (by simp)) fun st2 σ2 w2 q2 l2 _ => ?_)
      simp only [ev0, ev1, ev2, ev3, ev4, ev5, ev6, ev7, ev8, ev9, ev10, ew, Nat.reduceEqDiff, reduceCtorEq, Nat.reduceAdd, Nat.reduceSub, Nat.reduceMul, Nat.reduceLT, Nat.reduceLeDiff, Int.reduceLT, Int.reduceLE, Int.reduceEq, Int.reduceNe, Int.reduceAdd, Int.reduceSub, Int.reduceMul, Int.reduceNeg, Int.reduceToNat, q_end0]
      exact fin _ _ w2 ((q1.op q2 e1).as hI (by omega) (by omega) (by omega))
    by_cases k28 : t.kind = 28
    · obtain ⟨a, c, hc⟩ := two_kids (ks := t.ks) (by rw [k28] at p3; simpa [childrenB] using p3)
      obtain ⟨had, fa, hao⟩ := hcmd (by omega) a (by rw [hc]; simp)
      obtain ⟨hcd, fc, hco⟩ := hcmd (by omega) c (by rw [hc]; simp)
      have hfl : (T.flats t.ks).length = a.flat.length + c.flat.length := by rw [hc]; simp [T.flats]
      have e1 := a.e_nonneg
      have e3 := c.e_nonneg
      have he : t.e = max a.e c.e := by rw [hmaxi (by omega) (by omega) (by omega), hc]; simp only [List.map_cons, List.map_nil, maxi]; omega
      rw [hc] at h5
      simp only [ev0, ev1, ev2, ev3, ev4, ev5, ev6, ev7, ev8, ev9, ev10, ew, Nat.reduceEqDiff, reduceCtorEq, Nat.reduceAdd, Nat.reduceSub, Nat.reduceMul, Nat.reduceLT, Nat.reduceLeDiff, Int.reduceLT, Int.reduceLE, Int.reduceEq, Int.reduceNe, Int.reduceAdd, Int.reduceSub, Int.reduceMul, Int.reduceNeg, Int.reduceToNat, h18, k28, h0, h5]
      refine go_callI (while_spec a c fa fc hao hco had hcd w0 hI (by omega) (by omega) fun st1 σ1 w1 q1 => ?_)
      simp only [ev0, ev1, ev2, ev3, ev4, ev5, ev6, ev7, ev8, ev9, ev10, ew, Nat.reduceEqDiff, reduceCtorEq, Nat.reduceAdd, Nat.reduceSub, Nat.reduceMul, Nat.reduceLT, Nat.reduceLeDiff, Int.reduceLT, Int.reduceLE, Int.reduceEq, Int.reduceNe, Int.reduceAdd, Int.reduceSub, Int.reduceMul, Int.reduceNeg, Int.reduceToNat, q_end0]
      exact fin _ _ w1 (q1.as hI (by omega) (by omega) (by omega))
    by_cases k29 : t.kind = 29
    · obtain ⟨a, c, hc⟩ := two_kids (ks := t.ks) (by rw [k29] at p3; simpa [childrenB] using p3)
      obtain ⟨fa, hao⟩ := T.ok_kid hok (i := 0) (u := a) (by rw [hc]; rfl)
      obtain ⟨fc, hco⟩ := T.ok_kid hok (i := 1) (u := c) (by rw [hc]; rfl)
      rw [show takesB t.kind (0 : Nat) t.ks.length = true by rw [k29]; rfl] at hao
      rw [show takesB t.kind (1 : Nat) t.ks.length = false by rw [k29]; rfl] at hco
      have hfl : (T.flats t.ks).length = a.flat.length + c.flat.length := by rw [hc]; simp [T.flats]
      have e1 := a.e_nonneg
      have e3 := c.e_nonneg
      have he : t.e = max a.e c.e := by rw [hmaxi (by omega) (by omega) (by omega), hc]; simp only [List.map_cons, List.map_nil, maxi]; omega
      rw [hc] at h5
      simp only [ev0, ev1, ev2, ev3, ev4, ev5, ev6, ev7, ev8, ev9, ev10, ew, Nat.reduceEqDiff, reduceCtorEq, Nat.reduceAdd, Nat.reduceSub, Nat.reduceMul, Nat.reduceLT, Nat.reduceLeDiff, Int.reduceLT, Int.reduceLE, Int.reduceEq, Int.reduceNe, Int.reduceAdd, Int.reduceSub, Int.reduceMul, Int.reduceNeg, Int.reduceToNat, h18, k29, h0, h4, h5, w0.cell, nd, hth]
      refine go_callI (each_spec a c fa fc hao hco (ih a (by rw [hc]; simp)).1 (ih c (by rw [hc]; simp)).2 t.str hstr w0 hI (by omega) (by omega) fun st1 σ1 w1 q1 => ?_)
      simp only [ev0, ev1, ev2, ev3, ev4, ev5, ev6, ev7, ev8, ev9, ev10, ew, Nat.reduceEqDiff, reduceCtorEq, Nat.reduceAdd, Nat.reduceSub, Nat.reduceMul, Nat.reduceLT, Nat.reduceLeDiff, Int.reduceLT, Int.reduceLE, Int.reduceEq, Int.reduceNe, Int.reduceAdd, Int.reduceSub, Int.reduceMul, Int.reduceNeg, Int.reduceToNat, q_end0]
      exact fin _ _ w1 (q1.as hI (by omega) (by omega) (by omega))
    · have h25 : t.kind ≠ 25 := by omega
      have h26 : t.kind ≠ 26 := by omega
      have hte := t.e_nonneg
      generalize hKS : List.map nodes (List.map T.flat t.ks) = KS at *
      simp only [ev0, ev1, ev2, ev3, ev4, ev5, ev6, ev7, ev8, ev9, ev10, ew, Nat.reduceEqDiff, reduceCtorEq, Nat.reduceAdd, Nat.reduceSub, Nat.reduceMul, Nat.reduceLT, Nat.reduceLeDiff, Int.reduceLT, Int.reduceLE, Int.reduceEq, Int.reduceNe, Int.reduceAdd, Int.reduceSub, Int.reduceMul, Int.reduceNeg, Int.reduceToNat, h18, k20, k23, k24, h25, h26, k27, k28, k29, h0]
      refine go_callI (op_post 14 0 0 [] w0 hI (by omega) (okA_plain (by omega) (by omega) (by simp) (by omega) (by simp)) fun st1 σ1 w1 q1 l1 _ => ?_)
      have n1 := q1.2.2.2.1
      simp only [ev0, ev1, ev2, ev3, ev4, ev5, ev6, ev7, ev8, ev9, ev10, ew, Nat.reduceEqDiff, reduceCtorEq, Nat.reduceAdd, Nat.reduceSub, Nat.reduceMul, Nat.reduceLT, Nat.reduceLeDiff, Int.reduceLT, Int.reduceLE, Int.reduceEq, Int.reduceNe, Int.reduceAdd, Int.reduceSub, Int.reduceMul, Int.reduceNeg, Int.reduceToNat, h0, h4, h5, w1.cell, nd0]
      refine go_callI ?_
      rw [← hKS]
      refine ticked_spec t ih hok (by simp only [List.mem_cons, List.not_mem_nil, or_false]; omega) w1 q1.1 (by omega) (by omega) fun st2 σ2 w2 q2 => ?_
      simp only [ev0, ev1, ev2, ev3, ev4, ev5, ev6, ev7, ev8, ev9, ev10, ew, Nat.reduceEqDiff, reduceCtorEq, Nat.reduceAdd, Nat.reduceSub, Nat.reduceMul, Nat.reduceLT, Nat.reduceLeDiff, Int.reduceLT, Int.reduceLE, Int.reduceEq, Int.reduceNe, Int.reduceAdd, Int.reduceSub, Int.reduceMul, Int.reduceNeg, Int.reduceToNat, q_end0]
      exact fin _ _ w2 ((q1.trans q2).as hI (by omega) (by omega) (by omega))
  simp only [ev0, ev1, ev2, ev3, ev4, ev5, ev6, ev7, ev8, ev9, ev10, ew, Nat.reduceEqDiff, reduceCtorEq, Nat.reduceAdd, Nat.reduceSub, Nat.reduceMul, Nat.reduceLT, Nat.reduceLeDiff, Int.reduceLT, Int.reduceLE, Int.reduceEq, Int.reduceNe, Int.reduceAdd, Int.reduceSub, Int.reduceMul, Int.reduceNeg, Int.reduceToNat]
  refine DT48_0_go ?_
  unfold DT48_0
  repeat' first
    | simp only [ev0, ev1, ev2, ev3, ev4, ev5, ev6, ev7, ev8, ev9, ev10, ew, Nat.reduceEqDiff, reduceCtorEq, Nat.reduceAdd, Nat.reduceSub, Nat.reduceMul, Nat.reduceLT, Nat.reduceLeDiff, Int.reduceLT, Int.reduceLE, Int.reduceEq, Int.reduceNe, Int.reduceAdd, Int.reduceSub, Int.reduceMul, Int.reduceNeg, Int.reduceToNat, nodes, hx, nd0, nd, upd_same, upd_upd, List.set_cons_zero]
    | with_reducible refine And.intro ?_ ?_
    | refine go_callI (kids_spec t.flat (by omega) ?_)
    | intro b hb
  all_goals
    refine front _ ‹_› _ ?_ ?_ ?_ ?_ <;> simp only [ev0, ev1, ev2, ev3, ev4, ev5, ev6, ev7, ev8, ev9, ev10, ew, Nat.reduceEqDiff, reduceCtorEq, Nat.reduceAdd, Nat.reduceSub, Nat.reduceMul, Nat.reduceLT, Nat.reduceLeDiff, Int.reduceLT, Int.reduceLE, Int.reduceEq, Int.reduceNe, Int.reduceAdd, Int.reduceSub, Int.reduceMul, Int.reduceNeg, Int.reduceToNat]
    rfl
theorem gen_ok (t : T) : WordOk gs s t ∧ DoOk gs s t := T.ind (P := fun t => WordOk gs s t ∧ DoOk gs s t) (fun kind n str ks ih => ⟨word_ok _ ih, do_ok _ ih⟩) t
end Go.Proofs.YthmcfphafofheaaDoor
