/- Contracts: loops, and what stands around a command, are written. No statement of the seat is proved in this file. -/
import Derived.Test.YthmcfphafofheaaDoorGen3
open Go Go.Proofs
namespace Go.Proofs.YthmcfphafofheaaDoor
open Pat
set_option maxRecDepth 10000
set_option maxHeartbeats 1000000
set_option linter.unusedSimpArgs false
set_option linter.unusedVariables false
variable {gs : List Nat} {s : Nat → Addr} {σ : Hp} {K : AV → Hp → Prop}
theorem isplice : (∀ (x : Ins) (v : Int), x.av.splice 1 [.int .i64 v] = Ins.av { x with a := v }) ∧ (∀ (x : Ins) (v : Int), x.av.splice 2 [.int .i64 v] = Ins.av { x with b := v }) ∧ (∀ x : Ins, x.av.cells.length = 4) := ⟨fun _ _ => rfl, fun _ _ => rfl, fun _ => rfl⟩
theorem map_at {l : List Ins} {i : Nat} (hi : i < l.length) : ∃ x, l[i]? = some x ∧ (l.map Ins.av)[i]? = some x.av := ⟨l[i], List.getElem?_eq_getElem hi, by simp [hi]⟩
theorem WS.own {σ0 : Hp} {bw : Nat} {st : St} (hw : WS σ0 bw st σ) (hi : 0 < st.l.length) : ∃ b, b ≠ bw ∧ σ0 b = none ∧ σ bw = some (wrow (.own b 4 0 st.l.length) st.now st.high) ∧ σ b = some (.row 4 (st.l.map Ins.av)) := by
  rcases hw.2.2 with ⟨h1, _⟩ | h
  · rw [h1] at hi; cases hi
  · exact h
theorem Post.refl {st : St} (hI : Inv st) : Post st st 0 0 0 := ⟨hI, Nat.le_refl _, Nat.le_refl _, by omega, by have := hI.2.2; omega⟩
theorem set_post {st : St} {i : Nat} {x : Ins} (hI : Inv st) (hx : okA st.l.length x) : Post st { st with l := st.l.set i x } 0 0 0 :=
  ⟨hI.set hx, by simp, by simp, by simp, by have := hI.2.2; show st.high = max st.high (st.now + 0); omega⟩
/-- The place of an instruction is laid. -/
theorem patchA {σ0 : Hp} {bw : Nat} {st : St} (hw : WS σ0 bw st σ) (hI : Inv st) {i : Nat} (hi : i < st.l.length) (v : Nat) (hv : v ≤ st.l.length) : ∃ b x, σ bw = some (wrow (.own b 4 0 st.l.length) st.now st.high) ∧ σ b = some (.row 4 (st.l.map Ins.av)) ∧ st.l[i]? = some x ∧
    ∃ st', WS σ0 bw st' (σ.upd b (.row 4 ((st.l.map Ins.av).set i (Ins.av { x with a := v })))) ∧ Post st st' 0 0 0 ∧ st'.l.length = st.l.length := by
  obtain ⟨b, b1, b2, b3, b4⟩ := hw.own (by omega)
  obtain ⟨x, x1, x2⟩ := map_at hi
  have hx := hI.1 x (List.mem_of_getElem? x1)
  exact ⟨b, x, b3, b4, x1, _, WS.set (x := { x with a := v }) hw.1 hw.2.1 b1 b2 b3, set_post hI (hx.setA (by omega) (by omega)), by simp⟩
theorem patchB {σ0 : Hp} {bw : Nat} {st : St} (hw : WS σ0 bw st σ) (hI : Inv st) {i : Nat} (hi : i < st.l.length) (v : Nat) (hv : v ≤ st.l.length) : ∃ b x, σ bw = some (wrow (.own b 4 0 st.l.length) st.now st.high) ∧ σ b = some (.row 4 (st.l.map Ins.av)) ∧ st.l[i]? = some x ∧
    ∃ st', WS σ0 bw st' (σ.upd b (.row 4 ((st.l.map Ins.av).set i (Ins.av { x with b := v })))) ∧ Post st st' 0 0 0 ∧ st'.l.length = st.l.length := by
  obtain ⟨b, b1, b2, b3, b4⟩ := hw.own (by omega)
  obtain ⟨x, x1, x2⟩ := map_at hi
  have hx := hI.1 x (List.mem_of_getElem? x1)
  exact ⟨b, x, b3, b4, x1, _, WS.set (x := { x with b := v }) hw.1 hw.2.1 b1 b2 b3, set_post hI (hx.setB (by omega) (by omega)), by simp⟩
theorem npart (l : List Node) : Pat.part false 1 (nodes l).cells 0 = some (nodes l) := rfl
theorem around_spec {σ0 : Hp} {bw : Nat} {st : St} (a c : T) (fa fc : Nat) (hao : T.ok fa true a) (hco : T.ok fc false c) (ha : WordOk gs s a) (hc : DoOk gs s c) (iN out arg : Int) (str : List UInt8) (hin : iN = 30 ∧ out = 31 ∨ iN = 32 ∧ out = 33 ∨ iN = 34 ∧ out = 35) (harg : 0 ≤ arg) (hstr : str.length ≤ 2000)
    (hw : WS σ0 bw st σ) (hI : Inv st) (hl : st.l.length + 8 * (a.flat.length + c.flat.length) ≤ 99993) (hn : st.now + a.flat.length + c.flat.length ≤ 99999)
    (h : ∀ st' σ', WS σ0 bw st' σ' → Post st st' (8 * (a.flat.length + c.flat.length) - 2) 0 (max a.e c.e) → K (.tuple []) σ') :
    ACalls (env gs s) 128 [.ptr bw 3 0 0, .rd 1 ([a.flat, c.flat].map nodes), .int .i64 iN, .int .i64 out, .int .i64 arg, .str str] σ K := by
  have hal := a.flat_len_pos
  have hcl := c.flat_len_pos
  have hae := a.e_word hao
  have hce := c.e_nonneg
  have hnow := hI.2
  refine A128_call rfl ?_
  unfold A128
  simp only [ev0, ev1, ev2, ev3, ev4, ev5, ev6, ev7, ev8, ev9, ev10, ew, Nat.reduceEqDiff, reduceCtorEq, Nat.reduceAdd, Nat.reduceSub, Nat.reduceMul, Nat.reduceLT, Nat.reduceLeDiff, Int.reduceLT, Int.reduceLE, Int.reduceEq, Int.reduceNe, Int.reduceAdd, Int.reduceSub, Int.reduceMul, Int.reduceNeg, Int.reduceToNat, npart]
  refine go_callI (ha fa _ _ bw st _ hao hw hI (by omega) (by omega) fun st1 σ1 w1 q1 => ?_)
  have n1 := q1.2.2.2.1
  have l1 := q1.2.2.1
  simp only [ev0, ev1, ev2, ev3, ev4, ev5, ev6, ev7, ev8, ev9, ev10, ew, Nat.reduceEqDiff, reduceCtorEq, Nat.reduceAdd, Nat.reduceSub, Nat.reduceMul, Nat.reduceLT, Nat.reduceLeDiff, Int.reduceLT, Int.reduceLE, Int.reduceEq, Int.reduceNe, Int.reduceAdd, Int.reduceSub, Int.reduceMul, Int.reduceNeg, Int.reduceToNat]
  refine go_callI (op_post iN arg 0 str w1 q1.1 (by omega) ?_ fun st2 σ2 w2 q2 l2 _ => ?_)
  · refine ⟨⟨by dsimp only; omega, by dsimp only; omega⟩, fun hx => ?_, fun hx => ⟨by dsimp only; omega, by dsimp only; omega⟩, fun _ => harg, hstr⟩
    exfalso; simp only [List.mem_cons, List.not_mem_nil, or_false] at hx; omega
  have n2 := q2.2.2.2.1
  simp only [ev0, ev1, ev2, ev3, ev4, ev5, ev6, ev7, ev8, ev9, ev10, ew, Nat.reduceEqDiff, reduceCtorEq, Nat.reduceAdd, Nat.reduceSub, Nat.reduceMul, Nat.reduceLT, Nat.reduceLeDiff, Int.reduceLT, Int.reduceLE, Int.reduceEq, Int.reduceNe, Int.reduceAdd, Int.reduceSub, Int.reduceMul, Int.reduceNeg, Int.reduceToNat]
  refine go_callI (push_spec (-1) w2 (by omega) (by omega) fun σ3 w3 => ?_)
  have q3 := (q1.trans q2).push (-1) (by omega)
  simp only [ev0, ev1, ev2, ev3, ev4, ev5, ev6, ev7, ev8, ev9, ev10, ew, Nat.reduceEqDiff, reduceCtorEq, Nat.reduceAdd, Nat.reduceSub, Nat.reduceMul, Nat.reduceLT, Nat.reduceLeDiff, Int.reduceLT, Int.reduceLE, Int.reduceEq, Int.reduceNe, Int.reduceAdd, Int.reduceSub, Int.reduceMul, Int.reduceNeg, Int.reduceToNat, npart]
  refine go_callI (hc fc _ _ bw _ _ hco w3 q3.1 (by dsimp only; omega) (by dsimp only; omega) fun st4 σ4 w4 q4 => ?_)
  have l4 := q4.2.2.1
  have l4' := q4.2.1
  dsimp only at l4 l4'
  simp only [ev0, ev1, ev2, ev3, ev4, ev5, ev6, ev7, ev8, ev9, ev10, ew, Nat.reduceEqDiff, reduceCtorEq, Nat.reduceAdd, Nat.reduceSub, Nat.reduceMul, Nat.reduceLT, Nat.reduceLeDiff, Int.reduceLT, Int.reduceLE, Int.reduceEq, Int.reduceNe, Int.reduceAdd, Int.reduceSub, Int.reduceMul, Int.reduceNeg, Int.reduceToNat]
  refine go_callI (op_post out 0 0 [] w4 q4.1 (by omega) (okA_zero (by omega) (by omega) (.inl rfl) (by simp)) fun st5 σ5 w5 q5 l5 _ => ?_)
  have q := (q3.trans q4).trans q5
  by_cases h30 : iN = 30
  · have hlt : (st1.l.length : Int) < st5.l.length := by omega
    obtain ⟨b, x, hv, hb, hx, st6, w6, q6, l6⟩ := patchB w5 q5.1 (i := st1.l.length) (by omega) st5.l.length (Nat.le_refl _)
    simp only [ev0, ev1, ev2, ev3, ev4, ev5, ev6, ev7, ev8, ev9, ev10, ew, Nat.reduceEqDiff, reduceCtorEq, Nat.reduceAdd, Nat.reduceSub, Nat.reduceMul, Nat.reduceLT, Nat.reduceLeDiff, Int.reduceLT, Int.reduceLE, Int.reduceEq, Int.reduceNe, Int.reduceAdd, Int.reduceSub, Int.reduceMul, Int.reduceNeg, Int.reduceToNat, h30]
    refine DT128_6_go ?_
    unfold DT128_6
    repeat' first
      | simp only [ev0, ev1, ev2, ev3, ev4, ev5, ev6, ev7, ev8, ev9, ev10, ew, Nat.reduceEqDiff, reduceCtorEq, Nat.reduceAdd, Nat.reduceSub, Nat.reduceMul, Nat.reduceLT, Nat.reduceLeDiff, Int.reduceLT, Int.reduceLE, Int.reduceEq, Int.reduceNe, Int.reduceAdd, Int.reduceSub, Int.reduceMul, Int.reduceNeg, Int.reduceToNat, hv, hb, hx, wrow, part_f, avc, isplice, hlt, q_end0]
      | with_reducible refine And.intro ?_ ?_
      | refine go_callI (here_spec w5 ?_)
    all_goals first
      | (intro y hy; rw [List.mem_singleton.1 hy]; rfl)
      | exact Ret.here (h _ _ w6 ((q.trans q6).as hI (by omega) (by omega) (by omega)))
  · simp only [ev0, ev1, ev2, ev3, ev4, ev5, ev6, ev7, ev8, ev9, ev10, ew, Nat.reduceEqDiff, reduceCtorEq, Nat.reduceAdd, Nat.reduceSub, Nat.reduceMul, Nat.reduceLT, Nat.reduceLeDiff, Int.reduceLT, Int.reduceLE, Int.reduceEq, Int.reduceNe, Int.reduceAdd, Int.reduceSub, Int.reduceMul, Int.reduceNeg, Int.reduceToNat, h30, q_end0]
    exact Ret.here (h _ _ w5 (q.as hI (by omega) (by omega) (by omega)))
/-- An instruction is laid in an older row. -/
theorem patchOld {σ0 : Hp} {bw : Nat} {st : St} (hw : WS σ0 bw st σ) (hI : Inv st) {bo : Nat} (h1 : bo ≠ bw) (h2 : σ0 bo = none) {els : List AV} (hb : σ bo = some (.row 4 els)) {i : Nat} {y : Ins} (hy : els[i]? = some y.av) (v : Nat) (hv : v ≤ st.l.length) :
    ∃ st', WS σ0 bw st' (σ.upd bo (.row 4 (els.set i (Ins.av { y with a := v })))) ∧ Post st st' 0 0 0 := by
  obtain ⟨w1, w2, w3⟩ := hw
  rcases w3 with ⟨hn, hv'⟩ | ⟨b, b1, b2, b3, b4⟩
  · exact ⟨st, ⟨sub_upd w1 h2, w2, .inl ⟨hn, upd_some h1.symm hv'⟩⟩, Post.refl hI⟩
  · by_cases e : bo = b
    · subst e
      rw [b4] at hb
      cases hb
      have hi : i < st.l.length := by have := (List.getElem?_eq_some_iff.1 hy).1; simpa using this
      obtain ⟨x, x1, x2⟩ := map_at hi
      rw [x2] at hy
      have hxy : Ins.av { y with a := v } = Ins.av { x with a := v } := by
        show y.av.splice 1 [AV.int .i64 v] = x.av.splice 1 [AV.int .i64 v]
        rw [Option.some.inj hy]
      have hx := hI.1 x (List.mem_of_getElem? x1)
      rw [hxy]
      exact ⟨_, WS.set (x := { x with a := v }) w1 w2 b1 b2 b3, set_post hI (hx.setA (by omega) (by omega))⟩
    · exact ⟨st, ⟨sub_upd w1 h2, w2, .inr ⟨b, b1, b2, upd_some h1.symm b3, upd_some (Ne.symm e) b4⟩⟩, Post.refl hI⟩
theorem while_spec {σ0 : Hp} {bw : Nat} {st : St} (a c : T) (fa fc : Nat) (hao : T.ok fa false a) (hco : T.ok fc false c) (ha : DoOk gs s a) (hc : DoOk gs s c)
    (hw : WS σ0 bw st σ) (hI : Inv st) (hl : st.l.length + 8 * (a.flat.length + c.flat.length) ≤ 99993) (hn : st.now + a.flat.length + c.flat.length ≤ 99999)
    (h : ∀ st' σ', WS σ0 bw st' σ' → Post st st' (8 * (a.flat.length + c.flat.length) + 2) 0 (max a.e c.e) → K (.tuple []) σ') :
    ACalls (env gs s) 82 [.ptr bw 3 0 0, .rd 1 ([a.flat, c.flat].map nodes)] σ K := by
  have hal := a.flat_len_pos
  have hcl := c.flat_len_pos
  have hae := a.e_nonneg
  have hce := c.e_nonneg
  have hnow := hI.2
  refine A82_call rfl ?_
  unfold A82
  simp only [ev0, ev1, ev2, ev3, ev4, ev5, ev6, ev7, ev8, ev9, ev10, ew, Nat.reduceEqDiff, reduceCtorEq, Nat.reduceAdd, Nat.reduceSub, Nat.reduceMul, Nat.reduceLT, Nat.reduceLeDiff, Int.reduceLT, Int.reduceLE, Int.reduceEq, Int.reduceNe, Int.reduceAdd, Int.reduceSub, Int.reduceMul, Int.reduceNeg, Int.reduceToNat]
  refine go_callI (op_post 17 0 1 [] hw hI (by omega) (okA_plain (by omega) (by omega) (by simp) (by omega) (by simp)) fun st1 σ1 w1 q1 l1 _ => ?_)
  simp only [ev0, ev1, ev2, ev3, ev4, ev5, ev6, ev7, ev8, ev9, ev10, ew, Nat.reduceEqDiff, reduceCtorEq, Nat.reduceAdd, Nat.reduceSub, Nat.reduceMul, Nat.reduceLT, Nat.reduceLeDiff, Int.reduceLT, Int.reduceLE, Int.reduceEq, Int.reduceNe, Int.reduceAdd, Int.reduceSub, Int.reduceMul, Int.reduceNeg, Int.reduceToNat]
  refine go_callI (op_post 14 0 0 [] w1 q1.1 (by omega) (okA_plain (by omega) (by omega) (by simp) (by omega) (by simp)) fun st2 σ2 w2 q2 l2 _ => ?_)
  have n1 := q1.2.2.2.1
  have n2 := q2.2.2.2.1
  simp only [ev0, ev1, ev2, ev3, ev4, ev5, ev6, ev7, ev8, ev9, ev10, ew, Nat.reduceEqDiff, reduceCtorEq, Nat.reduceAdd, Nat.reduceSub, Nat.reduceMul, Nat.reduceLT, Nat.reduceLeDiff, Int.reduceLT, Int.reduceLE, Int.reduceEq, Int.reduceNe, Int.reduceAdd, Int.reduceSub, Int.reduceMul, Int.reduceNeg, Int.reduceToNat, npart]
  refine go_callI (ha fa _ _ bw _ _ hao w2 q2.1 (by omega) (by omega) fun st3 σ3 w3 q3 => ?_)
  have l3 := q3.2.2.1
  have l3' := q3.2.1
  have n3 := q3.2.2.2.1
  simp only [ev0, ev1, ev2, ev3, ev4, ev5, ev6, ev7, ev8, ev9, ev10, ew, Nat.reduceEqDiff, reduceCtorEq, Nat.reduceAdd, Nat.reduceSub, Nat.reduceMul, Nat.reduceLT, Nat.reduceLeDiff, Int.reduceLT, Int.reduceLE, Int.reduceEq, Int.reduceNe, Int.reduceAdd, Int.reduceSub, Int.reduceMul, Int.reduceNeg, Int.reduceToNat]
  refine go_callI (op_post 19 0 0 [] w3 q3.1 (by omega) (okA_zero (by omega) (by omega) (.inl rfl) (by simp)) fun st4 σ4 w4 q4 l4 _ => ?_)
  have n4 := q4.2.2.2.1
  simp only [ev0, ev1, ev2, ev3, ev4, ev5, ev6, ev7, ev8, ev9, ev10, ew, Nat.reduceEqDiff, reduceCtorEq, Nat.reduceAdd, Nat.reduceSub, Nat.reduceMul, Nat.reduceLT, Nat.reduceLeDiff, Int.reduceLT, Int.reduceLE, Int.reduceEq, Int.reduceNe, Int.reduceAdd, Int.reduceSub, Int.reduceMul, Int.reduceNeg, Int.reduceToNat, npart]
  refine go_callI (hc fc _ _ bw _ _ hco w4 q4.1 (by omega) (by omega) fun st5 σ5 w5 q5 => ?_)
  have l5 := q5.2.2.1
  have l5' := q5.2.1
  have n5 := q5.2.2.2.1
  simp only [ev0, ev1, ev2, ev3, ev4, ev5, ev6, ev7, ev8, ev9, ev10, ew, Nat.reduceEqDiff, reduceCtorEq, Nat.reduceAdd, Nat.reduceSub, Nat.reduceMul, Nat.reduceLT, Nat.reduceLeDiff, Int.reduceLT, Int.reduceLE, Int.reduceEq, Int.reduceNe, Int.reduceAdd, Int.reduceSub, Int.reduceMul, Int.reduceNeg, Int.reduceToNat]
  refine go_callI (op_post 17 0 2 [] w5 q5.1 (by omega) (okA_plain (by omega) (by omega) (by simp) (by omega) (by simp)) fun st6 σ6 w6 q6 l6 _ => ?_)
  simp only [ev0, ev1, ev2, ev3, ev4, ev5, ev6, ev7, ev8, ev9, ev10, ew, Nat.reduceEqDiff, reduceCtorEq, Nat.reduceAdd, Nat.reduceSub, Nat.reduceMul, Nat.reduceLT, Nat.reduceLeDiff, Int.reduceLT, Int.reduceLE, Int.reduceEq, Int.reduceNe, Int.reduceAdd, Int.reduceSub, Int.reduceMul, Int.reduceNeg, Int.reduceToNat]
  refine go_callI (op_post 18 st1.l.length 0 [] w6 q6.1 (by omega) ⟨⟨by dsimp only; omega, by dsimp only; omega⟩, fun _ => ⟨by dsimp only; omega, by dsimp only; omega⟩, fun _ => ⟨by dsimp only; omega, by dsimp only; omega⟩, fun _ => by dsimp only; omega, by simp⟩ fun st7 σ7 w7 q7 l7 _ => ?_)
  simp only [ev0, ev1, ev2, ev3, ev4, ev5, ev6, ev7, ev8, ev9, ev10, ew, Nat.reduceEqDiff, reduceCtorEq, Nat.reduceAdd, Nat.reduceSub, Nat.reduceMul, Nat.reduceLT, Nat.reduceLeDiff, Int.reduceLT, Int.reduceLE, Int.reduceEq, Int.reduceNe, Int.reduceAdd, Int.reduceSub, Int.reduceMul, Int.reduceNeg, Int.reduceToNat]
  refine DT82_7_go ?_
  unfold DT82_7
  have q := (((((q1.trans q2).trans q3).trans q4).trans q5).trans q6).trans q7
  obtain ⟨bo, bo1, bo2, bo3, bo4⟩ := w7.own (by omega)
  have hlt : (st3.l.length : Int) < st7.l.length := by omega
  repeat' first
    | simp only [ev0, ev1, ev2, ev3, ev4, ev5, ev6, ev7, ev8, ev9, ev10, ew, Nat.reduceEqDiff, reduceCtorEq, Nat.reduceAdd, Nat.reduceSub, Nat.reduceMul, Nat.reduceLT, Nat.reduceLeDiff, Int.reduceLT, Int.reduceLE, Int.reduceEq, Int.reduceNe, Int.reduceAdd, Int.reduceSub, Int.reduceMul, Int.reduceNeg, Int.reduceToNat, bo3, wrow, part_f, avc]
    | with_reducible refine And.intro ?_ ?_
    | refine go_callI (op_post 17 0 3 [] w7 q7.1 (by omega) (okA_plain (by omega) (by omega) (by simp) (by omega) (by simp)) fun st8 σ8 w8 q8 l8 hkeep => ?_)
  · exact hlt
  · obtain ⟨els, e1, e2⟩ := hkeep bo _ bo1 bo4
    obtain ⟨x, x1, x2⟩ := map_at (l := st7.l) (i := st3.l.length) (by omega)
    have x3 : els[st3.l.length]? = some x.av := by
      obtain ⟨r, hr⟩ := e2
      rw [← hr, List.getElem?_append_left (by simp; omega)]; exact x2
    obtain ⟨st9, w9, q9⟩ := patchOld w8 q8.1 bo1 bo2 e1 x3 st7.l.length (by omega)
    simp only [ev0, ev1, ev2, ev3, ev4, ev5, ev6, ev7, ev8, ev9, ev10, ew, Nat.reduceEqDiff, reduceCtorEq, Nat.reduceAdd, Nat.reduceSub, Nat.reduceMul, Nat.reduceLT, Nat.reduceLeDiff, Int.reduceLT, Int.reduceLE, Int.reduceEq, Int.reduceNe, Int.reduceAdd, Int.reduceSub, Int.reduceMul, Int.reduceNeg, Int.reduceToNat, e1, x3, avc, isplice]
    refine ⟨by intro y hy; rw [List.mem_singleton.1 hy]; rfl, ?_⟩
    rw [q_end0]
    exact Ret.here (h _ _ w9 (((q.trans q8).trans q9).as hI (by omega) (by omega) (by omega)))
  · obtain ⟨b, x, hv, hb, hx, st9, w9, q9, l9⟩ := patchA w8 q8.1 (i := st3.l.length) (by omega) st7.l.length (by omega)
    have hlt8 : (st3.l.length : Int) < st8.l.length := by omega
    simp only [ev0, ev1, ev2, ev3, ev4, ev5, ev6, ev7, ev8, ev9, ev10, ew, Nat.reduceEqDiff, reduceCtorEq, Nat.reduceAdd, Nat.reduceSub, Nat.reduceMul, Nat.reduceLT, Nat.reduceLeDiff, Int.reduceLT, Int.reduceLE, Int.reduceEq, Int.reduceNe, Int.reduceAdd, Int.reduceSub, Int.reduceMul, Int.reduceNeg, Int.reduceToNat, hv, hb, hx, wrow, part_f, avc, isplice, hlt8]
    refine ⟨by intro y hy; rw [List.mem_singleton.1 hy]; rfl, ?_⟩
    rw [q_end0]
    exact Ret.here (h _ _ w9 (((q.trans q8).trans q9).as hI (by omega) (by omega) (by omega)))
/-- Two places are laid. -/
theorem patch2 {σ0 : Hp} {bw : Nat} {st : St} (hw : WS σ0 bw st σ) (hI : Inv st) {i j : Nat} (hij : i ≠ j) (hi : i < st.l.length) (hj : j < st.l.length) (v : Nat) (hv : v ≤ st.l.length) : ∃ (b : Nat) (x y : Ins), σ bw = some (wrow (.own b 4 0 st.l.length) st.now st.high) ∧ σ b = some (.row 4 (st.l.map Ins.av)) ∧ bw ≠ b ∧ (st.l.map Ins.av)[i]? = some x.av ∧
    (∀ A : AV, ((st.l.map Ins.av).set i A)[j]? = some y.av) ∧ ∃ st', WS σ0 bw st' (σ.upd b (.row 4 (((st.l.map Ins.av).set i (Ins.av { x with a := v })).set j (Ins.av { y with a := v })))) ∧ Post st st' 0 0 0 := by
  obtain ⟨b, b1, b2, b3, b4⟩ := hw.own (by omega)
  obtain ⟨x, x1, x2⟩ := map_at hi
  obtain ⟨y, y1, y2⟩ := map_at hj
  have hx := hI.1 x (List.mem_of_getElem? x1)
  have hy := hI.1 y (List.mem_of_getElem? y1)
  have w1 := WS.set (x := { x with a := v }) (i := i) hw.1 hw.2.1 b1 b2 b3
  have q1 := set_post (i := i) hI (hx.setA (v := v) (by omega) (by omega))
  have w2 := WS.set (st := { st with l := st.l.set i { x with a := v } }) (x := { y with a := v }) (i := j) w1.1 hw.2.1 b1 b2 (by rw [upd_some b1.symm b3]; simp)
  have q2 := set_post (i := j) (x := { y with a := (v : Int) }) q1.1 (by
    have h := hy.setA (v := (v : Int)) (by omega) (by omega)
    simpa using h)
  refine ⟨b, x, y, b3, b4, b1.symm, x2, fun A => by rw [List.getElem?_set_ne hij]; exact y2, _, ?_, (q1.trans q2).as hI (by omega) (by omega) (by omega)⟩
  rw [upd_upd] at w2
  simp only at w2
  rw [List.map_set] at w2
  exact w2
theorem each_spec {σ0 : Hp} {bw : Nat} {st : St} (a c : T) (fa fc : Nat) (hao : T.ok fa true a) (hco : T.ok fc false c) (ha : WordOk gs s a) (hc : DoOk gs s c) (str : List UInt8) (hstr : str.length ≤ 2000)
    (hw : WS σ0 bw st σ) (hI : Inv st) (hl : st.l.length + 8 * (a.flat.length + c.flat.length) ≤ 99993) (hn : st.now + a.flat.length + c.flat.length ≤ 99999)
    (h : ∀ st' σ', WS σ0 bw st' σ' → Post st st' (8 * (a.flat.length + c.flat.length) + 1) 0 (max a.e c.e) → K (.tuple []) σ') :
    ACalls (env gs s) 83 [.ptr bw 3 0 0, .str str, .rd 1 ([a.flat, c.flat].map nodes)] σ K := by
  have hal := a.flat_len_pos
  have hcl := c.flat_len_pos
  have hae := a.e_word hao
  have hce := c.e_nonneg
  have hnow := hI.2
  refine A83_call rfl ?_
  unfold A83
  simp only [ev0, ev1, ev2, ev3, ev4, ev5, ev6, ev7, ev8, ev9, ev10, ew, Nat.reduceEqDiff, reduceCtorEq, Nat.reduceAdd, Nat.reduceSub, Nat.reduceMul, Nat.reduceLT, Nat.reduceLeDiff, Int.reduceLT, Int.reduceLE, Int.reduceEq, Int.reduceNe, Int.reduceAdd, Int.reduceSub, Int.reduceMul, Int.reduceNeg, Int.reduceToNat, npart]
  refine go_callI (ha fa _ _ bw _ _ hao hw hI (by omega) (by omega) fun st1 σ1 w1 q1 => ?_)
  have l1 := q1.2.2.1
  have n1 := q1.2.2.2.1
  simp only [ev0, ev1, ev2, ev3, ev4, ev5, ev6, ev7, ev8, ev9, ev10, ew, Nat.reduceEqDiff, reduceCtorEq, Nat.reduceAdd, Nat.reduceSub, Nat.reduceMul, Nat.reduceLT, Nat.reduceLeDiff, Int.reduceLT, Int.reduceLE, Int.reduceEq, Int.reduceNe, Int.reduceAdd, Int.reduceSub, Int.reduceMul, Int.reduceNeg, Int.reduceToNat]
  refine go_callI (op_post 21 0 0 [] w1 q1.1 (by omega) (okA_plain (by omega) (by omega) (by simp) (by omega) (by simp)) fun st2 σ2 w2 q2 l2 _ => ?_)
  have n2 := q2.2.2.2.1
  simp only [ev0, ev1, ev2, ev3, ev4, ev5, ev6, ev7, ev8, ev9, ev10, ew, Nat.reduceEqDiff, reduceCtorEq, Nat.reduceAdd, Nat.reduceSub, Nat.reduceMul, Nat.reduceLT, Nat.reduceLeDiff, Int.reduceLT, Int.reduceLE, Int.reduceEq, Int.reduceNe, Int.reduceAdd, Int.reduceSub, Int.reduceMul, Int.reduceNeg, Int.reduceToNat]
  refine go_callI (push_spec (-1) w2 (by omega) (by omega) fun σ3 w3 => ?_)
  have q3 := (q1.trans q2).push (-1) (by omega)
  simp only [ev0, ev1, ev2, ev3, ev4, ev5, ev6, ev7, ev8, ev9, ev10, ew, Nat.reduceEqDiff, reduceCtorEq, Nat.reduceAdd, Nat.reduceSub, Nat.reduceMul, Nat.reduceLT, Nat.reduceLeDiff, Int.reduceLT, Int.reduceLE, Int.reduceEq, Int.reduceNe, Int.reduceAdd, Int.reduceSub, Int.reduceMul, Int.reduceNeg, Int.reduceToNat]
  refine go_callI (op_post 22 0 0 str w3 q3.1 (by dsimp only; omega) (okA_zero (by omega) (by omega) (.inl rfl) hstr) fun st4 σ4 w4 q4 l4 _ => ?_)
  have n4 := q4.2.2.2.1
  simp only [ev0, ev1, ev2, ev3, ev4, ev5, ev6, ev7, ev8, ev9, ev10, ew, Nat.reduceEqDiff, reduceCtorEq, Nat.reduceAdd, Nat.reduceSub, Nat.reduceMul, Nat.reduceLT, Nat.reduceLeDiff, Int.reduceLT, Int.reduceLE, Int.reduceEq, Int.reduceNe, Int.reduceAdd, Int.reduceSub, Int.reduceMul, Int.reduceNeg, Int.reduceToNat]
  refine go_callI (op_post 14 0 0 [] w4 q4.1 (by dsimp only at l4; omega) (okA_plain (by omega) (by omega) (by simp) (by omega) (by simp)) fun st5 σ5 w5 q5 l5 _ => ?_)
  have n5 := q5.2.2.2.1
  simp only [ev0, ev1, ev2, ev3, ev4, ev5, ev6, ev7, ev8, ev9, ev10, ew, Nat.reduceEqDiff, reduceCtorEq, Nat.reduceAdd, Nat.reduceSub, Nat.reduceMul, Nat.reduceLT, Nat.reduceLeDiff, Int.reduceLT, Int.reduceLE, Int.reduceEq, Int.reduceNe, Int.reduceAdd, Int.reduceSub, Int.reduceMul, Int.reduceNeg, Int.reduceToNat]
  refine go_callI (op_post 22 0 1 str w5 q5.1 (by dsimp only at l4; omega) (okA_zero (by omega) (by omega) (.inr (by simp)) hstr) fun st6 σ6 w6 q6 l6 _ => ?_)
  have n6 := q6.2.2.2.1
  dsimp only at n4 l4
  simp only [ev0, ev1, ev2, ev3, ev4, ev5, ev6, ev7, ev8, ev9, ev10, ew, Nat.reduceEqDiff, reduceCtorEq, Nat.reduceAdd, Nat.reduceSub, Nat.reduceMul, Nat.reduceLT, Nat.reduceLeDiff, Int.reduceLT, Int.reduceLE, Int.reduceEq, Int.reduceNe, Int.reduceAdd, Int.reduceSub, Int.reduceMul, Int.reduceNeg, Int.reduceToNat, npart]
  refine go_callI (hc fc _ _ bw _ _ hco w6 q6.1 (by omega) (by omega) fun st7 σ7 w7 q7 => ?_)
  have l7 := q7.2.2.1
  have l7' := q7.2.1
  simp only [ev0, ev1, ev2, ev3, ev4, ev5, ev6, ev7, ev8, ev9, ev10, ew, Nat.reduceEqDiff, reduceCtorEq, Nat.reduceAdd, Nat.reduceSub, Nat.reduceMul, Nat.reduceLT, Nat.reduceLeDiff, Int.reduceLT, Int.reduceLE, Int.reduceEq, Int.reduceNe, Int.reduceAdd, Int.reduceSub, Int.reduceMul, Int.reduceNeg, Int.reduceToNat]
  refine go_callI (op_post 18 st2.l.length 0 [] w7 q7.1 (by omega) ⟨⟨by dsimp only; omega, by dsimp only; omega⟩, fun _ => ⟨by dsimp only; omega, by dsimp only; omega⟩, fun _ => ⟨by dsimp only; omega, by dsimp only; omega⟩, fun _ => by dsimp only; omega, by simp⟩ fun st8 σ8 w8 q8 l8 _ => ?_)
  simp only [ev0, ev1, ev2, ev3, ev4, ev5, ev6, ev7, ev8, ev9, ev10, ew, Nat.reduceEqDiff, reduceCtorEq, Nat.reduceAdd, Nat.reduceSub, Nat.reduceMul, Nat.reduceLT, Nat.reduceLeDiff, Int.reduceLT, Int.reduceLE, Int.reduceEq, Int.reduceNe, Int.reduceAdd, Int.reduceSub, Int.reduceMul, Int.reduceNeg, Int.reduceToNat]
  have q := ((((q3.trans q4).trans q5).trans q6).trans q7).trans q8
  obtain ⟨b, x, y, hv, hb, hne, hx, hy, st9, w9, q9⟩ := patch2 w8 q8.1 (i := st2.l.length) (j := st5.l.length) (by omega) (by omega) (by omega) st8.l.length (Nat.le_refl _)
  have hlt1 : (st2.l.length : Int) < st8.l.length := by omega
  have hlt2 : (st5.l.length : Int) < st8.l.length := by omega
  refine DT83_8_go ?_
  unfold DT83_8
  repeat' first
    | simp only [ev0, ev1, ev2, ev3, ev4, ev5, ev6, ev7, ev8, ev9, ev10, ew, Nat.reduceEqDiff, reduceCtorEq, Nat.reduceAdd, Nat.reduceSub, Nat.reduceMul, Nat.reduceLT, Nat.reduceLeDiff, Int.reduceLT, Int.reduceLE, Int.reduceEq, Int.reduceNe, Int.reduceAdd, Int.reduceSub, Int.reduceMul, Int.reduceNeg, Int.reduceToNat, hv, hb, hx, hy, wrow, part_f, avc, isplice, hlt1, hlt2, upd_same, upd_upd, upd_ne hne, q_end0]
    | with_reducible refine And.intro ?_ ?_
    | refine go_callI (here_spec w8 ?_)
  all_goals first
    | (intro y hy; rw [List.mem_singleton.1 hy]; rfl)
    | exact Ret.here (h _ _ w9 ((q.trans q9).as hI (by omega) (by omega) (by omega)))
end Go.Proofs.YthmcfphafofheaaDoor
