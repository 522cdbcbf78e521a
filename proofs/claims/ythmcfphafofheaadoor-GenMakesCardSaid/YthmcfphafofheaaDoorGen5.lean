/- Contracts: a choice is written. No statement of the seat is proved in this file. -/
import Derived.Test.YthmcfphafofheaaDoorGen4
open Go Go.Proofs
namespace Go.Proofs.YthmcfphafofheaaDoor
open Pat
set_option maxRecDepth 10000
set_option maxHeartbeats 1000000
set_option linter.unusedSimpArgs false
set_option linter.unusedVariables false
variable {gs : List Nat} {s : Nat → Addr} {σ : Hp} {K : AV → Hp → Prop}
theorem WS.re {σ0 : Hp} {bw b : Nat} {st : St} {X Y : ABlk} (h : WS (σ0.upd b X) bw st σ) : WS (σ0.upd b Y) bw st (σ.upd b Y) := by
  obtain ⟨w1, w2, w3⟩ := h
  have hbw : bw ≠ b := fun e => by rw [e, upd_same] at w2; cases w2
  refine ⟨fun c x hc => ?_, by rw [upd_ne hbw] at w2 ⊢; exact w2, ?_⟩
  · by_cases e : c = b
    · subst e; rw [upd_same] at hc ⊢; exact hc
    · rw [upd_ne e] at hc ⊢; exact w1 c x (by rw [upd_ne e]; exact hc)
  · rcases w3 with ⟨h1, hv⟩ | ⟨b', h1, h2, hv, h3⟩
    · exact .inl ⟨h1, upd_some hbw hv⟩
    · have hb' : b' ≠ b := fun e => by rw [e, upd_same] at h2; cases h2
      exact .inr ⟨b', h1, by rw [upd_ne hb'] at h2 ⊢; exact h2, upd_some hbw hv, upd_some hb' h3⟩
theorem Post.op {a b c : St} {m n : Nat} {d e : Int} (h : Post a b m d e) (h' : Post b c n 0 0) (hde : d ≤ e) : Post a c (m + n) d e := by
  have q := h.trans h'
  rwa [Int.add_zero, Int.max_eq_left hde] at q
theorem Post.pop {a b : St} {m : Nat} {d e : Int} (h : Post a b m d e) (n : Int) (hn : 0 ≤ b.now + n) (hle : d + n ≤ e) : Post a ⟨b.l, b.now + n, max b.high (b.now + n)⟩ m (d + n) e := by
  have q := h.push n hn
  rwa [Int.max_eq_left hle] at q
def endRow (es : List Nat) : ABlk := .row 1 (es.map fun (n : Nat) => AV.int .i64 (n : Int))
/-- A list of places beside the writer. -/
def Ends (σ0 : Hp) (bw : Nat) (st : St) (σ : Hp) (v : AV) (es : List Nat) : Prop :=
  (v = .nils ∧ es = [] ∧ WS σ0 bw st σ) ∨ ∃ be, σ0 be = none ∧ v = .own be 1 0 es.length ∧ WS (σ0.upd be (endRow es)) bw st σ
theorem Ends.ws {σ0 : Hp} {bw : Nat} {st : St} {v : AV} {es : List Nat} (h : Ends σ0 bw st σ v es) : ∃ B, WS B bw st σ ∧ ∀ st' σ', WS B bw st' σ' → Ends σ0 bw st' σ' v es := by
  rcases h with ⟨h1, h2, h3⟩ | ⟨be, h1, h2, h3⟩
  · exact ⟨_, h3, fun st' σ' h => .inl ⟨h1, h2, h⟩⟩
  · exact ⟨_, h3, fun st' σ' h => .inr ⟨be, h1, h2, h⟩⟩
theorem Ends.done {σ0 : Hp} {bw : Nat} {st : St} {v : AV} {es : List Nat} (h : Ends σ0 bw st σ v es) : WS σ0 bw st σ := by
  rcases h with ⟨_, _, h3⟩ | ⟨be, h1, _, h3⟩
  · exact h3
  · exact h3.weak h1
theorem Ends.app {E : Env} {N : Nat} {Q : Exit → Slots → Hp → Prop} {fs : List Fr} {sl : Slots} {l : List AOper} {d : Option Nat} {σ0 : Hp} {bw : Nat} {st : St} {v : AV} {es : List Nat} (h : Ends σ0 bw st σ v es) (x : Nat) (hl : es.length ≤ 1000000)
    (hk : ∀ v' σ', Ends σ0 bw st σ' v' (es ++ [x]) → GoO E N Q l fs (sl.put d v') σ') : GoApp E N Q 1 8 v (some [.int .i64 x]) d l fs sl σ := by
  rcases h with ⟨rfl, rfl, h3⟩ | ⟨be, h1, rfl, h3⟩
  · refine ⟨by simp [AV.cells], by simp [AV.cells, AV.scalar], ?_⟩
    exact ⟨by simp, fun b hb => hk _ _ (.inr ⟨b, h3.isNone hb, rfl, h3.fresh hb⟩)⟩
  · have hc := h3.cell
    have e1 : es.length = (es.map fun (n : Nat) => AV.int .i64 (n : Int)).length := by simp
    rw [e1]
    refine app_keep hc (by simp [AV.cells]) (by simp [AV.cells, AV.scalar]) (by simp; omega) fun b' hb' => ?_
    have e2 : (ABlk.row 1 ((es.map fun (n : Nat) => AV.int .i64 (n : Int)) ++ [.int .i64 (x : Int)])) = endRow (es ++ [x]) := by simp [endRow]
    rw [e2]
    refine hk _ _ (.inr ⟨b', ?_, by simp, ?_⟩)
    · rcases hb' with rfl | hb'
      · exact h1
      · exact (h3.weak h1).isNone hb'
    · rcases hb' with rfl | hb'
      · exact h3.re
      · exact (h3.weak h1).fresh hb'
/-- The children of a choice: patterns and commands, one by one. -/
def Pairs (gs : List Nat) (s : Nat → Addr) : List T → Prop
  | [] => True
  | [_] => False
  | p :: c :: r => (WordOk gs s p ∧ ∃ f, T.ok f true p) ∧ (DoOk gs s c ∧ ∃ f, T.ok f false c) ∧ Pairs gs s r
theorem flats2 (p c : T) (r : List T) : (T.flats (p :: c :: r)).length = p.flat.length + c.flat.length + (T.flats r).length := by
  simp only [T.flats, List.length_append]; omega
def chI (gs : List Nat) (s : Nat → Addr) (σ0 : Hp) (bw : Nat) (st : St) (ks : List T) (H : Int) (L : Nat) (n : Nat) (vs : List AV) (σ' : Hp) : Prop :=
  ∃ (i : Nat) (st' : St) (v : AV) (es : List Nat), vs = [v, .int .i64 i] ∧ Ends σ0 bw st' σ' v es ∧ Inv st' ∧ n + i = ks.length ∧ Pairs gs s (ks.drop i) ∧ (∀ e ∈ es, e < st'.l.length) ∧ es.length ≤ i ∧
    st.l.length ≤ st'.l.length ∧ st'.l.length + 8 * (T.flats (ks.drop i)).length ≤ L ∧ st'.now = st.now + 1 ∧ max st'.high (st.now + altE ((ks.drop i).map T.e)) = H
def chJ (σ0 : Hp) (bw : Nat) (st : St) (v : AV) (es : List Nat) (n : Nat) (vs : List AV) (σ' : Hp) : Prop :=
  ∃ (i : Nat) (st' : St), vs = [.int .i64 i] ∧ Ends σ0 bw st' σ' v es ∧ Inv st' ∧ n + i = es.length ∧ Post st st' 0 0 0
theorem choose_tail {σ0 : Hp} {bw : Nat} {st st3 : St} {v : AV} {es : List Nat} {c : Nat} {E : Int} (hI : Inv st) (hI3 : Inv st3) (hE : Ends σ0 bw st3 σ v es) (hes : ∀ e ∈ es, e < st3.l.length) (hel : es.length ≤ 100000) (hl3 : st3.l.length ≤ 99995) (hn3 : st3.now ≤ 100001)
    (l1 : st.l.length ≤ st3.l.length) (l2 : st3.l.length + 2 ≤ st.l.length + c) (n1 : st3.now = st.now + 1) (h1 : st3.high = max st.high (st.now + E))
    (h : ∀ st' σ', WS σ0 bw st' σ' → Post st st' c 0 E → K (.tuple []) σ') (sl : Slots) (h0 : sl 0 = .ptr bw 3 0 0) (h4 : sl 4 = v) :
    GoC (env gs s) 102 (bodyQ (env gs s) [] K) C127_2 [] sl σ := by
  have hI3' := hI3.2
  have hnow := hI.2
  obtain ⟨B, wB, hB⟩ := hE.ws
  unfold C127_2
  simp only [ev0, ev1, ev2, ev3, ev4, ev5, ev6, ev7, ev8, ev9, ev10, ew, Nat.reduceEqDiff, reduceCtorEq, Nat.reduceAdd, Nat.reduceSub, Nat.reduceMul, Nat.reduceLT, Nat.reduceLeDiff, Int.reduceLT, Int.reduceLE, Int.reduceEq, Int.reduceNe, Int.reduceAdd, Int.reduceSub, Int.reduceMul, Int.reduceNeg, Int.reduceToNat, h0, h4]
  refine go_callI (op_post 25 0 0 [] wB hI3 (by omega) (okA_plain (by omega) (by omega) (by simp) (by omega) (by simp)) fun st4 σ4 w4 q4 l4 _ => ?_)
  have n4 := q4.2.2.2.1
  simp only [ev0, ev1, ev2, ev3, ev4, ev5, ev6, ev7, ev8, ev9, ev10, ew, Nat.reduceEqDiff, reduceCtorEq, Nat.reduceAdd, Nat.reduceSub, Nat.reduceMul, Nat.reduceLT, Nat.reduceLeDiff, Int.reduceLT, Int.reduceLE, Int.reduceEq, Int.reduceNe, Int.reduceAdd, Int.reduceSub, Int.reduceMul, Int.reduceNeg, Int.reduceToNat, h0, h4]
  refine go_callI (push_spec (-1) w4 (by omega) (by omega) fun σ5 w5 => ?_)
  have q5 := q4.push (-1) (by omega)
  simp only [ev0, ev1, ev2, ev3, ev4, ev5, ev6, ev7, ev8, ev9, ev10, ew, Nat.reduceEqDiff, reduceCtorEq, Nat.reduceAdd, Nat.reduceSub, Nat.reduceMul, Nat.reduceLT, Nat.reduceLeDiff, Int.reduceLT, Int.reduceLE, Int.reduceEq, Int.reduceNe, Int.reduceAdd, Int.reduceSub, Int.reduceMul, Int.reduceNeg, Int.reduceToNat, h0, h4]
  refine go_callI (op_post 17 0 0 [] w5 q5.1 (by dsimp only; omega) (okA_plain (by omega) (by omega) (by simp) (by omega) (by simp)) fun st6 σ6 w6 q6 l6 _ => ?_)
  have q7 := q5.trans q6
  have l7 := q7.2.1
  have hlv : ∀ {N : Nat} {Q : Exit → Slots → Hp → Prop} {l : List AOper} {fs : List Fr} {d : Option Nat} {sl : Slots}, GoO (env gs s) N Q l fs (sl.put d (.int .i64 es.length)) σ6 → Go1 (env gs s) N Q (.len .slice (.t 0)) v d l fs sl σ6 := by
    intro N Q l fs d sl h
    rcases hB _ _ w6 with ⟨rfl, rfl, _⟩ | ⟨be, _, rfl, _⟩ <;> exact h
  simp only [ev0, ev1, ev2, ev3, ev4, ev5, ev6, ev7, ev8, ev9, ev10, ew, Nat.reduceEqDiff, reduceCtorEq, Nat.reduceAdd, Nat.reduceSub, Nat.reduceMul, Nat.reduceLT, Nat.reduceLeDiff, Int.reduceLT, Int.reduceLE, Int.reduceEq, Int.reduceNe, Int.reduceAdd, Int.reduceSub, Int.reduceMul, Int.reduceNeg, Int.reduceToNat, h0, h4]
  refine hlv ?_
  simp only [ev0, ev1, ev2, ev3, ev4, ev5, ev6, ev7, ev8, ev9, ev10, ew, Nat.reduceEqDiff, reduceCtorEq, Nat.reduceAdd, Nat.reduceSub, Nat.reduceMul, Nat.reduceLT, Nat.reduceLeDiff, Int.reduceLT, Int.reduceLE, Int.reduceEq, Int.reduceNe, Int.reduceAdd, Int.reduceSub, Int.reduceMul, Int.reduceNeg, Int.reduceToNat, h0, h4, C127_1]
  refine go_block ?_
  refine go_loop W127_1 [0, 83, 84] [.ptr bw 3 0 0, v, .int .i64 es.length] [85] (chJ σ0 bw st6 v es) A127_1_wr rfl ?_ ?_ ?_
  · simp only [ev0, ev1, ev2, ev3, ev4, ev5, ev6, ev7, ev8, ev9, ev10, ew, Nat.reduceEqDiff, reduceCtorEq, Nat.reduceAdd, Nat.reduceSub, Nat.reduceMul, Nat.reduceLT, Nat.reduceLeDiff, Int.reduceLT, Int.reduceLE, Int.reduceEq, Int.reduceNe, Int.reduceAdd, Int.reduceSub, Int.reduceMul, Int.reduceNeg, Int.reduceToNat, h0, h4]
  · refine ⟨es.length, _, _, Sub.refl _, FzL.refl _ _ _, 0, st6, ?_, hB _ _ w6, q7.1, rfl, Post.refl q7.1⟩
    simp only [ev0, ev1, ev2, ev3, ev4, ev5, ev6, ev7, ev8, ev9, ev10, ew, Nat.reduceEqDiff, reduceCtorEq, Nat.reduceAdd, Nat.reduceSub, Nat.reduceMul, Nat.reduceLT, Nat.reduceLeDiff, Int.reduceLT, Int.reduceLE, Int.reduceEq, Int.reduceNe, Int.reduceAdd, Int.reduceSub, Int.reduceMul, Int.reduceNeg, Int.reduceToNat]
  · rintro m vs σ7 - ⟨j, st7, rfl, hE7, hI7, hj, q8⟩
    unfold A127_1
    by_cases hcj : (j : Int) < es.length
    · obtain ⟨e, he⟩ : ∃ e, es[j]? = some e := ⟨es[j]'(by omega), List.getElem?_eq_getElem _⟩
      have hel := hes e (List.mem_of_getElem? he)
      have l8 := q8.2.1
      have l8' := q8.2.2.1
      rcases hE7 with ⟨rfl, rfl, _⟩ | ⟨be, be1, rfl, be2⟩
      · simp at he
      obtain ⟨bb, x, hv, hb, hx, st9, w9, q9, l9⟩ := patchA be2 hI7 (i := e) (by omega) st7.l.length (Nat.le_refl _)
      have hlt : (e : Int) < st7.l.length := by omega
      have hx' : (List.map Ins.av st7.l)[e]? = some x.av := by simp [hx]
      have hbe := be2.cell
      have he' : (es.map fun (n : Nat) => AV.int .i64 (n : Int))[j]? = some (.int .i64 (e : Int)) := by simp [he]
      have hw1 : IntKind.i64.wrap ((j : Int) + 1) = (j + 1 : Nat) := i64_id _ (by omega) (by omega)
      simp only [ev0, ev1, ev2, ev3, ev4, ev5, ev6, ev7, ev8, ev9, ev10, ew, Nat.reduceEqDiff, reduceCtorEq, Nat.reduceAdd, Nat.reduceSub, Nat.reduceMul, Nat.reduceLT, Nat.reduceLeDiff, Int.reduceLT, Int.reduceLE, Int.reduceEq, Int.reduceNe, Int.reduceAdd, Int.reduceSub, Int.reduceMul, Int.reduceNeg, Int.reduceToNat, hcj]
      refine go_block ?_
      simp only [ev0, ev1, ev2, ev3, ev4, ev5, ev6, ev7, ev8, ev9, ev10, ew, Nat.reduceEqDiff, reduceCtorEq, Nat.reduceAdd, Nat.reduceSub, Nat.reduceMul, Nat.reduceLT, Nat.reduceLeDiff, Int.reduceLT, Int.reduceLE, Int.reduceEq, Int.reduceNe, Int.reduceAdd, Int.reduceSub, Int.reduceMul, Int.reduceNeg, Int.reduceToNat, hcj, hbe, endRow, he', part_f, avc]
      refine DT127_20_go ?_
      unfold DT127_20
      repeat' first
        | simp only [ev0, ev1, ev2, ev3, ev4, ev5, ev6, ev7, ev8, ev9, ev10, ew, Nat.reduceEqDiff, reduceCtorEq, Nat.reduceAdd, Nat.reduceSub, Nat.reduceMul, Nat.reduceLT, Nat.reduceLeDiff, Int.reduceLT, Int.reduceLE, Int.reduceEq, Int.reduceNe, Int.reduceAdd, Int.reduceSub, Int.reduceMul, Int.reduceNeg, Int.reduceToNat, hv, hb, hx', wrow, part_f, avc, isplice, hlt, hw1]
        | with_reducible refine And.intro ?_ ?_
        | refine go_callI (here_spec be2 ?_)
      all_goals first
        | (intro y hy; rw [List.mem_singleton.1 hy]; rfl)
        | (refine loop_next (m - 1) (by omega) ⟨j + 1, st9, ?_, .inr ⟨be, be1, rfl, w9⟩, q9.1, by omega, (q8.trans q9).as q7.1 (by omega) (by omega) (by omega)⟩
           simp only [ev0, ev1, ev2, ev3, ev4, ev5, ev6, ev7, ev8, ev9, ev10, ew, Nat.reduceEqDiff, reduceCtorEq, Nat.reduceAdd, Nat.reduceSub, Nat.reduceMul, Nat.reduceLT, Nat.reduceLeDiff, Int.reduceLT, Int.reduceLE, Int.reduceEq, Int.reduceNe, Int.reduceAdd, Int.reduceSub, Int.reduceMul, Int.reduceNeg, Int.reduceToNat])
    · simp only [ev0, ev1, ev2, ev3, ev4, ev5, ev6, ev7, ev8, ev9, ev10, ew, Nat.reduceEqDiff, reduceCtorEq, Nat.reduceAdd, Nat.reduceSub, Nat.reduceMul, Nat.reduceLT, Nat.reduceLeDiff, Int.reduceLT, Int.reduceLE, Int.reduceEq, Int.reduceNe, Int.reduceAdd, Int.reduceSub, Int.reduceMul, Int.reduceNeg, Int.reduceToNat, hcj, loop_exit, kont_gox, q_end0]
      obtain ⟨_, _, _, z1, z2⟩ := q8
      obtain ⟨_, _, _, y1, y2⟩ := q7
      have hI7' := hI7.2
      refine Ret.here (h st7 σ7 hE7.done ⟨hI7, by omega, by omega, by omega, ?_⟩)
      omega
theorem choose_spec {σ0 : Hp} {bw : Nat} {st : St} (a : T) (r : List T) (fa : Nat) (hao : T.ok fa true a) (ha : WordOk gs s a) (hr : Pairs gs s r)
    (hw : WS σ0 bw st σ) (hI : Inv st) (hl : st.l.length + 8 * (a.flat.length + (T.flats r).length) ≤ 99993) (hn : st.now + a.flat.length + (T.flats r).length ≤ 99999)
    (h : ∀ st' σ', WS σ0 bw st' σ' → Post st st' (8 * (a.flat.length + (T.flats r).length) + 1) 0 (max a.e (altE (r.map T.e))) → K (.tuple []) σ') :
    ACalls (env gs s) 127 [.ptr bw 3 0 0, .rd 1 (((a :: r).map T.flat).map nodes)] σ K := by
  have hal := a.flat_len_pos
  have hae := a.e_word hao
  have hnow := hI.2
  have hrl := T.flats_len_le r
  refine A127_call rfl ?_
  unfold A127
  simp only [ev0, ev1, ev2, ev3, ev4, ev5, ev6, ev7, ev8, ev9, ev10, ew, Nat.reduceEqDiff, reduceCtorEq, Nat.reduceAdd, Nat.reduceSub, Nat.reduceMul, Nat.reduceLT, Nat.reduceLeDiff, Int.reduceLT, Int.reduceLE, Int.reduceEq, Int.reduceNe, Int.reduceAdd, Int.reduceSub, Int.reduceMul, Int.reduceNeg, Int.reduceToNat, npart]
  refine go_callI (ha fa _ _ bw _ _ hao hw hI (by omega) (by omega) fun st1 σ1 w1 q1 => ?_)
  have l1 := q1.2.2.1
  have n1 := q1.2.2.2.1
  simp only [ev0, ev1, ev2, ev3, ev4, ev5, ev6, ev7, ev8, ev9, ev10, ew, Nat.reduceEqDiff, reduceCtorEq, Nat.reduceAdd, Nat.reduceSub, Nat.reduceMul, Nat.reduceLT, Nat.reduceLeDiff, Int.reduceLT, Int.reduceLE, Int.reduceEq, Int.reduceNe, Int.reduceAdd, Int.reduceSub, Int.reduceMul, Int.reduceNeg, Int.reduceToNat]
  refine go_callI (op_post 23 0 0 [] w1 q1.1 (by omega) (okA_plain (by omega) (by omega) (by simp) (by omega) (by simp)) fun st2 σ2 w2 q2 l2 _ => ?_)
  have q12 := q1.trans q2
  obtain ⟨hI2, k1, k2, k3, k4⟩ := q12
  have hI2' := hI2.2
  have hcast : ((List.map nodes (List.map T.flat r)).length + 1 : Nat) = r.length + 1 := by simp
  have hlen : (List.map nodes (List.map T.flat r)).length = r.length := by simp
  unfold C127_0
  simp only [ev0, ev1, ev2, ev3, ev4, ev5, ev6, ev7, ev8, ev9, ev10, ew, Nat.reduceEqDiff, reduceCtorEq, Nat.reduceAdd, Nat.reduceSub, Nat.reduceMul, Nat.reduceLT, Nat.reduceLeDiff, Int.reduceLT, Int.reduceLE, Int.reduceEq, Int.reduceNe, Int.reduceAdd, Int.reduceSub, Int.reduceMul, Int.reduceNeg, Int.reduceToNat]
  refine go_block ?_
  refine go_loop W127_0 [0, 1] [.ptr bw 3 0 0, .rd 1 (((a :: r).map T.flat).map nodes)] [4, 5] (chI gs s σ0 bw st (a :: r) (max st.high (st.now + max a.e (altE (r.map T.e)))) (st.l.length + 8 * (a.flat.length + (T.flats r).length) - 1)) A127_0_wr rfl ?_ ?_ ?_
  · simp only [ev0, ev1, ev2, ev3, ev4, ev5, ev6, ev7, ev8, ev9, ev10, ew, Nat.reduceEqDiff, reduceCtorEq, Nat.reduceAdd, Nat.reduceSub, Nat.reduceMul, Nat.reduceLT, Nat.reduceLeDiff, Int.reduceLT, Int.reduceLE, Int.reduceEq, Int.reduceNe, Int.reduceAdd, Int.reduceSub, Int.reduceMul, Int.reduceNeg, Int.reduceToNat]
  · refine ⟨r.length, _, _, Sub.refl _, FzL.refl _ _ _, 1, st2, .nils, [], ?_, .inl ⟨rfl, rfl, w2⟩, hI2, rfl, hr, by simp, by simp, by omega, ?_, by omega, ?_⟩
    · simp only [ev0, ev1, ev2, ev3, ev4, ev5, ev6, ev7, ev8, ev9, ev10, ew, Nat.reduceEqDiff, reduceCtorEq, Nat.reduceAdd, Nat.reduceSub, Nat.reduceMul, Nat.reduceLT, Nat.reduceLeDiff, Int.reduceLT, Int.reduceLE, Int.reduceEq, Int.reduceNe, Int.reduceAdd, Int.reduceSub, Int.reduceMul, Int.reduceNeg, Int.reduceToNat]
    · simp only [List.drop_succ_cons, List.drop_zero]; omega
    · simp only [List.drop_succ_cons, List.drop_zero]; omega
  · rintro n vs σ' - ⟨i, st3, v, es, rfl, hE, hI3, hi, hP, hes, hel, b1, b2, b3, b4⟩
    unfold A127_0
    have hI3' := hI3.2
    by_cases hc : i < r.length + 1
    · -- a pattern and its command
      obtain ⟨p, hp⟩ : ∃ p, (a :: r)[i]? = some p := ⟨(a :: r)[i]'(by simpa using hc), List.getElem?_eq_getElem _⟩
      have hd1 : (a :: r).drop i = p :: (a :: r).drop (i + 1) := by
        rw [List.drop_eq_getElem_cons (by simpa using hc)]; congr 1; exact (List.getElem?_eq_some_iff.1 hp).2
      rw [hd1] at hP
      obtain ⟨c, rest, hrest⟩ : ∃ c rest, (a :: r).drop (i + 1) = c :: rest := by
        cases hd : (a :: r).drop (i + 1) with
        | nil => rw [hd] at hP; exact hP.elim
        | cons c rest => exact ⟨c, rest, rfl⟩
      have hq : (a :: r)[i + 1]? = some c := by
        have := congrArg (fun l => l[0]?) hrest
        simpa using this
      have hc2 : i + 1 < r.length + 1 := by have := (List.getElem?_eq_some_iff.1 hq).1; simpa using this
      have hd2 : (a :: r).drop (i + 2) = rest := by
        have := congrArg List.tail hrest
        simpa using this
      rw [hrest] at hP
      obtain ⟨⟨hpw, fp, hpo⟩, ⟨hcw, fc, hco⟩, hP'⟩ := hP
      rw [hd1, hrest, flats2] at b2
      rw [hd1, hrest] at b4
      simp only [List.map_cons, altE] at b4
      have hpl := p.flat_len_pos
      have hcl := c.flat_len_pos
      have hpe := p.e_word hpo
      have hce := c.e_nonneg
      have hnn : st.now + p.flat.length + c.flat.length ≤ 99999 := by
        have hmem : (p :: c :: rest) = (a :: r).drop i := by rw [hd1, hrest]
        have := congrArg (fun l => (T.flats l).length) (List.take_append_drop i (a :: r))
        simp only [T.flats_append, List.length_append, ← hmem, flats2] at this
        have h2 : (T.flats (a :: r)).length = a.flat.length + (T.flats r).length := by simp [T.flats]
        omega
      obtain ⟨B, wB, hB⟩ := hE.ws
      have hcI : (i : Int) < (r.length + 1 : Nat) := by omega
      have hnp : ((List.map nodes (List.map T.flat (a :: r))))[i]? = some (nodes p.flat) := by rw [List.getElem?_map, List.getElem?_map, hp]; rfl
      have hnc : ((List.map nodes (List.map T.flat (a :: r))))[i + 1]? = some (nodes c.flat) := by rw [List.getElem?_map, List.getElem?_map, hq]; rfl
      have hlen' : (List.map nodes (List.map T.flat (a :: r))).length = r.length + 1 := by simp
      have hw1 : IntKind.i64.wrap ((i : Int) + 1) = (i + 1 : Nat) := i64_id _ (by omega) (by omega)
      have hw2 : IntKind.i64.wrap ((i : Int) + 2) = (i + 2 : Nat) := i64_id _ (by omega) (by omega)
      generalize hks : (List.map nodes (List.map T.flat (a :: r))) = KS at *
      simp only [ev0, ev1, ev2, ev3, ev4, ev5, ev6, ev7, ev8, ev9, ev10, ew, Nat.reduceEqDiff, reduceCtorEq, Nat.reduceAdd, Nat.reduceSub, Nat.reduceMul, Nat.reduceLT, Nat.reduceLeDiff, Int.reduceLT, Int.reduceLE, Int.reduceEq, Int.reduceNe, Int.reduceAdd, Int.reduceSub, Int.reduceMul, Int.reduceNeg, Int.reduceToNat, hlen', hcI]
      refine go_block ?_
      simp only [ev0, ev1, ev2, ev3, ev4, ev5, ev6, ev7, ev8, ev9, ev10, ew, Nat.reduceEqDiff, reduceCtorEq, Nat.reduceAdd, Nat.reduceSub, Nat.reduceMul, Nat.reduceLT, Nat.reduceLeDiff, Int.reduceLT, Int.reduceLE, Int.reduceEq, Int.reduceNe, Int.reduceAdd, Int.reduceSub, Int.reduceMul, Int.reduceNeg, Int.reduceToNat, hnp, npart]
      refine go_callI (hpw fp _ _ bw _ _ hpo wB hI3 (by omega) (by omega) fun st4 σ4 w4 q4 => ?_)
      have l4 := q4.2.2.1
      have l4' := q4.2.1
      have n4 := q4.2.2.2.1
      simp only [ev0, ev1, ev2, ev3, ev4, ev5, ev6, ev7, ev8, ev9, ev10, ew, Nat.reduceEqDiff, reduceCtorEq, Nat.reduceAdd, Nat.reduceSub, Nat.reduceMul, Nat.reduceLT, Nat.reduceLeDiff, Int.reduceLT, Int.reduceLE, Int.reduceEq, Int.reduceNe, Int.reduceAdd, Int.reduceSub, Int.reduceMul, Int.reduceNeg, Int.reduceToNat]
      refine go_callI (op_post 24 0 0 [] w4 q4.1 (by omega) (okA_zero (by omega) (by omega) (.inl rfl) (by simp)) fun st5 σ5 w5 q5 l5 _ => ?_)
      have n5 := q5.2.2.2.1
      simp only [ev0, ev1, ev2, ev3, ev4, ev5, ev6, ev7, ev8, ev9, ev10, ew, Nat.reduceEqDiff, reduceCtorEq, Nat.reduceAdd, Nat.reduceSub, Nat.reduceMul, Nat.reduceLT, Nat.reduceLeDiff, Int.reduceLT, Int.reduceLE, Int.reduceEq, Int.reduceNe, Int.reduceAdd, Int.reduceSub, Int.reduceMul, Int.reduceNeg, Int.reduceToNat]
      refine go_callI (op_post 25 0 0 [] w5 q5.1 (by omega) (okA_plain (by omega) (by omega) (by simp) (by omega) (by simp)) fun st6 σ6 w6 q6 l6 _ => ?_)
      have n6 := q6.2.2.2.1
      simp only [ev0, ev1, ev2, ev3, ev4, ev5, ev6, ev7, ev8, ev9, ev10, ew, Nat.reduceEqDiff, reduceCtorEq, Nat.reduceAdd, Nat.reduceSub, Nat.reduceMul, Nat.reduceLT, Nat.reduceLeDiff, Int.reduceLT, Int.reduceLE, Int.reduceEq, Int.reduceNe, Int.reduceAdd, Int.reduceSub, Int.reduceMul, Int.reduceNeg, Int.reduceToNat]
      refine go_callI (push_spec (-2) w6 (by omega) (by omega) fun σ7 w7 => ?_)
      have q7 := ((q4.op q5 hpe).op q6 hpe).pop (-2) (by omega) (by omega)
      simp only [ev0, ev1, ev2, ev3, ev4, ev5, ev6, ev7, ev8, ev9, ev10, ew, Nat.reduceEqDiff, reduceCtorEq, Nat.reduceAdd, Nat.reduceSub, Nat.reduceMul, Nat.reduceLT, Nat.reduceLeDiff, Int.reduceLT, Int.reduceLE, Int.reduceEq, Int.reduceNe, Int.reduceAdd, Int.reduceSub, Int.reduceMul, Int.reduceNeg, Int.reduceToNat, hw1, hnc, npart]
      refine go_callI (hcw fc _ _ bw _ _ hco w7 q7.1 (by dsimp only; omega) (by dsimp only; omega) fun st8 σ8 w8 q8 => ?_)
      have l8 := q8.2.2.1
      have l8' := q8.2.1
      have n8 := q8.2.2.2.1
      dsimp only at l8 l8' n8
      simp only [ev0, ev1, ev2, ev3, ev4, ev5, ev6, ev7, ev8, ev9, ev10, ew, Nat.reduceEqDiff, reduceCtorEq, Nat.reduceAdd, Nat.reduceSub, Nat.reduceMul, Nat.reduceLT, Nat.reduceLeDiff, Int.reduceLT, Int.reduceLE, Int.reduceEq, Int.reduceNe, Int.reduceAdd, Int.reduceSub, Int.reduceMul, Int.reduceNeg, Int.reduceToNat]
      refine go_callI (op_post 18 0 0 [] w8 q8.1 (by omega) (okA_zero (by omega) (by omega) (.inl rfl) (by simp)) fun st9 σ9 w9 q9 l9 _ => ?_)
      have n9 := q9.2.2.2.1
      have hm1 : (1 + -2 + 0 : Int) ≤ max p.e (1 + -2 + c.e) := by omega
      have q10 := (q7.trans q8).op q9 hm1
      simp only [ev0, ev1, ev2, ev3, ev4, ev5, ev6, ev7, ev8, ev9, ev10, ew, Nat.reduceEqDiff, reduceCtorEq, Nat.reduceAdd, Nat.reduceSub, Nat.reduceMul, Nat.reduceLT, Nat.reduceLeDiff, Int.reduceLT, Int.reduceLE, Int.reduceEq, Int.reduceNe, Int.reduceAdd, Int.reduceSub, Int.reduceMul, Int.reduceNeg, Int.reduceToNat, view]
      refine (hB _ _ w9).app st8.l.length (by omega) fun v' σ10 hE10 => ?_
      obtain ⟨B', wB', hB'⟩ := hE10.ws
      obtain ⟨bb, x, hv, hb, hx, st11, w11, q11, l11⟩ := patchA wB' q9.1 (i := st4.l.length) (by omega) st9.l.length (Nat.le_refl _)
      have hlt : (st4.l.length : Int) < st9.l.length := by omega
      have q12 := q10.op q11 hm1
      have hI11 := q11.1.2
      have n11 := q11.2.2.2.1
      obtain ⟨v2, hv2, hset⟩ := w11.count
      have hw3 : IntKind.i64.wrap (st11.now + 1) = st11.now + 1 := i64_id _ (by omega) (by omega)
      simp only [ev0, ev1, ev2, ev3, ev4, ev5, ev6, ev7, ev8, ev9, ev10, ew, Nat.reduceEqDiff, reduceCtorEq, Nat.reduceAdd, Nat.reduceSub, Nat.reduceMul, Nat.reduceLT, Nat.reduceLeDiff, Int.reduceLT, Int.reduceLE, Int.reduceEq, Int.reduceNe, Int.reduceAdd, Int.reduceSub, Int.reduceMul, Int.reduceNeg, Int.reduceToNat]
      refine DT127_12_go ?_
      unfold DT127_12
      have hx' : (List.map Ins.av st9.l)[st4.l.length]? = some x.av := by simp [hx]
      repeat' first
        | simp only [ev0, ev1, ev2, ev3, ev4, ev5, ev6, ev7, ev8, ev9, ev10, ew, Nat.reduceEqDiff, reduceCtorEq, Nat.reduceAdd, Nat.reduceSub, Nat.reduceMul, Nat.reduceLT, Nat.reduceLeDiff, Int.reduceLT, Int.reduceLE, Int.reduceEq, Int.reduceNe, Int.reduceAdd, Int.reduceSub, Int.reduceMul, Int.reduceNeg, Int.reduceToNat, hv, hb, hx', wrow, part_f, avc, isplice, hlt]
        | with_reducible refine And.intro ?_ ?_
        | refine go_callI (here_spec wB' ?_)
      all_goals first
        | (intro y hy; rw [List.mem_singleton.1 hy]; rfl)
        | skip
      all_goals
        simp only [ev0, ev1, ev2, ev3, ev4, ev5, ev6, ev7, ev8, ev9, ev10, ew, Nat.reduceEqDiff, reduceCtorEq, Nat.reduceAdd, Nat.reduceSub, Nat.reduceMul, Nat.reduceLT, Nat.reduceLeDiff, Int.reduceLT, Int.reduceLE, Int.reduceEq, Int.reduceNe, Int.reduceAdd, Int.reduceSub, Int.reduceMul, Int.reduceNeg, Int.reduceToNat, hv2, wrow, part_f, avc, wsplice, List.set_cons_zero, hw3, hw2]
        refine ⟨by intro y hy; rw [List.mem_singleton.1 hy]; rfl, ?_⟩
        obtain ⟨_, _, _, z1, z2⟩ := q12
        refine loop_next (n - 2) (by simp only [List.length_cons] at hi; omega) ⟨i + 2, ⟨st11.l, st11.now + 1, st11.high⟩, v', es ++ [st8.l.length], ?_, hB' _ _ (hset _ _), ⟨q11.1.1, ?_, ?_⟩, ?_, by rw [hd2]; exact hP', ?_, ?_, ?_, ?_, ?_, ?_⟩
        · simp only [ev0, ev1, ev2, ev3, ev4, ev5, ev6, ev7, ev8, ev9, ev10, ew, Nat.reduceEqDiff, reduceCtorEq, Nat.reduceAdd, Nat.reduceSub, Nat.reduceMul, Nat.reduceLT, Nat.reduceLeDiff, Int.reduceLT, Int.reduceLE, Int.reduceEq, Int.reduceNe, Int.reduceAdd, Int.reduceSub, Int.reduceMul, Int.reduceNeg, Int.reduceToNat]
        · dsimp only; omega
        · dsimp only; omega
        · simp only [List.length_cons] at hi ⊢; omega
        · intro e he
          dsimp only
          rcases List.mem_append.1 he with he | he
          · have := hes e he; omega
          · rw [List.mem_singleton.1 he]; omega
        · rw [List.length_append, List.length_singleton]; omega
        · dsimp only; omega
        · dsimp only; rw [hd2]; omega
        · dsimp only; omega
        · dsimp only
          rw [hd2]
          omega
    · -- behind the last command
      simp only [List.length_cons] at hi
      have hcI : ¬ (i : Int) < (r.length + 1 : Nat) := by omega
      have hlen' : (List.map nodes (List.map T.flat (a :: r))).length = r.length + 1 := by simp
      have hdn : (a :: r).drop i = [] := List.drop_of_length_le (by simp only [List.length_cons]; omega)
      rw [hdn] at b2 b4
      simp only [T.flats, List.length_nil, List.map_nil, altE] at b2 b4
      generalize hks : (List.map nodes (List.map T.flat (a :: r))) = KS at *
      simp only [ev0, ev1, ev2, ev3, ev4, ev5, ev6, ev7, ev8, ev9, ev10, ew, Nat.reduceEqDiff, reduceCtorEq, Nat.reduceAdd, Nat.reduceSub, Nat.reduceMul, Nat.reduceLT, Nat.reduceLeDiff, Int.reduceLT, Int.reduceLE, Int.reduceEq, Int.reduceNe, Int.reduceAdd, Int.reduceSub, Int.reduceMul, Int.reduceNeg, Int.reduceToNat, hlen', hcI, loop_exit, kont_gox]
      refine choose_tail hI hI3 hE hes (by omega) (by omega) (by omega) b1 (c := 8 * (a.flat.length + (T.flats r).length) + 1) (by omega) b3 (E := max a.e (altE (r.map T.e))) (by omega) h _ ?_ ?_ <;> simp only [ev0, ev1, ev2, ev3, ev4, ev5, ev6, ev7, ev8, ev9, ev10, ew, Nat.reduceEqDiff, reduceCtorEq, Nat.reduceAdd, Nat.reduceSub, Nat.reduceMul, Nat.reduceLT, Nat.reduceLeDiff, Int.reduceLT, Int.reduceLE, Int.reduceEq, Int.reduceNe, Int.reduceAdd, Int.reduceSub, Int.reduceMul, Int.reduceNeg, Int.reduceToNat]
end Go.Proofs.YthmcfphafofheaaDoor
