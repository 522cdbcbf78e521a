/- Contracts: words are put together. No statement of the seat is proved in this file. -/
import Derived.Test.YthmcfphafofheaaDoorGen1
open Go Go.Proofs
namespace Go.Proofs.YthmcfphafofheaaDoor
open Pat
set_option maxRecDepth 10000
set_option maxHeartbeats 1000000
set_option linter.unusedSimpArgs false
set_option linter.unusedVariables false
variable {gs : List Nat} {s : Nat → Addr} {σ : Hp} {K : AV → Hp → Prop}
def WordOk (gs : List Nat) (s : Nat → Addr) (t : T) : Prop := ∀ (f : Nat) (σ0 σ : Hp) (bw : Nat) (st : St) (K : AV → Hp → Prop), T.ok f true t → WS σ0 bw st σ → Inv st → st.l.length + 8 * t.flat.length ≤ 100000 → st.now + t.flat.length ≤ 100000 →
  (∀ st' σ', WS σ0 bw st' σ' → Post st st' (8 * t.flat.length - 2) 1 t.e → K (.tuple []) σ') → ACalls (env gs s) 124 [.ptr bw 3 0 0, nodes t.flat] σ K
def DoOk (gs : List Nat) (s : Nat → Addr) (t : T) : Prop := ∀ (f : Nat) (σ0 σ : Hp) (bw : Nat) (st : St) (K : AV → Hp → Prop), T.ok f false t → WS σ0 bw st σ → Inv st → st.l.length + 8 * t.flat.length ≤ 100000 → st.now + t.flat.length ≤ 100000 →
  (∀ st' σ', WS σ0 bw st' σ' → Post st st' (8 * t.flat.length - 2) 0 t.e → K (.tuple []) σ') → ACalls (env gs s) 48 [.ptr bw 3 0 0, nodes t.flat] σ K
theorem togE_snoc : ∀ (l : List Int) (x : Int), (∀ y ∈ l, 0 ≤ y) → 0 ≤ x → togE (l ++ [x]) = max (togE l) (x + (if l.length = 0 then 0 else 1))
  | [], x, _, hx => by simp [togE, maxi]; omega
  | a :: r, x, h, hx => by
    simp only [togE, List.cons_append, List.map_append, maxi_append, List.map_cons, List.map_nil, maxi, List.length_cons]
    have := maxi_nonneg (r.map (· + 1))
    rw [if_neg (by omega)]
    omega
def togI (σ0 : Hp) (bw : Nat) (st : St) (ks : List T) (n : Nat) (vs : List AV) (σ' : Hp) : Prop :=
  ∃ (i : Nat) (st' : St), vs = [.int .i64 i] ∧ WS σ0 bw st' σ' ∧ Inv st' ∧ i ≤ ks.length ∧ n = ks.length - i ∧ st.l.length ≤ st'.l.length ∧ st'.l.length + i ≤ st.l.length + 8 * (T.flats (ks.take i)).length ∧
    st'.now = st.now + (if i = 0 then 0 else if i < ks.length ∨ i = 1 then 1 else 2) ∧ st'.high = max st.high (st.now + togE ((ks.take i).map T.e))
theorem together_spec {σ0 : Hp} {bw : Nat} {st : St} (ks : List T) (op b : Int) (hk : ∀ u ∈ ks, WordOk gs s u ∧ ∃ f, T.ok f true u) (ho : op = 3 ∨ op = 4 ∨ op = 38) (hb : b = 0 ∨ b = 1) (hw : WS σ0 bw st σ) (hI : Inv st) (hl : st.l.length + 8 * (T.flats ks).length ≤ 100000) (hn : st.now + (T.flats ks).length ≤ 100000)
    (h : ∀ st' σ', WS σ0 bw st' σ' → Inv st' → st.l.length ≤ st'.l.length → st'.l.length + ks.length ≤ st.l.length + 8 * (T.flats ks).length → st'.now = st.now + (if ks.length = 0 then 0 else if ks.length = 1 then 1 else 2) → st'.high = max st.high (st.now + togE (ks.map T.e)) → K (.tuple []) σ') :
    ACalls (env gs s) 126 [.ptr bw 3 0 0, .rd 1 ((ks.map T.flat).map nodes), .int .i64 op, .int .i64 b] σ K := by
  refine A126_call rfl ?_
  unfold A126
  simp only [ev0, ev1, ev2, ev3, ev4, ev5, ev6, ev7, ev8, ev9, ev10, ew, Nat.reduceEqDiff, reduceCtorEq, Nat.reduceAdd, Nat.reduceSub, Nat.reduceMul, Nat.reduceLT, Nat.reduceLeDiff, Int.reduceLT, Int.reduceLE, Int.reduceEq, Int.reduceNe, Int.reduceAdd, Int.reduceSub, Int.reduceMul, Int.reduceNeg, Int.reduceToNat]
  have hkl : ks.length ≤ (T.flats ks).length := T.flats_len_le ks
  have hnow := hI.2
  refine go_block ?_
  refine go_loop W126_0 [0, 1, 2, 3, 10, 11] [.ptr bw 3 0 0, .rd 1 ((ks.map T.flat).map nodes), .int .i64 op, .int .i64 b, .rd 1 ((ks.map T.flat).map nodes), .int .i64 ks.length] [12] (togI σ0 bw st ks) A126_0_wr rfl ?_ ?_ ?_
  · simp only [ev0, ev1, ev2, ev3, ev4, ev5, ev6, ev7, ev8, ev9, ev10, ew, Nat.reduceEqDiff, reduceCtorEq, Nat.reduceAdd, Nat.reduceSub, Nat.reduceMul, Nat.reduceLT, Nat.reduceLeDiff, Int.reduceLT, Int.reduceLE, Int.reduceEq, Int.reduceNe, Int.reduceAdd, Int.reduceSub, Int.reduceMul, Int.reduceNeg, Int.reduceToNat]
  · refine ⟨_, _, _, Sub.refl _, FzL.refl _ _ _, 0, st, ?_, hw, hI, by omega, rfl, by omega, by simp, by simp, ?_⟩
    · simp only [ev0, ev1, ev2, ev3, ev4, ev5, ev6, ev7, ev8, ev9, ev10, ew, Nat.reduceEqDiff, reduceCtorEq, Nat.reduceAdd, Nat.reduceSub, Nat.reduceMul, Nat.reduceLT, Nat.reduceLeDiff, Int.reduceLT, Int.reduceLE, Int.reduceEq, Int.reduceNe, Int.reduceAdd, Int.reduceSub, Int.reduceMul, Int.reduceNeg, Int.reduceToNat]
    · simp only [List.take_zero, List.map_nil, togE]; omega
  · rintro n vs σ' - ⟨i, st1, rfl, w1, hI1, hi, rfl, l1, l2, n1, h1⟩
    unfold A126_0
    by_cases hc : (i : Int) < ks.length
    · obtain ⟨u, hu⟩ : ∃ u, ks[i]? = some u := ⟨ks[i]'(by omega), List.getElem?_eq_getElem _⟩
      have hum : u ∈ ks := List.mem_of_getElem? hu
      obtain ⟨huw, f, huf⟩ := hk u hum
      have htk : ks.take (i + 1) = ks.take i ++ [u] := by rw [List.take_add_one, hu]; rfl
      have hfl : (T.flats (ks.take (i + 1))).length = (T.flats (ks.take i)).length + u.flat.length := by rw [htk, T.flats_append, List.length_append]; simp [T.flats]
      have hfl2 : (T.flats (ks.take (i + 1))).length ≤ (T.flats ks).length := by
        conv => rhs; rw [← List.take_append_drop (i + 1) ks, T.flats_append, List.length_append]
        omega
      have hul := u.flat_len_pos
      have hp : Pat.part false 1 (nodes u.flat).cells 0 = some (nodes u.flat) := rfl
      have hile : i ≤ (T.flats (ks.take i)).length := by
        have := T.flats_len_le (ks.take i)
        rw [List.length_take] at this; omega
      have hte : ∀ y ∈ (ks.take i).map T.e, 0 ≤ y := fun y hy => by obtain ⟨z, _, rfl⟩ := List.mem_map.1 hy; exact z.e_nonneg
      have hsn := togE_snoc ((ks.take i).map T.e) u.e hte u.e_nonneg
      have htk2 : (ks.take (i + 1)).map T.e = (ks.take i).map T.e ++ [u.e] := by rw [htk]; simp
      rw [← htk2] at hsn
      simp only [List.length_map, List.length_take] at hsn
      have hw1 : IntKind.i64.wrap ((i : Int) + 1) = (i + 1 : Nat) := i64_id _ (by omega) (by omega)
      have hw2 : IntKind.i64.wrap ((ks.length : Int) - 1) = (ks.length : Int) - 1 := i64_id _ (by omega) (by omega)
      simp only [ev0, ev1, ev2, ev3, ev4, ev5, ev6, ev7, ev8, ev9, ev10, ew, Nat.reduceEqDiff, reduceCtorEq, Nat.reduceAdd, Nat.reduceSub, Nat.reduceMul, Nat.reduceLT, Nat.reduceLeDiff, Int.reduceLT, Int.reduceLE, Int.reduceEq, Int.reduceNe, Int.reduceAdd, Int.reduceSub, Int.reduceMul, Int.reduceNeg, Int.reduceToNat, hc]
      refine go_block ?_
      simp only [ev0, ev1, ev2, ev3, ev4, ev5, ev6, ev7, ev8, ev9, ev10, ew, Nat.reduceEqDiff, reduceCtorEq, Nat.reduceAdd, Nat.reduceSub, Nat.reduceMul, Nat.reduceLT, Nat.reduceLeDiff, Int.reduceLT, Int.reduceLE, Int.reduceEq, Int.reduceNe, Int.reduceAdd, Int.reduceSub, Int.reduceMul, Int.reduceNeg, Int.reduceToNat, hu, hp]
      refine go_callI (huw f σ0 σ' bw st1 _ huf w1 hI1 (by omega) (by split at n1 <;> omega) fun st2 σ2 w2 ⟨hI2, l3, l4, n2, h2⟩ => ?_)
      have next : ∀ st3 σ3, WS σ0 bw st3 σ3 → Inv st3 → st2.l.length ≤ st3.l.length → st3.l.length ≤ st2.l.length + 1 → st3.now = st.now + (if i + 1 < ks.length ∨ i = 0 then 1 else 2) → st3.high = st2.high → ∀ sl : Slots, sl 12 = .int .i64 i →
          LoopQ (env gs s) [12] (togI σ0 bw st ks) (ks.length - i) (kont (env gs s) 61 (bodyQ (env gs s) [] K) [.blk 0]) .normal (sl.set 12 (.int .i64 (i + 1 : Nat))) σ3 := by
        intro st3 σ3 w3 hI3 l5 l6 n3 h3 sl hsl
        refine loop_next (ks.length - (i + 1)) (by omega) ⟨i + 1, st3, ?_, w3, hI3, by omega, rfl, by omega, by omega, ?_, ?_⟩
        · simp only [ev0, ev1, ev2, ev3, ev4, ev5, ev6, ev7, ev8, ev9, ev10, ew, Nat.reduceEqDiff, reduceCtorEq, Nat.reduceAdd, Nat.reduceSub, Nat.reduceMul, Nat.reduceLT, Nat.reduceLeDiff, Int.reduceLT, Int.reduceLE, Int.reduceEq, Int.reduceNe, Int.reduceAdd, Int.reduceSub, Int.reduceMul, Int.reduceNeg, Int.reduceToNat]
        · rw [n3]; split <;> split <;> omega
        · rw [h3, h2, h1, hsn]
          split at n1 <;> split <;> omega
      have hokA : ∀ m : Int, 0 ≤ m → okA (st2.l.length + 1) ⟨op, m + 1, b, []⟩ := fun m hm => by
        refine ⟨by dsimp only; omega, fun hx => ?_, fun hx => ?_, fun _ => by dsimp only; omega, by simp⟩
        · simp only [List.mem_cons, List.not_mem_nil, or_false] at hx; omega
        · simp only [List.mem_cons, List.not_mem_nil, or_false] at hx; omega
      rcases Nat.eq_zero_or_pos i with h0 | h0
      · subst h0
        by_cases hb1 : b = 1 ∧ 1 < ks.length
        · have hb2 : (1 : Int) < ks.length := by omega
          have hw0 : IntKind.i64.wrap (0 + 1) = 1 := rfl
          simp only [ev0, ev1, ev2, ev3, ev4, ev5, ev6, ev7, ev8, ev9, ev10, ew, Nat.reduceEqDiff, reduceCtorEq, Nat.reduceAdd, Nat.reduceSub, Nat.reduceMul, Nat.reduceLT, Nat.reduceLeDiff, Int.reduceLT, Int.reduceLE, Int.reduceEq, Int.reduceNe, Int.reduceAdd, Int.reduceSub, Int.reduceMul, Int.reduceNeg, Int.reduceToNat, hb1.1, hb2, hw0]
          refine go_callI (op_post op 1 1 [] w2 hI2 (by split at n1 <;> omega) (by have := hokA 0 (by omega); rw [hb1.1] at this; exact this) fun st3 σ3 w3 ⟨hI3, l5, l6, n3, h3⟩ l7 _ => ?_)
          obtain ⟨v, hv, hset⟩ := w3.count
          have hw4 : IntKind.i64.wrap (st3.now - 0) = st3.now := by rw [i64_id _ (by omega) (by omega)]; omega
          simp only [ev0, ev1, ev2, ev3, ev4, ev5, ev6, ev7, ev8, ev9, ev10, ew, Nat.reduceEqDiff, reduceCtorEq, Nat.reduceAdd, Nat.reduceSub, Nat.reduceMul, Nat.reduceLT, Nat.reduceLeDiff, Int.reduceLT, Int.reduceLE, Int.reduceEq, Int.reduceNe, Int.reduceAdd, Int.reduceSub, Int.reduceMul, Int.reduceNeg, Int.reduceToNat, hv, wrow, part_f, avc, wsplice, List.set_cons_zero, hw4, hw1]
          refine ⟨by simp [AV.scalar], ?_⟩
          refine next ⟨st3.l, st3.now, st3.high⟩ _ (hset _ _) hI3 (by omega) (by omega) ?_ ?_ _ ?_
          · dsimp only; rw [n3, n2, n1]; simp
          · dsimp only; have := hI2.2; omega
          · simp only [ev0, ev1, ev2, ev3, ev4, ev5, ev6, ev7, ev8, ev9, ev10, ew, Nat.reduceEqDiff, reduceCtorEq, Nat.reduceAdd, Nat.reduceSub, Nat.reduceMul, Nat.reduceLT, Nat.reduceLeDiff, Int.reduceLT, Int.reduceLE, Int.reduceEq, Int.reduceNe, Int.reduceAdd, Int.reduceSub, Int.reduceMul, Int.reduceNeg, Int.reduceToNat]
        · have hlast : st2.now = st.now + (if 0 + 1 < ks.length ∨ (0 : Nat) = 0 then 1 else 2) := by rw [n2, n1]; simp
          by_cases hb3 : b = 1
          · have hb2 : ¬ (1 : Int) < ks.length := by omega
            simp only [ev0, ev1, ev2, ev3, ev4, ev5, ev6, ev7, ev8, ev9, ev10, ew, Nat.reduceEqDiff, reduceCtorEq, Nat.reduceAdd, Nat.reduceSub, Nat.reduceMul, Nat.reduceLT, Nat.reduceLeDiff, Int.reduceLT, Int.reduceLE, Int.reduceEq, Int.reduceNe, Int.reduceAdd, Int.reduceSub, Int.reduceMul, Int.reduceNeg, Int.reduceToNat, hb3, hb2, hw1]
            refine next st2 _ w2 hI2 (by omega) (by omega) hlast rfl _ ?_
            simp only [ev0, ev1, ev2, ev3, ev4, ev5, ev6, ev7, ev8, ev9, ev10, ew, Nat.reduceEqDiff, reduceCtorEq, Nat.reduceAdd, Nat.reduceSub, Nat.reduceMul, Nat.reduceLT, Nat.reduceLeDiff, Int.reduceLT, Int.reduceLE, Int.reduceEq, Int.reduceNe, Int.reduceAdd, Int.reduceSub, Int.reduceMul, Int.reduceNeg, Int.reduceToNat]
          · simp only [ev0, ev1, ev2, ev3, ev4, ev5, ev6, ev7, ev8, ev9, ev10, ew, Nat.reduceEqDiff, reduceCtorEq, Nat.reduceAdd, Nat.reduceSub, Nat.reduceMul, Nat.reduceLT, Nat.reduceLeDiff, Int.reduceLT, Int.reduceLE, Int.reduceEq, Int.reduceNe, Int.reduceAdd, Int.reduceSub, Int.reduceMul, Int.reduceNeg, Int.reduceToNat, hb3, hw1]
            refine next st2 _ w2 hI2 (by omega) (by omega) hlast rfl _ ?_
            simp only [ev0, ev1, ev2, ev3, ev4, ev5, ev6, ev7, ev8, ev9, ev10, ew, Nat.reduceEqDiff, reduceCtorEq, Nat.reduceAdd, Nat.reduceSub, Nat.reduceMul, Nat.reduceLT, Nat.reduceLeDiff, Int.reduceLT, Int.reduceLE, Int.reduceEq, Int.reduceNe, Int.reduceAdd, Int.reduceSub, Int.reduceMul, Int.reduceNeg, Int.reduceToNat]
      · have hi0 : (0 : Int) < i := by omega
        have hi1 : ((i : Int) = 0) = False := by simp; omega
        by_cases hl1 : (i : Int) < (ks.length : Int) - 1
        · have hm : (if (1 : Int) < i then (1 : Int) else i) = 1 := by split <;> omega
          have hw0 : IntKind.i64.wrap (1 + 1) = 2 := rfl
          simp only [ev0, ev1, ev2, ev3, ev4, ev5, ev6, ev7, ev8, ev9, ev10, ew, Nat.reduceEqDiff, reduceCtorEq, Nat.reduceAdd, Nat.reduceSub, Nat.reduceMul, Nat.reduceLT, Nat.reduceLeDiff, Int.reduceLT, Int.reduceLE, Int.reduceEq, Int.reduceNe, Int.reduceAdd, Int.reduceSub, Int.reduceMul, Int.reduceNeg, Int.reduceToNat, hi0, hw2, hl1, hm, hw0]
          refine go_callI (op_post op 2 b [] w2 hI2 (by rw [if_neg (by omega)] at n1; omega) (hokA 1 (by omega)) fun st3 σ3 w3 ⟨hI3, l5, l6, n3, h3⟩ l7 _ => ?_)
          obtain ⟨v, hv, hset⟩ := w3.count
          rw [if_neg (by omega), if_pos (by omega)] at n1
          have hw4 : IntKind.i64.wrap (st3.now - 1) = st3.now - 1 := by rw [i64_id _ (by omega) (by omega)]
          simp only [ev0, ev1, ev2, ev3, ev4, ev5, ev6, ev7, ev8, ev9, ev10, ew, Nat.reduceEqDiff, reduceCtorEq, Nat.reduceAdd, Nat.reduceSub, Nat.reduceMul, Nat.reduceLT, Nat.reduceLeDiff, Int.reduceLT, Int.reduceLE, Int.reduceEq, Int.reduceNe, Int.reduceAdd, Int.reduceSub, Int.reduceMul, Int.reduceNeg, Int.reduceToNat, hv, wrow, part_f, avc, wsplice, List.set_cons_zero, hw4, hw1, hm]
          refine ⟨by simp [AV.scalar], ?_⟩
          refine next ⟨st3.l, st3.now - 1, st3.high⟩ _ (hset _ _) ⟨hI3.1, by dsimp only; omega, by dsimp only; have := hI3.2; omega⟩ (by dsimp only; omega) (by dsimp only; omega) ?_ ?_ _ ?_
          · dsimp only; rw [if_pos (by omega)]; omega
          · dsimp only; have := hI2.2; omega
          · simp only [ev0, ev1, ev2, ev3, ev4, ev5, ev6, ev7, ev8, ev9, ev10, ew, Nat.reduceEqDiff, reduceCtorEq, Nat.reduceAdd, Nat.reduceSub, Nat.reduceMul, Nat.reduceLT, Nat.reduceLeDiff, Int.reduceLT, Int.reduceLE, Int.reduceEq, Int.reduceNe, Int.reduceAdd, Int.reduceSub, Int.reduceMul, Int.reduceNeg, Int.reduceToNat]
        · simp only [ev0, ev1, ev2, ev3, ev4, ev5, ev6, ev7, ev8, ev9, ev10, ew, Nat.reduceEqDiff, reduceCtorEq, Nat.reduceAdd, Nat.reduceSub, Nat.reduceMul, Nat.reduceLT, Nat.reduceLeDiff, Int.reduceLT, Int.reduceLE, Int.reduceEq, Int.reduceNe, Int.reduceAdd, Int.reduceSub, Int.reduceMul, Int.reduceNeg, Int.reduceToNat, hi0, hi1, hw2, hl1, hw1]
          refine next st2 _ w2 hI2 (by omega) (by omega) ?_ rfl _ ?_
          · rw [if_neg (by omega), if_pos (by omega)] at n1
            rw [if_neg (by omega)]; omega
          · simp only [ev0, ev1, ev2, ev3, ev4, ev5, ev6, ev7, ev8, ev9, ev10, ew, Nat.reduceEqDiff, reduceCtorEq, Nat.reduceAdd, Nat.reduceSub, Nat.reduceMul, Nat.reduceLT, Nat.reduceLeDiff, Int.reduceLT, Int.reduceLE, Int.reduceEq, Int.reduceNe, Int.reduceAdd, Int.reduceSub, Int.reduceMul, Int.reduceNeg, Int.reduceToNat]
    · have hi' : i = ks.length := by omega
      subst hi'
      simp only [ev0, ev1, ev2, ev3, ev4, ev5, ev6, ev7, ev8, ev9, ev10, ew, Nat.reduceEqDiff, reduceCtorEq, Nat.reduceAdd, Nat.reduceSub, Nat.reduceMul, Nat.reduceLT, Nat.reduceLeDiff, Int.reduceLT, Int.reduceLE, Int.reduceEq, Int.reduceNe, Int.reduceAdd, Int.reduceSub, Int.reduceMul, Int.reduceNeg, Int.reduceToNat, hc, loop_exit, kont_gox, q_end0]
      rw [List.take_length] at l2 h1
      refine Ret.here (h st1 σ' w1 hI1 l1 l2 ?_ h1)
      rw [n1]
      split
      · rfl
      · split <;> split <;> omega
end Go.Proofs.YthmcfphafofheaaDoor
