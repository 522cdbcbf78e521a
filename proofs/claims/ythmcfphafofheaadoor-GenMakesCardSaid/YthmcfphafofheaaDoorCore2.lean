/- Contracts: the children of a node; numbers looked for. No statement of the seat is proved in this file. -/
import Derived.Test.YthmcfphafofheaaDoorCore1
open Go Go.Proofs
namespace Go.Proofs.YthmcfphafofheaaDoor
open Pat
set_option maxRecDepth 10000
set_option linter.unusedSimpArgs false
set_option linter.unusedVariables false
variable {gs : List Nat} {s : Nat → Addr} {σ : Hp} {K : AV → Hp → Prop}
def kidsI (σ : Hp) (L : List Node) (c lim : Nat) (n : Nat) (vs : List AV) (σ' : Hp) : Prop :=
  ∃ (v : AV) (pos i : Nat) (out : List (List Node)), vs = [v, .int .i64 pos, .int .i64 i] ∧ Lst σ σ' v 1 (out.map nodes) ∧ out.length = i ∧ kids L = out ++ kidsGo (c - i) ((L.take lim).drop pos) ∧ 1 ≤ pos ∧ i < pos ∧ n = L.length + 1 - i ∧ pos ≤ L.length
theorem kids_spec (l : List Node) (hl : l.length ≤ 1000000000) (h : K (.rd 1 ((kids l).map nodes)) σ) : ACalls (env gs s) 61 [nodes l] σ K := by
  refine A61_call rfl ?_
  unfold A61
  simp only [ev0, ev1, ev2, ev3, ev4, ev5, ev6, ev7, ev8, ev9, ev10, ew, Nat.reduceEqDiff, reduceCtorEq, Nat.reduceAdd, Nat.reduceSub, Nat.reduceMul, Nat.reduceLT, Nat.reduceLeDiff, Int.reduceLT, Int.reduceLE, Int.reduceEq, Int.reduceNe, Int.reduceAdd, Int.reduceSub, Int.reduceMul, Int.reduceNeg, Int.reduceToNat, nodes]
  refine gob_split (fun hp => ?_) (fun hp => ?_)
  · have : l = [] := List.eq_nil_of_length_eq_zero (by omega)
    subst this
    simp only [ev0, ev1, ev2, ev3, ev4, ev5, ev6, ev7, ev8, ev9, ev10, ew, Nat.reduceEqDiff, reduceCtorEq, Nat.reduceAdd, Nat.reduceSub, Nat.reduceMul, Nat.reduceLT, Nat.reduceLeDiff, Int.reduceLT, Int.reduceLE, Int.reduceEq, Int.reduceNe, Int.reduceAdd, Int.reduceSub, Int.reduceMul, Int.reduceNeg, Int.reduceToNat, q_ret1]
    exact Ret.as (Sub.refl _) (Fz.nils _ _ _) h
  · obtain ⟨x, r, rfl⟩ : ∃ x r, l = x :: r := by cases l with
      | nil => simp at hp
      | cons x r => exact ⟨x, r, rfl⟩
    have hkL : kids (x :: r) = kidsGo x.k.toNat (((x :: r).take (if ((x :: r).length : Int) < x.size then ((x :: r).length : Int) else x.size).toNat).drop 1) := by
      rw [kids]
      congr 1
      split
      · rename_i hlt
        simp only [List.length_cons] at hlt ⊢
        rw [List.take_of_length_le (by omega), List.take_of_length_le (by simp), List.drop_one, List.tail_cons]
      · rename_i hlt
        cases hz : x.size.toNat with
        | zero => simp
        | succ m => simp
    have h0 : (x :: r)[0]? = some x := rfl
    generalize hL : x :: r = L at *
    simp only [ev0, ev1, ev2, ev3, ev4, ev5, ev6, ev7, ev8, ev9, ev10, ew, Nat.reduceEqDiff, reduceCtorEq, Nat.reduceAdd, Nat.reduceSub, Nat.reduceMul, Nat.reduceLT, Nat.reduceLeDiff, Int.reduceLT, Int.reduceLE, Int.reduceEq, Int.reduceNe, Int.reduceAdd, Int.reduceSub, Int.reduceMul, Int.reduceNeg, Int.reduceToNat, h0, nd]
    generalize hlim : (if (L.length : Int) < x.size then (L.length : Int) else x.size) = lim at *
    have hlim2 : lim ≤ L.length := by rw [← hlim]; split <;> omega
    refine go_block ?_
    refine go_loop W61_0 [0, 3] [nodes L, .int .i64 lim] [4, 5, 6] (kidsI σ L x.k.toNat lim.toNat) A61_0_wr rfl ?_ ?_ ?_
    · simp only [ev0, ev1, ev2, ev3, ev4, ev5, ev6, ev7, ev8, ev9, ev10, ew, Nat.reduceEqDiff, reduceCtorEq, Nat.reduceAdd, Nat.reduceSub, Nat.reduceMul, Nat.reduceLT, Nat.reduceLeDiff, Int.reduceLT, Int.reduceLE, Int.reduceEq, Int.reduceNe, Int.reduceAdd, Int.reduceSub, Int.reduceMul, Int.reduceNeg, Int.reduceToNat, nodes]
    · refine ⟨_, _, σ, Sub.refl _, FzL.refl _ _ _, .nils, 1, 0, [], ?_, Lst.nil _ _, rfl, ?_, by omega, by omega, rfl, by omega⟩
      · simp only [ev0, ev1, ev2, ev3, ev4, ev5, ev6, ev7, ev8, ev9, ev10, ew, Nat.reduceEqDiff, reduceCtorEq, Nat.reduceAdd, Nat.reduceSub, Nat.reduceMul, Nat.reduceLT, Nat.reduceLeDiff, Int.reduceLT, Int.reduceLE, Int.reduceEq, Int.reduceNe, Int.reduceAdd, Int.reduceSub, Int.reduceMul, Int.reduceNeg, Int.reduceToNat]
      · simpa using hkL
    · rintro n vs σ' - ⟨v, pos, i, out, rfl, hv, hi, hk, hp1, hp2, hn, hle⟩
      unfold A61_0
      have fin : kids L = out → K (.rd 1 ((kids L).map nodes)) σ → GoX (env gs s) 59 (bodyQ (env gs s) [.t 2] K) .normal [.code (.seq (.ops [⟨some 58, .mov (.t 4), none⟩, ⟨some 2, .mov (.t 58), none⟩]) .ret)] (Slots.sets (Slots.init []) [4] [v]) σ' := by
        intro h1 h2
        simp only [ev0, ev1, ev2, ev3, ev4, ev5, ev6, ev7, ev8, ev9, ev10, ew, Nat.reduceEqDiff, reduceCtorEq, Nat.reduceAdd, Nat.reduceSub, Nat.reduceMul, Nat.reduceLT, Nat.reduceLeDiff, Int.reduceLT, Int.reduceLE, Int.reduceEq, Int.reduceNe, Int.reduceAdd, Int.reduceSub, Int.reduceMul, Int.reduceNeg, Int.reduceToNat, q_ret1]
        exact Ret.as hv.sub hv.fz (h1 ▸ h2)
      by_cases hc : (i : Int) < x.k
      · by_cases hc2 : (pos : Int) < lim
        · have hpos : ∃ y, L[pos]? = some y := ⟨L[pos]'(by omega), List.getElem?_eq_getElem _⟩
          obtain ⟨y, hy⟩ := hpos
          simp only [ev0, ev1, ev2, ev3, ev4, ev5, ev6, ev7, ev8, ev9, ev10, ew, Nat.reduceEqDiff, reduceCtorEq, Nat.reduceAdd, Nat.reduceSub, Nat.reduceMul, Nat.reduceLT, Nat.reduceLeDiff, Int.reduceLT, Int.reduceLE, Int.reduceEq, Int.reduceNe, Int.reduceAdd, Int.reduceSub, Int.reduceMul, Int.reduceNeg, Int.reduceToNat, h0, nd, nodes, hc, hc2]
          refine go_block ?_
          simp only [ev0, ev1, ev2, ev3, ev4, ev5, ev6, ev7, ev8, ev9, ev10, ew, Nat.reduceEqDiff, reduceCtorEq, Nat.reduceAdd, Nat.reduceSub, Nat.reduceMul, Nat.reduceLT, Nat.reduceLeDiff, Int.reduceLT, Int.reduceLE, Int.reduceEq, Int.reduceNe, Int.reduceAdd, Int.reduceSub, Int.reduceMul, Int.reduceNeg, Int.reduceToNat, h0, nd, hy]
          have hw : IntKind.i64.wrap (lim - pos) = lim - pos := i64_id _ (by omega) (by omega)
          have hrest : (L.take lim.toNat).drop pos = y :: (L.take lim.toNat).drop (pos + 1) := by
            rw [List.drop_eq_getElem_cons (by simp; omega)]
            congr 1
            rw [List.getElem_take]
            exact (List.getElem?_eq_some_iff.1 hy).2
          have hrl : ((L.take lim.toNat).drop (pos + 1)).length = lim.toNat - (pos + 1) := by simp; omega
          obtain ⟨m, hm⟩ : ∃ m, x.k.toNat - i = m + 1 := ⟨x.k.toNat - i - 1, by omega⟩
          have hbad : y.size < 1 ∨ lim - pos < y.size → kids L = out := by
            intro hb
            rw [hk, hm, hrest, kidsGo, if_pos (by rw [hrl]; omega), List.append_nil]
          by_cases hs : y.size < 1
          · simp only [ev0, ev1, ev2, ev3, ev4, ev5, ev6, ev7, ev8, ev9, ev10, ew, Nat.reduceEqDiff, reduceCtorEq, Nat.reduceAdd, Nat.reduceSub, Nat.reduceMul, Nat.reduceLT, Nat.reduceLeDiff, Int.reduceLT, Int.reduceLE, Int.reduceEq, Int.reduceNe, Int.reduceAdd, Int.reduceSub, Int.reduceMul, Int.reduceNeg, Int.reduceToNat, hs, loop_exit, kont_gox, q_ret1]
            exact Ret.as hv.sub hv.fz (hbad (.inl hs) ▸ h)
          · by_cases hs2 : lim - pos < y.size
            · simp only [ev0, ev1, ev2, ev3, ev4, ev5, ev6, ev7, ev8, ev9, ev10, ew, Nat.reduceEqDiff, reduceCtorEq, Nat.reduceAdd, Nat.reduceSub, Nat.reduceMul, Nat.reduceLT, Nat.reduceLeDiff, Int.reduceLT, Int.reduceLE, Int.reduceEq, Int.reduceNe, Int.reduceAdd, Int.reduceSub, Int.reduceMul, Int.reduceNeg, Int.reduceToNat, hs, hw, hs2, loop_exit, kont_gox, q_ret1]
              exact Ret.as hv.sub hv.fz (hbad (.inr hs2) ▸ h)
            · have hw2 : IntKind.i64.wrap (pos + y.size) = pos + y.size := i64_id _ (by omega) (by omega)
              simp only [ev0, ev1, ev2, ev3, ev4, ev5, ev6, ev7, ev8, ev9, ev10, ew, Nat.reduceEqDiff, reduceCtorEq, Nat.reduceAdd, Nat.reduceSub, Nat.reduceMul, Nat.reduceLT, Nat.reduceLeDiff, Int.reduceLT, Int.reduceLE, Int.reduceEq, Int.reduceNe, Int.reduceAdd, Int.reduceSub, Int.reduceMul, Int.reduceNeg, Int.reduceToNat, hs, hw, hw2, hs2]
              refine ⟨by omega, go_callI (clone_fz (l := (L.drop pos).take ((pos + y.size).toNat - pos)) (by simp; omega) ?_)⟩
              have hw3 : IntKind.i64.wrap (i + 1) = (i + 1 : Nat) := i64_id _ (by omega) (by omega)
              simp only [ev0, ev1, ev2, ev3, ev4, ev5, ev6, ev7, ev8, ev9, ev10, ew, Nat.reduceEqDiff, reduceCtorEq, Nat.reduceAdd, Nat.reduceSub, Nat.reduceMul, Nat.reduceLT, Nat.reduceLeDiff, Int.reduceLT, Int.reduceLE, Int.reduceEq, Int.reduceNe, Int.reduceAdd, Int.reduceSub, Int.reduceMul, Int.reduceNeg, Int.reduceToNat, nodes, view]
              refine hv.app (ys := [nodes ((L.drop pos).take ((pos + y.size).toNat - pos))]) (by simp; rfl) (by simp [nodes, AV.cells, AV.scalar]) (by simp; omega) fun v' σ'' hv' => ?_
              simp only [ev0, ev1, ev2, ev3, ev4, ev5, ev6, ev7, ev8, ev9, ev10, ew, Nat.reduceEqDiff, reduceCtorEq, Nat.reduceAdd, Nat.reduceSub, Nat.reduceMul, Nat.reduceLT, Nat.reduceLeDiff, Int.reduceLT, Int.reduceLE, Int.reduceEq, Int.reduceNe, Int.reduceAdd, Int.reduceSub, Int.reduceMul, Int.reduceNeg, Int.reduceToNat, hw2, hw3]
              refine loop_next (L.length + 1 - (i + 1)) (by omega) ⟨v', (pos + y.size).toNat, i + 1, out ++ [(L.drop pos).take ((pos + y.size).toNat - pos)], ?_, ?_, ?_, ?_, ?_⟩
              · simp only [ev0, ev1, ev2, ev3, ev4, ev5, ev6, ev7, ev8, ev9, ev10, ew, Nat.reduceEqDiff, reduceCtorEq, Nat.reduceAdd, Nat.reduceSub, Nat.reduceMul, Nat.reduceLT, Nat.reduceLeDiff, Int.reduceLT, Int.reduceLE, Int.reduceEq, Int.reduceNe, Int.reduceAdd, Int.reduceSub, Int.reduceMul, Int.reduceNeg, Int.reduceToNat]
                simp
                omega
              · simpa using hv'
              · simp [hi]
              · rw [hk, hm, hrest, kidsGo, if_neg (by rw [hrl]; omega)]
                rw [show x.k.toNat - (i + 1) = m by omega, ← hrest, List.append_assoc, List.singleton_append, List.drop_drop, List.drop_take, List.take_take]
                rw [show min y.size.toNat (lim.toNat - pos) = (pos + y.size).toNat - pos by omega, show pos + y.size.toNat = (pos + y.size).toNat by omega]
                try simp only [List.drop_take]
              · omega
        · simp only [ev0, ev1, ev2, ev3, ev4, ev5, ev6, ev7, ev8, ev9, ev10, ew, Nat.reduceEqDiff, reduceCtorEq, Nat.reduceAdd, Nat.reduceSub, Nat.reduceMul, Nat.reduceLT, Nat.reduceLeDiff, Int.reduceLT, Int.reduceLE, Int.reduceEq, Int.reduceNe, Int.reduceAdd, Int.reduceSub, Int.reduceMul, Int.reduceNeg, Int.reduceToNat, h0, nd, nodes, hc, hc2, loop_exit, kont_gox, q_ret1]
          refine Ret.as hv.sub hv.fz ?_
          have : kids L = out := by
            rw [hk, List.drop_of_length_le (by simp; omega), kidsGo_stop]; simp
          exact this ▸ h
      · simp only [ev0, ev1, ev2, ev3, ev4, ev5, ev6, ev7, ev8, ev9, ev10, ew, Nat.reduceEqDiff, reduceCtorEq, Nat.reduceAdd, Nat.reduceSub, Nat.reduceMul, Nat.reduceLT, Nat.reduceLeDiff, Int.reduceLT, Int.reduceLE, Int.reduceEq, Int.reduceNe, Int.reduceAdd, Int.reduceSub, Int.reduceMul, Int.reduceNeg, Int.reduceToNat, h0, nd, nodes, hc, loop_exit, kont_gox, q_ret1]
        refine Ret.as hv.sub hv.fz ?_
        have : kids L = out := by
          rw [hk, show x.k.toNat - i = 0 by omega]; simp [kidsGo]
        exact this ▸ h

/-! Numbers -/
def ints (l : List Int) : AV := .rd 1 (l.map (.int .i64))
theorem index_spec (l : List Int) (x : Int) (hl : l.length ≤ 1000000000) (h : ∀ r : Int, (∃ i : Nat, r = i ∧ l[i]? = some x ∧ ∀ j < i, l[j]? ≠ some x) ∨ (r = -1 ∧ x ∉ l) → K (.int .i64 r) σ) : ACalls (env gs s) 112 [ints l, .int .i64 x] σ K := by
  refine A112_call rfl ?_
  unfold A112
  simp only [ev0, ev1, ev2, ev3, ev4, ev5, ev6, ev7, ev8, ev9, ev10, ew, Nat.reduceEqDiff, reduceCtorEq, Nat.reduceAdd, Nat.reduceSub, Nat.reduceMul, Nat.reduceLT, Nat.reduceLeDiff, Int.reduceLT, Int.reduceLE, Int.reduceEq, Int.reduceNe, Int.reduceAdd, Int.reduceSub, Int.reduceMul, Int.reduceNeg, Int.reduceToNat, ints]
  refine go_block ?_
  refine go_loop W112_0 [0, 1, 7] [ints l, .int .i64 x, .int .i64 l.length] [8] (fun n vs σ' => ∃ i : Nat, vs = [.int .i64 i] ∧ σ' = σ ∧ i ≤ l.length ∧ n = l.length - i ∧ ∀ j < i, l[j]? ≠ some x) A112_0_wr rfl ?_ ?_ ?_
  · simp only [ev0, ev1, ev2, ev3, ev4, ev5, ev6, ev7, ev8, ev9, ev10, ew, Nat.reduceEqDiff, reduceCtorEq, Nat.reduceAdd, Nat.reduceSub, Nat.reduceMul, Nat.reduceLT, Nat.reduceLeDiff, Int.reduceLT, Int.reduceLE, Int.reduceEq, Int.reduceNe, Int.reduceAdd, Int.reduceSub, Int.reduceMul, Int.reduceNeg, Int.reduceToNat, ints]
  · refine ⟨_, _, _, Sub.refl _, FzL.refl _ _ _, 0, ?_, rfl, by omega, rfl, fun j hj => by omega⟩
    simp only [ev0, ev1, ev2, ev3, ev4, ev5, ev6, ev7, ev8, ev9, ev10, ew, Nat.reduceEqDiff, reduceCtorEq, Nat.reduceAdd, Nat.reduceSub, Nat.reduceMul, Nat.reduceLT, Nat.reduceLeDiff, Int.reduceLT, Int.reduceLE, Int.reduceEq, Int.reduceNe, Int.reduceAdd, Int.reduceSub, Int.reduceMul, Int.reduceNeg, Int.reduceToNat]
  · rintro n vs σ' - ⟨i, rfl, rfl, hi, rfl, hj⟩
    unfold A112_0
    by_cases hc : (i : Int) < l.length
    · obtain ⟨y, hy⟩ : ∃ y, l[i]? = some y := ⟨l[i]'(by omega), List.getElem?_eq_getElem _⟩
      have hw : IntKind.i64.wrap (i + 1) = (i + 1 : Nat) := i64_id _ (by omega) (by omega)
      have hp : ∀ z : Int, Pat.part false 1 (AV.int .i64 z).cells 0 = some (.int .i64 z) := fun _ => rfl
      simp only [ev0, ev1, ev2, ev3, ev4, ev5, ev6, ev7, ev8, ev9, ev10, ew, Nat.reduceEqDiff, reduceCtorEq, Nat.reduceAdd, Nat.reduceSub, Nat.reduceMul, Nat.reduceLT, Nat.reduceLeDiff, Int.reduceLT, Int.reduceLE, Int.reduceEq, Int.reduceNe, Int.reduceAdd, Int.reduceSub, Int.reduceMul, Int.reduceNeg, Int.reduceToNat, hc]
      refine go_block ?_
      by_cases hxy : x = y
      · simp only [ev0, ev1, ev2, ev3, ev4, ev5, ev6, ev7, ev8, ev9, ev10, ew, Nat.reduceEqDiff, reduceCtorEq, Nat.reduceAdd, Nat.reduceSub, Nat.reduceMul, Nat.reduceLT, Nat.reduceLeDiff, Int.reduceLT, Int.reduceLE, Int.reduceEq, Int.reduceNe, Int.reduceAdd, Int.reduceSub, Int.reduceMul, Int.reduceNeg, Int.reduceToNat, ints, hy, hp, hxy, loop_ret, kont_gox, q_ret1]
        exact Ret.here (h _ (.inl ⟨i, rfl, hxy ▸ hy, hj⟩))
      · simp only [ev0, ev1, ev2, ev3, ev4, ev5, ev6, ev7, ev8, ev9, ev10, ew, Nat.reduceEqDiff, reduceCtorEq, Nat.reduceAdd, Nat.reduceSub, Nat.reduceMul, Nat.reduceLT, Nat.reduceLeDiff, Int.reduceLT, Int.reduceLE, Int.reduceEq, Int.reduceNe, Int.reduceAdd, Int.reduceSub, Int.reduceMul, Int.reduceNeg, Int.reduceToNat, ints, hy, hp, hxy, hw]
        refine loop_next (l.length - (i + 1)) (by omega) ⟨i + 1, ?_, rfl, by omega, rfl, fun j hj' => ?_⟩
        · simp only [ev0, ev1, ev2, ev3, ev4, ev5, ev6, ev7, ev8, ev9, ev10, ew, Nat.reduceEqDiff, reduceCtorEq, Nat.reduceAdd, Nat.reduceSub, Nat.reduceMul, Nat.reduceLT, Nat.reduceLeDiff, Int.reduceLT, Int.reduceLE, Int.reduceEq, Int.reduceNe, Int.reduceAdd, Int.reduceSub, Int.reduceMul, Int.reduceNeg, Int.reduceToNat]
        · by_cases hji : j < i
          · exact hj j hji
          · have : j = i := by omega
            subst this
            rw [hy]; simp; exact fun h => hxy h.symm
    · simp only [ev0, ev1, ev2, ev3, ev4, ev5, ev6, ev7, ev8, ev9, ev10, ew, Nat.reduceEqDiff, reduceCtorEq, Nat.reduceAdd, Nat.reduceSub, Nat.reduceMul, Nat.reduceLT, Nat.reduceLeDiff, Int.reduceLT, Int.reduceLE, Int.reduceEq, Int.reduceNe, Int.reduceAdd, Int.reduceSub, Int.reduceMul, Int.reduceNeg, Int.reduceToNat, hc, loop_exit, kont_gox, q_ret1]
      refine Ret.here (h _ (.inr ⟨rfl, fun hm => ?_⟩))
      obtain ⟨j, hj'⟩ := List.getElem?_of_mem hm
      exact hj j (by have := (List.getElem?_eq_some_iff.1 hj').1; omega) hj'
theorem contains_spec (l : List Int) (x : Int) (hl : l.length ≤ 1000000000) (h : K (.bool (decide (x ∈ l))) σ) : ACalls (env gs s) 65 [ints l, .int .i64 x] σ K := by
  refine A65_call rfl ?_
  unfold A65
  simp only [ev0, ev1, ev2, ev3, ev4, ev5, ev6, ev7, ev8, ev9, ev10, ew, Nat.reduceEqDiff, reduceCtorEq, Nat.reduceAdd, Nat.reduceSub, Nat.reduceMul, Nat.reduceLT, Nat.reduceLeDiff, Int.reduceLT, Int.reduceLE, Int.reduceEq, Int.reduceNe, Int.reduceAdd, Int.reduceSub, Int.reduceMul, Int.reduceNeg, Int.reduceToNat]
  refine go_callI (index_spec l x hl fun r hr => ?_)
  have hd : decide (0 ≤ r) = decide (x ∈ l) := by
    rw [decide_eq_decide]
    rcases hr with ⟨i, rfl, hi, _⟩ | ⟨rfl, hm⟩
    · exact ⟨fun _ => List.mem_of_getElem? hi, fun _ => by omega⟩
    · exact ⟨fun h => by omega, fun h => absurd h hm⟩
  simp only [ev0, ev1, ev2, ev3, ev4, ev5, ev6, ev7, ev8, ev9, ev10, ew, Nat.reduceEqDiff, reduceCtorEq, Nat.reduceAdd, Nat.reduceSub, Nat.reduceMul, Nat.reduceLT, Nat.reduceLeDiff, Int.reduceLT, Int.reduceLE, Int.reduceEq, Int.reduceNe, Int.reduceAdd, Int.reduceSub, Int.reduceMul, Int.reduceNeg, Int.reduceToNat, q_ret1, hd]
  exact Ret.here h
theorem named_spec (k : Int) (h : K (.bool (decide (k ∈ [2, 22, 29, 31, 35]))) σ) : ACalls (env gs s) 132 [.int .i64 k] σ K := by
  refine A132_call rfl ?_
  unfold A132
  simp only [ev0, ev1, ev2, ev3, ev4, ev5, ev6, ev7, ev8, ev9, ev10, ew, Nat.reduceEqDiff, reduceCtorEq, Nat.reduceAdd, Nat.reduceSub, Nat.reduceMul, Nat.reduceLT, Nat.reduceLeDiff, Int.reduceLT, Int.reduceLE, Int.reduceEq, Int.reduceNe, Int.reduceAdd, Int.reduceSub, Int.reduceMul, Int.reduceNeg, Int.reduceToNat]
  refine blit_row rfl (by simp [AV.one]) ?_
  simp only [ev0, ev1, ev2, ev3, ev4, ev5, ev6, ev7, ev8, ev9, ev10, ew, Nat.reduceEqDiff, reduceCtorEq, Nat.reduceAdd, Nat.reduceSub, Nat.reduceMul, Nat.reduceLT, Nat.reduceLeDiff, Int.reduceLT, Int.reduceLE, Int.reduceEq, Int.reduceNe, Int.reduceAdd, Int.reduceSub, Int.reduceMul, Int.reduceNeg, Int.reduceToNat]
  refine go_callI (contains_spec [2, 22, 29, 31, 35] k (by simp) ?_)
  simp only [ev0, ev1, ev2, ev3, ev4, ev5, ev6, ev7, ev8, ev9, ev10, ew, Nat.reduceEqDiff, reduceCtorEq, Nat.reduceAdd, Nat.reduceSub, Nat.reduceMul, Nat.reduceLT, Nat.reduceLeDiff, Int.reduceLT, Int.reduceLE, Int.reduceEq, Int.reduceNe, Int.reduceAdd, Int.reduceSub, Int.reduceMul, Int.reduceNeg, Int.reduceToNat, q_ret1]
  exact Ret.here h
theorem command_spec (k : Int) (h : K (.bool (decide (20 ≤ k ∧ k ≤ 37))) σ) : ACalls (env gs s) 90 [.int .i64 k] σ K := by
  refine A90_call rfl ?_
  unfold A90
  by_cases h1 : (20 : Int) ≤ k
  · simp only [ev0, ev1, ev2, ev3, ev4, ev5, ev6, ev7, ev8, ev9, ev10, ew, Nat.reduceEqDiff, reduceCtorEq, Nat.reduceAdd, Nat.reduceSub, Nat.reduceMul, Nat.reduceLT, Nat.reduceLeDiff, Int.reduceLT, Int.reduceLE, Int.reduceEq, Int.reduceNe, Int.reduceAdd, Int.reduceSub, Int.reduceMul, Int.reduceNeg, Int.reduceToNat, h1, q_ret1]
    simp only [h1, true_and] at h
    exact Ret.here h
  · simp only [ev0, ev1, ev2, ev3, ev4, ev5, ev6, ev7, ev8, ev9, ev10, ew, Nat.reduceEqDiff, reduceCtorEq, Nat.reduceAdd, Nat.reduceSub, Nat.reduceMul, Nat.reduceLT, Nat.reduceLeDiff, Int.reduceLT, Int.reduceLE, Int.reduceEq, Int.reduceNe, Int.reduceAdd, Int.reduceSub, Int.reduceMul, Int.reduceNeg, Int.reduceToNat, h1, q_ret1]
    simp only [h1, false_and, decide_false] at h
    exact Ret.here h
theorem word_spec (k : Int) (h : K (.bool (decide (1 ≤ k ∧ k ≤ 12))) σ) : ACalls (env gs s) 89 [.int .i64 k] σ K := by
  refine A89_call rfl ?_
  unfold A89
  by_cases h1 : (1 : Int) ≤ k
  · simp only [ev0, ev1, ev2, ev3, ev4, ev5, ev6, ev7, ev8, ev9, ev10, ew, Nat.reduceEqDiff, reduceCtorEq, Nat.reduceAdd, Nat.reduceSub, Nat.reduceMul, Nat.reduceLT, Nat.reduceLeDiff, Int.reduceLT, Int.reduceLE, Int.reduceEq, Int.reduceNe, Int.reduceAdd, Int.reduceSub, Int.reduceMul, Int.reduceNeg, Int.reduceToNat, h1, q_ret1]
    simp only [h1, true_and] at h
    exact Ret.here h
  · simp only [ev0, ev1, ev2, ev3, ev4, ev5, ev6, ev7, ev8, ev9, ev10, ew, Nat.reduceEqDiff, reduceCtorEq, Nat.reduceAdd, Nat.reduceSub, Nat.reduceMul, Nat.reduceLT, Nat.reduceLeDiff, Int.reduceLT, Int.reduceLE, Int.reduceEq, Int.reduceNe, Int.reduceAdd, Int.reduceSub, Int.reduceMul, Int.reduceNeg, Int.reduceToNat, h1, q_ret1]
    simp only [h1, false_and, decide_false] at h
    exact Ret.here h
end Go.Proofs.YthmcfphafofheaaDoor
