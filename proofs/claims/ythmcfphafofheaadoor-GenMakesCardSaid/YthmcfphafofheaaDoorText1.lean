/- Contracts: names, live text. No statement of the seat is proved in this file. -/
import Derived.Test.YthmcfphafofheaaDoorCore3
open Go Go.Proofs
namespace Go.Proofs.YthmcfphafofheaaDoor
open Pat
set_option maxRecDepth 10000
set_option linter.unusedSimpArgs false
set_option linter.unusedVariables false
variable {gs : List Nat} {s : Nat → Addr} {σ : Hp} {K : AV → Hp → Prop}
def byte (c : UInt8) : AV := .int .u8 c.toNat
theorem u8_eq (c d : UInt8) : ((c.toNat : Int) = d.toNat) = (c = d) := by
  rw [eq_iff_iff]
  exact ⟨fun h => UInt8.toNat_inj.1 (by omega), fun h => by rw [h]⟩
theorem u8_92 (c : UInt8) : ((c.toNat : Int) = 92) = (c = 92) := u8_eq c 92
def low (n : Int) : Int := IntKind.u8.wrap (BitVec.ofInt IntKind.u8.bits n ||| BitVec.ofInt IntKind.u8.bits 32).toNat
theorem low_fin : ∀ i : Fin 256, ((decide (97 ≤ low (i.val : Nat)) && decide (low (i.val : Nat) ≤ 122)) = lowB (UInt8.ofNat i.val)) ∧ (decide ((i.val : Int) = 95) = (UInt8.ofNat i.val == 95)) ∧ ((decide ((48 : Int) ≤ i.val) && decide ((i.val : Int) ≤ 57)) = (decide (48 ≤ UInt8.ofNat i.val) && decide (UInt8.ofNat i.val ≤ 57))) := by decide +kernel
theorem low_u8 (c : UInt8) : ((decide (97 ≤ low (c.toNat)) && decide (low (c.toNat) ≤ 122)) = lowB c) ∧ (decide ((c.toNat : Int) = 95) = (c == 95)) ∧ ((decide ((48 : Int) ≤ c.toNat) && decide ((c.toNat : Int) ≤ 57)) = (decide (48 ≤ c) && decide (c ≤ 57))) := by
  have := low_fin ⟨c.toNat, c.toNat_lt⟩
  simpa using this
theorem begins_spec (c : UInt8) (h : K (.bool (beginsB c)) σ) : ACalls (env gs s) 166 [byte c] σ K := by
  refine A166_call rfl ?_
  unfold A166
  obtain ⟨e1, e2, _⟩ := low_u8 c
  unfold beginsB at h
  rw [← e1, ← e2] at h
  unfold byte
  generalize c.toNat = n at h ⊢
  by_cases h1 : 97 ≤ low n <;> by_cases h2 : low n ≤ 122
  all_goals
    simp only [h1, h2, decide_true, decide_false, Bool.and_true, Bool.true_and, Bool.false_and, Bool.and_false, Bool.true_or, Bool.false_or] at h
    unfold low at h1 h2
    simp only [ev0, ev1, ev2, ev3, ev4, ev5, ev6, ev7, ev8, ev9, ev10, ew, Nat.reduceEqDiff, reduceCtorEq, Nat.reduceAdd, Nat.reduceSub, Nat.reduceMul, Nat.reduceLT, Nat.reduceLeDiff, Int.reduceLT, Int.reduceLE, Int.reduceEq, Int.reduceNe, Int.reduceAdd, Int.reduceSub, Int.reduceMul, Int.reduceNeg, Int.reduceToNat, byte, h1, h2, q_ret1]
    exact Ret.here h
theorem goesOn_spec (c : UInt8) (h : K (.bool (goesOnB c)) σ) : ACalls (env gs s) 167 [byte c] σ K := by
  refine A167_call rfl ?_
  unfold A167
  simp only [ev0, ev1, ev2, ev3, ev4, ev5, ev6, ev7, ev8, ev9, ev10, ew, Nat.reduceEqDiff, reduceCtorEq, Nat.reduceAdd, Nat.reduceSub, Nat.reduceMul, Nat.reduceLT, Nat.reduceLeDiff, Int.reduceLT, Int.reduceLE, Int.reduceEq, Int.reduceNe, Int.reduceAdd, Int.reduceSub, Int.reduceMul, Int.reduceNeg, Int.reduceToNat]
  refine go_callI (begins_spec c ?_)
  obtain ⟨_, _, e3⟩ := low_u8 c
  unfold goesOnB at h
  rw [← e3] at h
  cases hb : beginsB c with
  | true =>
    simp only [hb, Bool.true_or] at h
    simp only [ev0, ev1, ev2, ev3, ev4, ev5, ev6, ev7, ev8, ev9, ev10, ew, Nat.reduceEqDiff, reduceCtorEq, Nat.reduceAdd, Nat.reduceSub, Nat.reduceMul, Nat.reduceLT, Nat.reduceLeDiff, Int.reduceLT, Int.reduceLE, Int.reduceEq, Int.reduceNe, Int.reduceAdd, Int.reduceSub, Int.reduceMul, Int.reduceNeg, Int.reduceToNat, q_ret1]
    exact Ret.here h
  | false =>
    simp only [hb, Bool.false_or] at h
    simp only [ev0, ev1, ev2, ev3, ev4, ev5, ev6, ev7, ev8, ev9, ev10, ew, Nat.reduceEqDiff, reduceCtorEq, Nat.reduceAdd, Nat.reduceSub, Nat.reduceMul, Nat.reduceLT, Nat.reduceLeDiff, Int.reduceLT, Int.reduceLE, Int.reduceEq, Int.reduceNe, Int.reduceAdd, Int.reduceSub, Int.reduceMul, Int.reduceNeg, Int.reduceToNat, byte]
    generalize c.toNat = n at h ⊢
    by_cases h1 : (48 : Int) ≤ n
    · simp only [h1, decide_true, Bool.true_and] at h
      simp only [ev0, ev1, ev2, ev3, ev4, ev5, ev6, ev7, ev8, ev9, ev10, ew, Nat.reduceEqDiff, reduceCtorEq, Nat.reduceAdd, Nat.reduceSub, Nat.reduceMul, Nat.reduceLT, Nat.reduceLeDiff, Int.reduceLT, Int.reduceLE, Int.reduceEq, Int.reduceNe, Int.reduceAdd, Int.reduceSub, Int.reduceMul, Int.reduceNeg, Int.reduceToNat, h1, q_ret1]
      exact Ret.here h
    · simp only [h1, decide_false, Bool.false_and] at h
      simp only [ev0, ev1, ev2, ev3, ev4, ev5, ev6, ev7, ev8, ev9, ev10, ew, Nat.reduceEqDiff, reduceCtorEq, Nat.reduceAdd, Nat.reduceSub, Nat.reduceMul, Nat.reduceLT, Nat.reduceLeDiff, Int.reduceLT, Int.reduceLE, Int.reduceEq, Int.reduceNe, Int.reduceAdd, Int.reduceSub, Int.reduceMul, Int.reduceNeg, Int.reduceToNat, h1, q_ret1]
      exact Ret.here h
theorem name_spec (l : List UInt8) (hl : l.length ≤ 1000000000000) (h : K (.bool (nameB l)) σ) : ACalls (env gs s) 131 [.str l] σ K := by
  refine A131_call rfl ?_
  unfold A131
  cases l with
  | nil =>
    simp only [ev0, ev1, ev2, ev3, ev4, ev5, ev6, ev7, ev8, ev9, ev10, ew, Nat.reduceEqDiff, reduceCtorEq, Nat.reduceAdd, Nat.reduceSub, Nat.reduceMul, Nat.reduceLT, Nat.reduceLeDiff, Int.reduceLT, Int.reduceLE, Int.reduceEq, Int.reduceNe, Int.reduceAdd, Int.reduceSub, Int.reduceMul, Int.reduceNeg, Int.reduceToNat, q_ret1]
    exact Ret.here h
  | cons c r =>
    have hne : ((c :: r : List UInt8) = []) = False := by simp
    by_cases h20 : (20 : Int) < (c :: r : List UInt8).length
    · simp only [List.length_cons] at h20
      simp only [ev0, ev1, ev2, ev3, ev4, ev5, ev6, ev7, ev8, ev9, ev10, ew, Nat.reduceEqDiff, reduceCtorEq, Nat.reduceAdd, Nat.reduceSub, Nat.reduceMul, Nat.reduceLT, Nat.reduceLeDiff, Int.reduceLT, Int.reduceLE, Int.reduceEq, Int.reduceNe, Int.reduceAdd, Int.reduceSub, Int.reduceMul, Int.reduceNeg, Int.reduceToNat, hne, h20, q_ret1]
      have : nameB (c :: r) = false := by
        simp only [nameB, List.length_cons]
        rw [decide_eq_false (by omega)]; rfl
      rw [this] at h
      exact Ret.here h
    · simp only [List.length_cons] at h20
      simp only [ev0, ev1, ev2, ev3, ev4, ev5, ev6, ev7, ev8, ev9, ev10, ew, Nat.reduceEqDiff, reduceCtorEq, Nat.reduceAdd, Nat.reduceSub, Nat.reduceMul, Nat.reduceLT, Nat.reduceLeDiff, Int.reduceLT, Int.reduceLE, Int.reduceEq, Int.reduceNe, Int.reduceAdd, Int.reduceSub, Int.reduceMul, Int.reduceNeg, Int.reduceToNat, hne, h20]
      refine go_callI (begins_spec c ?_)
      have hd : decide ((c :: r : List UInt8).length ≤ 20) = true := decide_eq_true (by simp only [List.length_cons]; omega)
      cases hb : beginsB c with
      | false =>
        simp only [ev0, ev1, ev2, ev3, ev4, ev5, ev6, ev7, ev8, ev9, ev10, ew, Nat.reduceEqDiff, reduceCtorEq, Nat.reduceAdd, Nat.reduceSub, Nat.reduceMul, Nat.reduceLT, Nat.reduceLeDiff, Int.reduceLT, Int.reduceLE, Int.reduceEq, Int.reduceNe, Int.reduceAdd, Int.reduceSub, Int.reduceMul, Int.reduceNeg, Int.reduceToNat, hb, q_ret1]
        have : nameB (c :: r) = false := by simp only [nameB, hb, Bool.false_and, Bool.and_false]
        rw [this] at h
        exact Ret.here h
      | true =>
        have hN : nameB (c :: r) = (c :: r).all goesOnB := by simp only [nameB, hb, hd, Bool.true_and]
        rw [hN] at h
        generalize hL : (c :: r : List UInt8) = L at *
        have hlen : (r.length : Int) + 1 = L.length := by rw [← hL]; simp
        simp only [ev0, ev1, ev2, ev3, ev4, ev5, ev6, ev7, ev8, ev9, ev10, ew, Nat.reduceEqDiff, reduceCtorEq, Nat.reduceAdd, Nat.reduceSub, Nat.reduceMul, Nat.reduceLT, Nat.reduceLeDiff, Int.reduceLT, Int.reduceLE, Int.reduceEq, Int.reduceNe, Int.reduceAdd, Int.reduceSub, Int.reduceMul, Int.reduceNeg, Int.reduceToNat, hb]
        refine go_block ?_
        refine go_loop W131_0 [0, 18] [.str L, .int .i64 L.length] [19] (fun n vs σ' => ∃ i : Nat, vs = [.int .i64 i] ∧ σ' = σ ∧ i ≤ L.length ∧ n = L.length - i ∧ L.all goesOnB = (L.drop i).all goesOnB) A131_0_wr rfl ?_ ?_ ?_
        · simp only [ev0, ev1, ev2, ev3, ev4, ev5, ev6, ev7, ev8, ev9, ev10, ew, Nat.reduceEqDiff, reduceCtorEq, Nat.reduceAdd, Nat.reduceSub, Nat.reduceMul, Nat.reduceLT, Nat.reduceLeDiff, Int.reduceLT, Int.reduceLE, Int.reduceEq, Int.reduceNe, Int.reduceAdd, Int.reduceSub, Int.reduceMul, Int.reduceNeg, Int.reduceToNat]
        · refine ⟨_, _, _, Sub.refl _, FzL.refl _ _ _, 0, ?_, rfl, by omega, rfl, rfl⟩
          simp only [ev0, ev1, ev2, ev3, ev4, ev5, ev6, ev7, ev8, ev9, ev10, ew, Nat.reduceEqDiff, reduceCtorEq, Nat.reduceAdd, Nat.reduceSub, Nat.reduceMul, Nat.reduceLT, Nat.reduceLeDiff, Int.reduceLT, Int.reduceLE, Int.reduceEq, Int.reduceNe, Int.reduceAdd, Int.reduceSub, Int.reduceMul, Int.reduceNeg, Int.reduceToNat]
        · rintro n vs σ' - ⟨i, rfl, rfl, hi, rfl, hall⟩
          unfold A131_0
          by_cases hc : (i : Int) < L.length
          · obtain ⟨y, hy⟩ : ∃ y, L[i]? = some y := ⟨L[i]'(by omega), List.getElem?_eq_getElem _⟩
            have hw : IntKind.i64.wrap (i + 1) = (i + 1 : Nat) := i64_id _ (by omega) (by omega)
            have hdr : L.drop i = y :: L.drop (i + 1) := by
              rw [List.drop_eq_getElem_cons (by omega)]; congr 1; exact (List.getElem?_eq_some_iff.1 hy).2
            simp only [ev0, ev1, ev2, ev3, ev4, ev5, ev6, ev7, ev8, ev9, ev10, ew, Nat.reduceEqDiff, reduceCtorEq, Nat.reduceAdd, Nat.reduceSub, Nat.reduceMul, Nat.reduceLT, Nat.reduceLeDiff, Int.reduceLT, Int.reduceLE, Int.reduceEq, Int.reduceNe, Int.reduceAdd, Int.reduceSub, Int.reduceMul, Int.reduceNeg, Int.reduceToNat, hc]
            refine go_block ?_
            simp only [ev0, ev1, ev2, ev3, ev4, ev5, ev6, ev7, ev8, ev9, ev10, ew, Nat.reduceEqDiff, reduceCtorEq, Nat.reduceAdd, Nat.reduceSub, Nat.reduceMul, Nat.reduceLT, Nat.reduceLeDiff, Int.reduceLT, Int.reduceLE, Int.reduceEq, Int.reduceNe, Int.reduceAdd, Int.reduceSub, Int.reduceMul, Int.reduceNeg, Int.reduceToNat, hy]
            refine go_callI (goesOn_spec y ?_)
            cases hg : goesOnB y with
            | false =>
              simp only [ev0, ev1, ev2, ev3, ev4, ev5, ev6, ev7, ev8, ev9, ev10, ew, Nat.reduceEqDiff, reduceCtorEq, Nat.reduceAdd, Nat.reduceSub, Nat.reduceMul, Nat.reduceLT, Nat.reduceLeDiff, Int.reduceLT, Int.reduceLE, Int.reduceEq, Int.reduceNe, Int.reduceAdd, Int.reduceSub, Int.reduceMul, Int.reduceNeg, Int.reduceToNat, hg, loop_ret, kont_gox, q_ret1]
              rw [hall, hdr, List.all_cons, hg, Bool.false_and] at h
              exact Ret.here h
            | true =>
              simp only [ev0, ev1, ev2, ev3, ev4, ev5, ev6, ev7, ev8, ev9, ev10, ew, Nat.reduceEqDiff, reduceCtorEq, Nat.reduceAdd, Nat.reduceSub, Nat.reduceMul, Nat.reduceLT, Nat.reduceLeDiff, Int.reduceLT, Int.reduceLE, Int.reduceEq, Int.reduceNe, Int.reduceAdd, Int.reduceSub, Int.reduceMul, Int.reduceNeg, Int.reduceToNat, hg, hw]
              refine loop_next (L.length - (i + 1)) (by omega) ⟨i + 1, ?_, rfl, by omega, rfl, ?_⟩
              · simp only [ev0, ev1, ev2, ev3, ev4, ev5, ev6, ev7, ev8, ev9, ev10, ew, Nat.reduceEqDiff, reduceCtorEq, Nat.reduceAdd, Nat.reduceSub, Nat.reduceMul, Nat.reduceLT, Nat.reduceLeDiff, Int.reduceLT, Int.reduceLE, Int.reduceEq, Int.reduceNe, Int.reduceAdd, Int.reduceSub, Int.reduceMul, Int.reduceNeg, Int.reduceToNat]
              · rw [hall, hdr, List.all_cons, hg, Bool.true_and]
          · simp only [ev0, ev1, ev2, ev3, ev4, ev5, ev6, ev7, ev8, ev9, ev10, ew, Nat.reduceEqDiff, reduceCtorEq, Nat.reduceAdd, Nat.reduceSub, Nat.reduceMul, Nat.reduceLT, Nat.reduceLeDiff, Int.reduceLT, Int.reduceLE, Int.reduceEq, Int.reduceNe, Int.reduceAdd, Int.reduceSub, Int.reduceMul, Int.reduceNeg, Int.reduceToNat, hc, loop_exit, kont_gox, q_ret1]
            rw [hall, List.drop_of_length_le (by omega)] at h
            exact Ret.here h

/-! Live text -/
def Piece.av (p : Piece) : AV := .agg [byte p.c, .bool p.dead, .int .i64 p.at']
theorem piece_ok (ps : List Piece) : (∀ y ∈ ps.map Piece.av, y.cells.length = 3) ∧ (∀ y ∈ ps.map Piece.av, ∀ c ∈ y.cells, c.scalar = true) := by
  constructor
  · intro y hy
    obtain ⟨x, _, rfl⟩ := List.mem_map.1 hy
    rfl
  · intro y hy c hc
    obtain ⟨x, _, rfl⟩ := List.mem_map.1 hy
    simp only [Piece.av, AV.cells, byte, List.mem_cons, List.not_mem_nil, or_false] at hc
    rcases hc with rfl | rfl | rfl <;> rfl
def piecesI (σ : Hp) (L : List UInt8) (n : Nat) (vs : List AV) (σ' : Hp) : Prop :=
  ∃ (v : AV) (i : Nat) (out : List Piece), vs = [v, .int .i64 i] ∧ Lst σ σ' v 3 (out.map Piece.av) ∧ out.length ≤ i ∧ i ≤ L.length ∧ n = L.length - i ∧ piecesL 0 L = (out ++ (piecesL i (L.drop i)).1, (piecesL i (L.drop i)).2)
theorem pieces_spec (L : List UInt8) (hl : L.length ≤ 1000000000000) (h : K (.tuple [.rd 3 ((piecesL 0 L).1.map Piece.av), .bool (piecesL 0 L).2]) σ) : ACalls (env gs s) 165 [.str L] σ K := by
  refine A165_call rfl ?_
  unfold A165
  simp only [ev0, ev1, ev2, ev3, ev4, ev5, ev6, ev7, ev8, ev9, ev10, ew, Nat.reduceEqDiff, reduceCtorEq, Nat.reduceAdd, Nat.reduceSub, Nat.reduceMul, Nat.reduceLT, Nat.reduceLeDiff, Int.reduceLT, Int.reduceLE, Int.reduceEq, Int.reduceNe, Int.reduceAdd, Int.reduceSub, Int.reduceMul, Int.reduceNeg, Int.reduceToNat]
  refine go_block ?_
  refine go_loop W165_0 [0] [.str L] [4, 5] (piecesI σ L) A165_0_wr rfl ?_ ?_ ?_
  · simp only [ev0, ev1, ev2, ev3, ev4, ev5, ev6, ev7, ev8, ev9, ev10, ew, Nat.reduceEqDiff, reduceCtorEq, Nat.reduceAdd, Nat.reduceSub, Nat.reduceMul, Nat.reduceLT, Nat.reduceLeDiff, Int.reduceLT, Int.reduceLE, Int.reduceEq, Int.reduceNe, Int.reduceAdd, Int.reduceSub, Int.reduceMul, Int.reduceNeg, Int.reduceToNat]
  · refine ⟨_, _, _, Sub.refl _, FzL.refl _ _ _, .nils, 0, [], ?_, Lst.nil _ _, by simp, by omega, rfl, rfl⟩
    simp only [ev0, ev1, ev2, ev3, ev4, ev5, ev6, ev7, ev8, ev9, ev10, ew, Nat.reduceEqDiff, reduceCtorEq, Nat.reduceAdd, Nat.reduceSub, Nat.reduceMul, Nat.reduceLT, Nat.reduceLeDiff, Int.reduceLT, Int.reduceLE, Int.reduceEq, Int.reduceNe, Int.reduceAdd, Int.reduceSub, Int.reduceMul, Int.reduceNeg, Int.reduceToNat]
  · rintro n vs σ' - ⟨v, i, out, rfl, hv, ho, hi, rfl, hp⟩
    have fin : ∀ (v' : AV) (σ'' : Hp) (all : List Piece) (b : Bool), Lst σ σ'' v' 3 (all.map Piece.av) → piecesL 0 L = (all, b) → Ret (env gs s) K (.tuple [v', .bool b]) σ'' := by
      intro v' σ'' all b hv' he
      rw [he] at h
      exact Ret.as (v' := .tuple [.rd 3 (all.map Piece.av), .bool b]) hv'.sub (Fz.tuple ⟨hv'.fz, Fz.refl _ _ _, trivial⟩) h
    unfold A165_0
    by_cases hc : (i : Int) < L.length
    · obtain ⟨y, hy⟩ : ∃ y, L[i]? = some y := ⟨L[i]'(by omega), List.getElem?_eq_getElem _⟩
      have hw : IntKind.i64.wrap (i + 1) = (i + 1 : Nat) := i64_id _ (by omega) (by omega)
      have hw2 : IntKind.i64.wrap ((i + 1 : Nat) + 1) = (i + 2 : Nat) := i64_id _ (by omega) (by omega)
      have hdr : L.drop i = y :: L.drop (i + 1) := by
        rw [List.drop_eq_getElem_cons (by omega)]; congr 1; exact (List.getElem?_eq_some_iff.1 hy).2
      simp only [ev0, ev1, ev2, ev3, ev4, ev5, ev6, ev7, ev8, ev9, ev10, ew, Nat.reduceEqDiff, reduceCtorEq, Nat.reduceAdd, Nat.reduceSub, Nat.reduceMul, Nat.reduceLT, Nat.reduceLeDiff, Int.reduceLT, Int.reduceLE, Int.reduceEq, Int.reduceNe, Int.reduceAdd, Int.reduceSub, Int.reduceMul, Int.reduceNeg, Int.reduceToNat, hc]
      refine go_block ?_
      refine go_block ?_
      by_cases h92 : y = 92
      · simp only [ev0, ev1, ev2, ev3, ev4, ev5, ev6, ev7, ev8, ev9, ev10, ew, Nat.reduceEqDiff, reduceCtorEq, Nat.reduceAdd, Nat.reduceSub, Nat.reduceMul, Nat.reduceLT, Nat.reduceLeDiff, Int.reduceLT, Int.reduceLE, Int.reduceEq, Int.reduceNe, Int.reduceAdd, Int.reduceSub, Int.reduceMul, Int.reduceNeg, Int.reduceToNat, hy, u8_92, h92, hw]
        by_cases hend : ((i + 1 : Nat) : Int) = L.length
        · have hdr2 : L.drop (i + 1) = [] := List.drop_of_length_le (by omega)
          simp only [ev0, ev1, ev2, ev3, ev4, ev5, ev6, ev7, ev8, ev9, ev10, ew, Nat.reduceEqDiff, reduceCtorEq, Nat.reduceAdd, Nat.reduceSub, Nat.reduceMul, Nat.reduceLT, Nat.reduceLeDiff, Int.reduceLT, Int.reduceLE, Int.reduceEq, Int.reduceNe, Int.reduceAdd, Int.reduceSub, Int.reduceMul, Int.reduceNeg, Int.reduceToNat, hend, hy]
          refine ⟨by simp [partsOk, avc], ?_⟩; simp only [fillA, avc, List.take, List.drop, List.cons_append, List.nil_append, List.length_cons, List.length_nil, Nat.reduceAdd, ev0, ev1, ev2, ev3, ev4, ev5, ev6, ev7, ev8, ev9, ev10, ew, Nat.reduceEqDiff, reduceCtorEq, Nat.reduceAdd, Nat.reduceSub, Nat.reduceMul, Nat.reduceLT, Nat.reduceLeDiff, Int.reduceLT, Int.reduceLE, Int.reduceEq, Int.reduceNe, Int.reduceAdd, Int.reduceSub, Int.reduceMul, Int.reduceNeg, Int.reduceToNat]
          refine hv.app (ys := [Piece.av ⟨y, true, i⟩]) (piece_ok [_]).1 (piece_ok [_]).2 (by simp; omega) fun v' σ'' hv' => ?_
          simp only [ev0, ev1, ev2, ev3, ev4, ev5, ev6, ev7, ev8, ev9, ev10, ew, Nat.reduceEqDiff, reduceCtorEq, Nat.reduceAdd, Nat.reduceSub, Nat.reduceMul, Nat.reduceLT, Nat.reduceLeDiff, Int.reduceLT, Int.reduceLE, Int.reduceEq, Int.reduceNe, Int.reduceAdd, Int.reduceSub, Int.reduceMul, Int.reduceNeg, Int.reduceToNat, loop_ret, kont_gox, q_ret2]
          refine fin v' σ'' (out ++ [⟨y, true, i⟩]) true (by simpa using hv') ?_
          rw [hp, hdr, hdr2]; simp [piecesL, h92]
        · obtain ⟨z, hz⟩ : ∃ z, L[i + 1]? = some z := ⟨L[i + 1]'(by omega), List.getElem?_eq_getElem _⟩
          have hdr2 : L.drop (i + 1) = z :: L.drop (i + 2) := by
            rw [List.drop_eq_getElem_cons (by omega)]; congr 1; exact (List.getElem?_eq_some_iff.1 hz).2
          have hz0 : (0 : Int) ≤ (i : Int) + 1 := by omega
          simp only [ev0, ev1, ev2, ev3, ev4, ev5, ev6, ev7, ev8, ev9, ev10, ew, Nat.reduceEqDiff, reduceCtorEq, Nat.reduceAdd, Nat.reduceSub, Nat.reduceMul, Nat.reduceLT, Nat.reduceLeDiff, Int.reduceLT, Int.reduceLE, Int.reduceEq, Int.reduceNe, Int.reduceAdd, Int.reduceSub, Int.reduceMul, Int.reduceNeg, Int.reduceToNat, hend, hw, hz]
          refine ⟨by simp [partsOk, avc], ?_⟩; simp only [fillA, avc, List.take, List.drop, List.cons_append, List.nil_append, List.length_cons, List.length_nil, Nat.reduceAdd, ev0, ev1, ev2, ev3, ev4, ev5, ev6, ev7, ev8, ev9, ev10, ew, Nat.reduceEqDiff, reduceCtorEq, Nat.reduceAdd, Nat.reduceSub, Nat.reduceMul, Nat.reduceLT, Nat.reduceLeDiff, Int.reduceLT, Int.reduceLE, Int.reduceEq, Int.reduceNe, Int.reduceAdd, Int.reduceSub, Int.reduceMul, Int.reduceNeg, Int.reduceToNat]
          refine hv.app (ys := [Piece.av ⟨z, true, i⟩]) (piece_ok [_]).1 (piece_ok [_]).2 (by simp; omega) fun v' σ'' hv' => ?_
          simp only [ev0, ev1, ev2, ev3, ev4, ev5, ev6, ev7, ev8, ev9, ev10, ew, Nat.reduceEqDiff, reduceCtorEq, Nat.reduceAdd, Nat.reduceSub, Nat.reduceMul, Nat.reduceLT, Nat.reduceLeDiff, Int.reduceLT, Int.reduceLE, Int.reduceEq, Int.reduceNe, Int.reduceAdd, Int.reduceSub, Int.reduceMul, Int.reduceNeg, Int.reduceToNat, hw, hw2]
          refine loop_next (L.length - (i + 2)) (by omega) ⟨v', i + 2, out ++ [⟨z, true, i⟩], ?_, by simpa using hv', by simp; omega, by omega, rfl, ?_⟩
          · simp only [ev0, ev1, ev2, ev3, ev4, ev5, ev6, ev7, ev8, ev9, ev10, ew, Nat.reduceEqDiff, reduceCtorEq, Nat.reduceAdd, Nat.reduceSub, Nat.reduceMul, Nat.reduceLT, Nat.reduceLeDiff, Int.reduceLT, Int.reduceLE, Int.reduceEq, Int.reduceNe, Int.reduceAdd, Int.reduceSub, Int.reduceMul, Int.reduceNeg, Int.reduceToNat]
          · rw [hp, hdr, hdr2, h92]; simp [piecesL]
      · simp only [ev0, ev1, ev2, ev3, ev4, ev5, ev6, ev7, ev8, ev9, ev10, ew, Nat.reduceEqDiff, reduceCtorEq, Nat.reduceAdd, Nat.reduceSub, Nat.reduceMul, Nat.reduceLT, Nat.reduceLeDiff, Int.reduceLT, Int.reduceLE, Int.reduceEq, Int.reduceNe, Int.reduceAdd, Int.reduceSub, Int.reduceMul, Int.reduceNeg, Int.reduceToNat, hy, u8_92, h92]
        refine ⟨by simp [partsOk, avc], ?_⟩; simp only [fillA, avc, List.take, List.drop, List.cons_append, List.nil_append, List.length_cons, List.length_nil, Nat.reduceAdd, ev0, ev1, ev2, ev3, ev4, ev5, ev6, ev7, ev8, ev9, ev10, ew, Nat.reduceEqDiff, reduceCtorEq, Nat.reduceAdd, Nat.reduceSub, Nat.reduceMul, Nat.reduceLT, Nat.reduceLeDiff, Int.reduceLT, Int.reduceLE, Int.reduceEq, Int.reduceNe, Int.reduceAdd, Int.reduceSub, Int.reduceMul, Int.reduceNeg, Int.reduceToNat]
        refine hv.app (ys := [Piece.av ⟨y, false, i⟩]) (piece_ok [_]).1 (piece_ok [_]).2 (by simp; omega) fun v' σ'' hv' => ?_
        simp only [ev0, ev1, ev2, ev3, ev4, ev5, ev6, ev7, ev8, ev9, ev10, ew, Nat.reduceEqDiff, reduceCtorEq, Nat.reduceAdd, Nat.reduceSub, Nat.reduceMul, Nat.reduceLT, Nat.reduceLeDiff, Int.reduceLT, Int.reduceLE, Int.reduceEq, Int.reduceNe, Int.reduceAdd, Int.reduceSub, Int.reduceMul, Int.reduceNeg, Int.reduceToNat, hw]
        refine loop_next (L.length - (i + 1)) (by omega) ⟨v', i + 1, out ++ [⟨y, false, i⟩], ?_, by simpa using hv', by simp; omega, by omega, rfl, ?_⟩
        · simp only [ev0, ev1, ev2, ev3, ev4, ev5, ev6, ev7, ev8, ev9, ev10, ew, Nat.reduceEqDiff, reduceCtorEq, Nat.reduceAdd, Nat.reduceSub, Nat.reduceMul, Nat.reduceLT, Nat.reduceLeDiff, Int.reduceLT, Int.reduceLE, Int.reduceEq, Int.reduceNe, Int.reduceAdd, Int.reduceSub, Int.reduceMul, Int.reduceNeg, Int.reduceToNat]
        · rw [hp, hdr, piecesL_live h92]; simp
    · simp only [ev0, ev1, ev2, ev3, ev4, ev5, ev6, ev7, ev8, ev9, ev10, ew, Nat.reduceEqDiff, reduceCtorEq, Nat.reduceAdd, Nat.reduceSub, Nat.reduceMul, Nat.reduceLT, Nat.reduceLeDiff, Int.reduceLT, Int.reduceLE, Int.reduceEq, Int.reduceNe, Int.reduceAdd, Int.reduceSub, Int.reduceMul, Int.reduceNeg, Int.reduceToNat, hc, loop_exit, kont_gox, q_ret2]
      refine fin v σ' out false hv ?_
      rw [hp, List.drop_of_length_le (by omega)]; simp [piecesL]
theorem closed_spec (L : List UInt8) (hl : L.length ≤ 1000000000000) (h : K (.bool (!openB L)) σ) : ACalls (env gs s) 130 [.str L] σ K := by
  refine A130_call rfl ?_
  unfold A130
  simp only [ev0, ev1, ev2, ev3, ev4, ev5, ev6, ev7, ev8, ev9, ev10, ew, Nat.reduceEqDiff, reduceCtorEq, Nat.reduceAdd, Nat.reduceSub, Nat.reduceMul, Nat.reduceLT, Nat.reduceLeDiff, Int.reduceLT, Int.reduceLE, Int.reduceEq, Int.reduceNe, Int.reduceAdd, Int.reduceSub, Int.reduceMul, Int.reduceNeg, Int.reduceToNat]
  refine go_callI (pieces_spec L hl ?_)
  simp only [ev0, ev1, ev2, ev3, ev4, ev5, ev6, ev7, ev8, ev9, ev10, ew, Nat.reduceEqDiff, reduceCtorEq, Nat.reduceAdd, Nat.reduceSub, Nat.reduceMul, Nat.reduceLT, Nat.reduceLeDiff, Int.reduceLT, Int.reduceLE, Int.reduceEq, Int.reduceNe, Int.reduceAdd, Int.reduceSub, Int.reduceMul, Int.reduceNeg, Int.reduceToNat, q_ret1, piecesL_open]
  exact Ret.here h
end Go.Proofs.YthmcfphafofheaaDoor
