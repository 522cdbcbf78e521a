/- Contracts: what a program may be. No statement of the seat is proved in this file. -/
import Derived.Test.YthmcfphafofheaaDoorCore4
open Go Go.Proofs
namespace Go.Proofs.YthmcfphafofheaaDoor
open Pat
set_option maxRecDepth 10000
set_option linter.unusedSimpArgs false
set_option linter.unusedVariables false
variable {gs : List Nat} {s : Nat → Addr} {σ : Hp} {K : AV → Hp → Prop}
def lookI1 (σ1 : Hp) (l : List Node) (x : Node) (i e' : Nat) (n : Nat) (vs : List AV) (σ' : Hp) : Prop :=
  ∃ pos k : Nat, vs = [.int .i64 pos, .int .i64 k] ∧ σ' = σ1 ∧ n = e' - pos ∧ i + 1 + k ≤ pos ∧ pos ≤ e' ∧ few x.k.toNat ((l.take e').drop (i + 1)) = few (x.k.toNat - k) ((l.take e').drop pos)
def lookI2 (σ1 : Hp) (f : Nat) (l : List Node) (x : Node) (i e' : Nat) (n : Nat) (vs : List AV) (σ' : Hp) : Prop :=
  ∃ pos k : Nat, vs = [.int .i64 pos, .int .i64 k] ∧ σ' = σ1 ∧ n = e' - pos ∧ i + 1 + k ≤ pos ∧ pos ≤ e' ∧ k ≤ x.k.toNat ∧ few (x.k.toNat - k) ((l.take e').drop pos) = false ∧
    kidsE (lookE f) x.kind x.k x.k.toNat 0 ((l.take e').drop (i + 1)) (i + 1) = kidsE (lookE f) x.kind x.k (x.k.toNat - k) k ((l.take e').drop pos) pos
theorem look_end (hg2 : 4 ∈ gs) (l : List Node) (hl : l.length ≤ 1000000) (f i e' : Nat) (x : Node) (b : Nat) (hf : f ≤ 30) (hxk : x.k ≤ 9223372036854775807) (hie : i < e') (hel : e' ≤ l.length) (hb : σ b = none)
    (ih : ∀ f', f' < f → ∀ (i e : Nat) (word last : Bool) (K : AV → Hp → Prop) (σ : Hp), f' ≤ 30 → i < e → e ≤ l.length →
      K (errOf (lookE f' ((l.take e).drop i) i word last)) σ → ACalls (env gs s) 52 [nodes l, .int .i64 i, .int .i64 e, .int .i64 (31 - f' : Nat), .bool word, .bool last] σ K)
    (sl : Slots) (h0 : sl 0 = nodes l) (h1 : sl 1 = .int .i64 i) (h2 : sl 2 = .int .i64 e') (h3 : sl 3 = .int .i64 (31 - f : Nat)) (h13 : sl 13 = .ptr b 5 0 0) (hfew : few x.k.toNat ((l.take e').drop (i + 1)) = false)
    (h : K (errOf (match f with | 0 => some (i, true) | f + 1 => kidsE (lookE f) x.kind x.k x.k.toNat 0 ((l.take e').drop (i + 1)) (i + 1))) σ) :
    GoC (env gs s) 167 (bodyQ (env gs s) [.t 12] K) C52_3 [] sl (σ.upd b (.row 5 [x.av])) := by
  unfold C52_3
  cases f with
  | zero =>
    have hd : ((30 : Int) < ((31 : Nat) : Int)) = True := by simp
    simp only [ev0, ev1, ev2, ev3, ev4, ev5, ev6, ev7, ev8, ev9, ev10, ew, Nat.reduceEqDiff, reduceCtorEq, Nat.reduceAdd, Nat.reduceSub, Nat.reduceMul, Nat.reduceLT, Nat.reduceLeDiff, Int.reduceLT, Int.reduceLE, Int.reduceEq, Int.reduceNe, Int.reduceAdd, Int.reduceSub, Int.reduceMul, Int.reduceNeg, Int.reduceToNat, h0, h1, h2, h3, h13, env_sent hg2, Nat.sub_zero, hd]
    refine go_callI (at_spec i (.iface 226 (.sptr 4)) rfl ?_)
    simp only [ev0, ev1, ev2, ev3, ev4, ev5, ev6, ev7, ev8, ev9, ev10, ew, Nat.reduceEqDiff, reduceCtorEq, Nat.reduceAdd, Nat.reduceSub, Nat.reduceMul, Nat.reduceLT, Nat.reduceLeDiff, Int.reduceLT, Int.reduceLE, Int.reduceEq, Int.reduceNe, Int.reduceAdd, Int.reduceSub, Int.reduceMul, Int.reduceNeg, Int.reduceToNat, q_ret1]
    exact Ret.less (Sub.upd hb) h
  | succ f =>
    have hd : ¬ (30 : Int) < ((31 - (f + 1) : Nat) : Int) := by omega
    have hw1 : IntKind.i64.wrap ((i : Int) + 1) = (i + 1 : Nat) := i64_id _ (by omega) (by omega)
    have hw2 : IntKind.i64.wrap (((31 - (f + 1) : Nat) : Int) + 1) = (31 - f : Nat) := by rw [i64_id _ (by omega) (by omega)]; omega
    simp only [ev0, ev1, ev2, ev3, ev4, ev5, ev6, ev7, ev8, ev9, ev10, ew, Nat.reduceEqDiff, reduceCtorEq, Nat.reduceAdd, Nat.reduceSub, Nat.reduceMul, Nat.reduceLT, Nat.reduceLeDiff, Int.reduceLT, Int.reduceLE, Int.reduceEq, Int.reduceNe, Int.reduceAdd, Int.reduceSub, Int.reduceMul, Int.reduceNeg, Int.reduceToNat, h0, h1, h2, h3, h13, hd, upd_same, nd, hw1, C52_6, C52_4]
    refine go_block ?_
    refine go_loop W52_1 [0, 2, 3, 13, 138] [nodes l, .int .i64 e', .int .i64 (31 - (f + 1) : Nat), .ptr b 5 0 0, .int .i64 x.k] [15, 139] (lookI2 (σ.upd b (.row 5 [x.av])) f l x i e') A52_1_wr rfl ?_ ?_ ?_
    · simp only [ev0, ev1, ev2, ev3, ev4, ev5, ev6, ev7, ev8, ev9, ev10, ew, Nat.reduceEqDiff, reduceCtorEq, Nat.reduceAdd, Nat.reduceSub, Nat.reduceMul, Nat.reduceLT, Nat.reduceLeDiff, Int.reduceLT, Int.reduceLE, Int.reduceEq, Int.reduceNe, Int.reduceAdd, Int.reduceSub, Int.reduceMul, Int.reduceNeg, Int.reduceToNat, h0, h1, h2, h3, h13]
    · refine ⟨e' - (i + 1), _, _, Sub.refl _, FzL.refl _ _ _, i + 1, 0, ?_, rfl, rfl, by omega, by omega, by omega, hfew, rfl⟩
      simp only [ev0, ev1, ev2, ev3, ev4, ev5, ev6, ev7, ev8, ev9, ev10, ew, Nat.reduceEqDiff, reduceCtorEq, Nat.reduceAdd, Nat.reduceSub, Nat.reduceMul, Nat.reduceLT, Nat.reduceLeDiff, Int.reduceLT, Int.reduceLE, Int.reduceEq, Int.reduceNe, Int.reduceAdd, Int.reduceSub, Int.reduceMul, Int.reduceNeg, Int.reduceToNat]
    · rintro n vs σ' - ⟨pos, k, rfl, rfl, rfl, hp1, hp2, hkx, hfw, hE⟩
      unfold A52_1
      have h : K (errOf (kidsE (lookE f) x.kind x.k x.k.toNat 0 ((l.take e').drop (i + 1)) (i + 1))) σ := h
      rw [hE] at h
      by_cases hk : (k : Int) < x.k
      · obtain ⟨m, hm⟩ : ∃ m, x.k.toNat - k = m + 1 := ⟨x.k.toNat - k - 1, by omega⟩
        rw [hm] at hfw h
        have hne := few_len _ _ hfw
        have hpe : pos < e' := by
          rcases Nat.lt_or_ge pos e' with hlt | hge
          · exact hlt
          · exact absurd (List.drop_of_length_le (by simp; omega)) hne
        obtain ⟨y, hy⟩ : ∃ y, l[pos]? = some y := ⟨l[pos]'(by omega), List.getElem?_eq_getElem _⟩
        have hseg : (l.take e').drop pos = y :: (l.take e').drop (pos + 1) := by
          rw [List.drop_eq_getElem_cons (by simp; omega)]
          congr 1
          rw [List.getElem_take]
          exact (List.getElem?_eq_some_iff.1 hy).2
        have hrl : ((l.take e').drop (pos + 1)).length = e' - (pos + 1) := by simp; omega
        have hfl : ∀ (n : Nat) (r : List Node), few n r = false → n ≤ r.length ∨ True := fun _ _ _ => .inr trivial
        have hw3 : IntKind.i64.wrap (x.k - 1) = x.k - 1 := i64_id _ (by omega) (by omega)
        have hw4 : IntKind.i64.wrap ((k : Int) + 1) = (k + 1 : Nat) := i64_id _ (by omega) (by omega)
        rw [kidsE_succ] at h
        simp only [ev0, ev1, ev2, ev3, ev4, ev5, ev6, ev7, ev8, ev9, ev10, ew, Nat.reduceEqDiff, reduceCtorEq, Nat.reduceAdd, Nat.reduceSub, Nat.reduceMul, Nat.reduceLT, Nat.reduceLeDiff, Int.reduceLT, Int.reduceLE, Int.reduceEq, Int.reduceNe, Int.reduceAdd, Int.reduceSub, Int.reduceMul, Int.reduceNeg, Int.reduceToNat, hk]
        refine go_block ?_
        simp only [ev0, ev1, ev2, ev3, ev4, ev5, ev6, ev7, ev8, ev9, ev10, ew, Nat.reduceEqDiff, reduceCtorEq, Nat.reduceAdd, Nat.reduceSub, Nat.reduceMul, Nat.reduceLT, Nat.reduceLeDiff, Int.reduceLT, Int.reduceLE, Int.reduceEq, Int.reduceNe, Int.reduceAdd, Int.reduceSub, Int.reduceMul, Int.reduceNeg, Int.reduceToNat]
        refine DT52_21_go ?_
        unfold DT52_21
        simp only [ev0, ev1, ev2, ev3, ev4, ev5, ev6, ev7, ev8, ev9, ev10, ew, Nat.reduceEqDiff, reduceCtorEq, Nat.reduceAdd, Nat.reduceSub, Nat.reduceMul, Nat.reduceLT, Nat.reduceLeDiff, Int.reduceLT, Int.reduceLE, Int.reduceEq, Int.reduceNe, Int.reduceAdd, Int.reduceSub, Int.reduceMul, Int.reduceNeg, Int.reduceToNat, upd_same, nd, nd0, hw2, hw3]
        constructor
        all_goals
          refine go_callI (takes_spec x k ⟨by omega, hxk⟩ ?_)
          simp only [ev0, ev1, ev2, ev3, ev4, ev5, ev6, ev7, ev8, ev9, ev10, ew, Nat.reduceEqDiff, reduceCtorEq, Nat.reduceAdd, Nat.reduceSub, Nat.reduceMul, Nat.reduceLT, Nat.reduceLeDiff, Int.reduceLT, Int.reduceLE, Int.reduceEq, Int.reduceNe, Int.reduceAdd, Int.reduceSub, Int.reduceMul, Int.reduceNeg, Int.reduceToNat, upd_same, nd, nd0, hw2, hw3]
          refine go_callI (ih f (by omega) pos e' _ _ _ _ (by omega) hpe hel ?_)
          cases hL : lookE f ((l.take e').drop pos) pos (takesB x.kind k x.k) (decide ((k : Int) = x.k - 1)) with
          | some er =>
            rw [hL] at h
            simp only [errOf] at h
            simp only [ev0, ev1, ev2, ev3, ev4, ev5, ev6, ev7, ev8, ev9, ev10, ew, Nat.reduceEqDiff, reduceCtorEq, Nat.reduceAdd, Nat.reduceSub, Nat.reduceMul, Nat.reduceLT, Nat.reduceLeDiff, Int.reduceLT, Int.reduceLE, Int.reduceEq, Int.reduceNe, Int.reduceAdd, Int.reduceSub, Int.reduceMul, Int.reduceNeg, Int.reduceToNat, errOf, errAV, loop_ret, kont_gox, q_ret1]
            exact Ret.less (Sub.upd hb) h
          | none =>
            rw [hL] at h
            rw [hseg] at hL h hfw
            obtain ⟨z1, z2⟩ := look_size hL
            rw [hrl] at z2
            have hw5 : IntKind.i64.wrap ((pos : Int) + y.size) = (pos + y.size.toNat : Nat) := by rw [i64_id _ (by omega) (by omega)]; omega
            have hdd : ((l.take e').drop (pos + 1)).drop (y.size.toNat - 1) = (l.take e').drop (pos + y.size.toNat) := by
              rw [List.drop_drop]; congr 1; omega
            have hdr : (y :: (l.take e').drop (pos + 1)).drop y.size.toNat = (l.take e').drop (pos + y.size.toNat) := by
              rw [← hdd]
              obtain ⟨q, hq⟩ : ∃ q, y.size.toNat = q + 1 := ⟨y.size.toNat - 1, by omega⟩
              rw [hq]; rfl
            simp only at h
            rw [hdr] at h
            rw [few, if_neg (by rw [hrl]; omega), hdr] at hfw
            simp only [ev0, ev1, ev2, ev3, ev4, ev5, ev6, ev7, ev8, ev9, ev10, ew, Nat.reduceEqDiff, reduceCtorEq, Nat.reduceAdd, Nat.reduceSub, Nat.reduceMul, Nat.reduceLT, Nat.reduceLeDiff, Int.reduceLT, Int.reduceLE, Int.reduceEq, Int.reduceNe, Int.reduceAdd, Int.reduceSub, Int.reduceMul, Int.reduceNeg, Int.reduceToNat, errOf, nodes, hy, nd, hw4, hw5]
            refine loop_next (e' - (pos + y.size.toNat)) (by omega) ⟨pos + y.size.toNat, k + 1, ?_, rfl, rfl, by omega, by omega, by omega, ?_, ?_⟩
            · simp only [ev0, ev1, ev2, ev3, ev4, ev5, ev6, ev7, ev8, ev9, ev10, ew, Nat.reduceEqDiff, reduceCtorEq, Nat.reduceAdd, Nat.reduceSub, Nat.reduceMul, Nat.reduceLT, Nat.reduceLeDiff, Int.reduceLT, Int.reduceLE, Int.reduceEq, Int.reduceNe, Int.reduceAdd, Int.reduceSub, Int.reduceMul, Int.reduceNeg, Int.reduceToNat]
            · rw [show x.k.toNat - (k + 1) = m by omega]; exact hfw
            · rw [hE, hm, kidsE_succ, hseg, hL]
              simp only
              rw [hdr, show x.k.toNat - (k + 1) = m by omega]
              congr 1
              omega
      · have h0 : x.k.toNat - k = 0 := by omega
        rw [h0] at h
        simp only [ev0, ev1, ev2, ev3, ev4, ev5, ev6, ev7, ev8, ev9, ev10, ew, Nat.reduceEqDiff, reduceCtorEq, Nat.reduceAdd, Nat.reduceSub, Nat.reduceMul, Nat.reduceLT, Nat.reduceLeDiff, Int.reduceLT, Int.reduceLE, Int.reduceEq, Int.reduceNe, Int.reduceAdd, Int.reduceSub, Int.reduceMul, Int.reduceNeg, Int.reduceToNat, hk, loop_exit, kont_gox]
        unfold C52_5
        simp only [ev0, ev1, ev2, ev3, ev4, ev5, ev6, ev7, ev8, ev9, ev10, ew, Nat.reduceEqDiff, reduceCtorEq, Nat.reduceAdd, Nat.reduceSub, Nat.reduceMul, Nat.reduceLT, Nat.reduceLeDiff, Int.reduceLT, Int.reduceLE, Int.reduceEq, Int.reduceNe, Int.reduceAdd, Int.reduceSub, Int.reduceMul, Int.reduceNeg, Int.reduceToNat, q_ret1]
        exact Ret.less (Sub.upd hb) h
theorem look_tail (hg1 : 3 ∈ gs) (hg2 : 4 ∈ gs) (l : List Node) (hl : l.length ≤ 1000000) (f i e' : Nat) (x : Node) (b : Nat) (hf : f ≤ 30) (hxk : x.k ≤ 9223372036854775807) (hie : i < e') (hel : e' ≤ l.length) (hb : σ b = none)
    (ih : ∀ f', f' < f → ∀ (i e : Nat) (word last : Bool) (K : AV → Hp → Prop) (σ : Hp), f' ≤ 30 → i < e → e ≤ l.length →
      K (errOf (lookE f' ((l.take e).drop i) i word last)) σ → ACalls (env gs s) 52 [nodes l, .int .i64 i, .int .i64 e, .int .i64 (31 - f' : Nat), .bool word, .bool last] σ K)
    (sl : Slots) (h0 : sl 0 = nodes l) (h1 : sl 1 = .int .i64 i) (h2 : sl 2 = .int .i64 e') (h3 : sl 3 = .int .i64 (31 - f : Nat)) (h13 : sl 13 = .ptr b 5 0 0) (h15 : sl 15 = .int .i64 (i + 1 : Nat)) (h16 : sl 16 = .int .i64 0)
    (h : K (errOf (if few x.k.toNat ((l.take e').drop (i + 1)) = true then some (i, false) else match f with | 0 => some (i, true) | f + 1 => kidsE (lookE f) x.kind x.k x.k.toNat 0 ((l.take e').drop (i + 1)) (i + 1))) σ) :
    GoC (env gs s) 167 (bodyQ (env gs s) [.t 12] K) C52_2 [] sl (σ.upd b (.row 5 [x.av])) := by
  unfold C52_2
  simp only [ev0, ev1, ev2, ev3, ev4, ev5, ev6, ev7, ev8, ev9, ev10, ew, Nat.reduceEqDiff, reduceCtorEq, Nat.reduceAdd, Nat.reduceSub, Nat.reduceMul, Nat.reduceLT, Nat.reduceLeDiff, Int.reduceLT, Int.reduceLE, Int.reduceEq, Int.reduceNe, Int.reduceAdd, Int.reduceSub, Int.reduceMul, Int.reduceNeg, Int.reduceToNat]
  refine go_block ?_
  refine go_loop W52_0 [0, 1, 2, 3, 13] [nodes l, .int .i64 i, .int .i64 e', .int .i64 (31 - f : Nat), .ptr b 5 0 0] [15, 16] (lookI1 (σ.upd b (.row 5 [x.av])) l x i e') A52_0_wr rfl ?_ ?_ ?_
  · simp only [ev0, ev1, ev2, ev3, ev4, ev5, ev6, ev7, ev8, ev9, ev10, ew, Nat.reduceEqDiff, reduceCtorEq, Nat.reduceAdd, Nat.reduceSub, Nat.reduceMul, Nat.reduceLT, Nat.reduceLeDiff, Int.reduceLT, Int.reduceLE, Int.reduceEq, Int.reduceNe, Int.reduceAdd, Int.reduceSub, Int.reduceMul, Int.reduceNeg, Int.reduceToNat, h0, h1, h2, h3, h13]
  · refine ⟨e' - (i + 1), _, _, Sub.refl _, FzL.refl _ _ _, i + 1, 0, ?_, rfl, rfl, by omega, by omega, rfl⟩
    simp only [ev0, ev1, ev2, ev3, ev4, ev5, ev6, ev7, ev8, ev9, ev10, ew, Nat.reduceEqDiff, reduceCtorEq, Nat.reduceAdd, Nat.reduceSub, Nat.reduceMul, Nat.reduceLT, Nat.reduceLeDiff, Int.reduceLT, Int.reduceLE, Int.reduceEq, Int.reduceNe, Int.reduceAdd, Int.reduceSub, Int.reduceMul, Int.reduceNeg, Int.reduceToNat, h15, h16]
  · rintro n vs σ' - ⟨pos, k, rfl, rfl, rfl, hp1, hp2, hfew⟩
    unfold A52_0
    have after : few x.k.toNat ((l.take e').drop (i + 1)) = false → ∀ (sl : Slots), sl 0 = nodes l → sl 1 = .int .i64 i → sl 2 = .int .i64 e' → sl 3 = .int .i64 (31 - f : Nat) → sl 13 = .ptr b 5 0 0 →
        GoC (env gs s) 167 (bodyQ (env gs s) [.t 12] K) C52_3 [] sl (σ.upd b (.row 5 [x.av])) := fun hfw sl a0 a1 a2 a3 a13 => by
      refine look_end hg2 l hl f i e' x b hf hxk hie hel hb ih sl a0 a1 a2 a3 a13 hfw ?_
      rwa [hfw] at h
    by_cases hk : (k : Int) < x.k
    · obtain ⟨m, hm⟩ : ∃ m, x.k.toNat - k = m + 1 := ⟨x.k.toNat - k - 1, by omega⟩
      by_cases hpe : e' ≤ pos
      · have hd : (l.take e').drop pos = [] := List.drop_of_length_le (by simp; omega)
        rw [hd, hm, few] at hfew
        rw [hfew] at h
        simp only [if_true, errOf] at h
        have hpe' : (e' : Int) ≤ pos := by omega
        simp only [ev0, ev1, ev2, ev3, ev4, ev5, ev6, ev7, ev8, ev9, ev10, ew, Nat.reduceEqDiff, reduceCtorEq, Nat.reduceAdd, Nat.reduceSub, Nat.reduceMul, Nat.reduceLT, Nat.reduceLeDiff, Int.reduceLT, Int.reduceLE, Int.reduceEq, Int.reduceNe, Int.reduceAdd, Int.reduceSub, Int.reduceMul, Int.reduceNeg, Int.reduceToNat, upd_same, nd, hk]
        refine go_block ?_
        simp only [ev0, ev1, ev2, ev3, ev4, ev5, ev6, ev7, ev8, ev9, ev10, ew, Nat.reduceEqDiff, reduceCtorEq, Nat.reduceAdd, Nat.reduceSub, Nat.reduceMul, Nat.reduceLT, Nat.reduceLeDiff, Int.reduceLT, Int.reduceLE, Int.reduceEq, Int.reduceNe, Int.reduceAdd, Int.reduceSub, Int.reduceMul, Int.reduceNeg, Int.reduceToNat, hpe', env_sent hg1]
        refine go_callI (at_spec i (.iface 226 (.sptr 3)) rfl ?_)
        simp only [ev0, ev1, ev2, ev3, ev4, ev5, ev6, ev7, ev8, ev9, ev10, ew, Nat.reduceEqDiff, reduceCtorEq, Nat.reduceAdd, Nat.reduceSub, Nat.reduceMul, Nat.reduceLT, Nat.reduceLeDiff, Int.reduceLT, Int.reduceLE, Int.reduceEq, Int.reduceNe, Int.reduceAdd, Int.reduceSub, Int.reduceMul, Int.reduceNeg, Int.reduceToNat, loop_ret, kont_gox, q_ret1]
        exact Ret.less (Sub.upd hb) h
      · obtain ⟨y, hy⟩ : ∃ y, l[pos]? = some y := ⟨l[pos]'(by omega), List.getElem?_eq_getElem _⟩
        have hseg : (l.take e').drop pos = y :: (l.take e').drop (pos + 1) := by
          rw [List.drop_eq_getElem_cons (by simp; omega)]
          congr 1
          rw [List.getElem_take]
          exact (List.getElem?_eq_some_iff.1 hy).2
        have hrl : ((l.take e').drop (pos + 1)).length = e' - (pos + 1) := by simp; omega
        have hw1 : IntKind.i64.wrap ((e' : Int) - pos) = (e' : Int) - pos := i64_id _ (by omega) (by omega)
        have hpe' : ¬ (e' : Int) ≤ pos := by omega
        rw [hseg, hm, few, hrl] at hfew
        by_cases z1 : y.size < 1
        · rw [if_pos (.inl z1)] at hfew
          simp only [ev0, ev1, ev2, ev3, ev4, ev5, ev6, ev7, ev8, ev9, ev10, ew, Nat.reduceEqDiff, reduceCtorEq, Nat.reduceAdd, Nat.reduceSub, Nat.reduceMul, Nat.reduceLT, Nat.reduceLeDiff, Int.reduceLT, Int.reduceLE, Int.reduceEq, Int.reduceNe, Int.reduceAdd, Int.reduceSub, Int.reduceMul, Int.reduceNeg, Int.reduceToNat, upd_same, nd, hk]
          refine go_block ?_
          simp only [ev0, ev1, ev2, ev3, ev4, ev5, ev6, ev7, ev8, ev9, ev10, ew, Nat.reduceEqDiff, reduceCtorEq, Nat.reduceAdd, Nat.reduceSub, Nat.reduceMul, Nat.reduceLT, Nat.reduceLeDiff, Int.reduceLT, Int.reduceLE, Int.reduceEq, Int.reduceNe, Int.reduceAdd, Int.reduceSub, Int.reduceMul, Int.reduceNeg, Int.reduceToNat, hpe', nodes, hy, nd, z1, loop_exit, kont_gox]
          exact after hfew _ rfl rfl rfl rfl rfl
        · by_cases z2 : (e' : Int) - pos < y.size
          · rw [if_pos (.inr (by omega))] at hfew
            simp only [ev0, ev1, ev2, ev3, ev4, ev5, ev6, ev7, ev8, ev9, ev10, ew, Nat.reduceEqDiff, reduceCtorEq, Nat.reduceAdd, Nat.reduceSub, Nat.reduceMul, Nat.reduceLT, Nat.reduceLeDiff, Int.reduceLT, Int.reduceLE, Int.reduceEq, Int.reduceNe, Int.reduceAdd, Int.reduceSub, Int.reduceMul, Int.reduceNeg, Int.reduceToNat, upd_same, nd, hk]
            refine go_block ?_
            simp only [ev0, ev1, ev2, ev3, ev4, ev5, ev6, ev7, ev8, ev9, ev10, ew, Nat.reduceEqDiff, reduceCtorEq, Nat.reduceAdd, Nat.reduceSub, Nat.reduceMul, Nat.reduceLT, Nat.reduceLeDiff, Int.reduceLT, Int.reduceLE, Int.reduceEq, Int.reduceNe, Int.reduceAdd, Int.reduceSub, Int.reduceMul, Int.reduceNeg, Int.reduceToNat, hpe', nodes, hy, nd, z1, hw1, z2, loop_exit, kont_gox]
            exact after hfew _ rfl rfl rfl rfl rfl
          · rw [if_neg (by omega)] at hfew
            have hw4 : IntKind.i64.wrap ((k : Int) + 1) = (k + 1 : Nat) := i64_id _ (by omega) (by omega)
            have hw5 : IntKind.i64.wrap ((pos : Int) + y.size) = (pos + y.size.toNat : Nat) := by rw [i64_id _ (by omega) (by omega)]; omega
            simp only [ev0, ev1, ev2, ev3, ev4, ev5, ev6, ev7, ev8, ev9, ev10, ew, Nat.reduceEqDiff, reduceCtorEq, Nat.reduceAdd, Nat.reduceSub, Nat.reduceMul, Nat.reduceLT, Nat.reduceLeDiff, Int.reduceLT, Int.reduceLE, Int.reduceEq, Int.reduceNe, Int.reduceAdd, Int.reduceSub, Int.reduceMul, Int.reduceNeg, Int.reduceToNat, upd_same, nd, hk]
            refine go_block ?_
            simp only [ev0, ev1, ev2, ev3, ev4, ev5, ev6, ev7, ev8, ev9, ev10, ew, Nat.reduceEqDiff, reduceCtorEq, Nat.reduceAdd, Nat.reduceSub, Nat.reduceMul, Nat.reduceLT, Nat.reduceLeDiff, Int.reduceLT, Int.reduceLE, Int.reduceEq, Int.reduceNe, Int.reduceAdd, Int.reduceSub, Int.reduceMul, Int.reduceNeg, Int.reduceToNat, hpe', nodes, hy, nd, z1, hw1, z2, hw4, hw5]
            refine loop_next (e' - (pos + y.size.toNat)) (by omega) ⟨pos + y.size.toNat, k + 1, ?_, rfl, rfl, by omega, by omega, ?_⟩
            · simp only [ev0, ev1, ev2, ev3, ev4, ev5, ev6, ev7, ev8, ev9, ev10, ew, Nat.reduceEqDiff, reduceCtorEq, Nat.reduceAdd, Nat.reduceSub, Nat.reduceMul, Nat.reduceLT, Nat.reduceLeDiff, Int.reduceLT, Int.reduceLE, Int.reduceEq, Int.reduceNe, Int.reduceAdd, Int.reduceSub, Int.reduceMul, Int.reduceNeg, Int.reduceToNat]
            · rw [hfew, show x.k.toNat - (k + 1) = m by omega]
              congr 1
              obtain ⟨q, hq⟩ : ∃ q, y.size.toNat = q + 1 := ⟨y.size.toNat - 1, by omega⟩
              rw [hq, List.drop_succ_cons, List.drop_drop]
              congr 1; omega
    · have hfw : few x.k.toNat ((l.take e').drop (i + 1)) = false := by rw [hfew, show x.k.toNat - k = 0 by omega]; rfl
      simp only [ev0, ev1, ev2, ev3, ev4, ev5, ev6, ev7, ev8, ev9, ev10, ew, Nat.reduceEqDiff, reduceCtorEq, Nat.reduceAdd, Nat.reduceSub, Nat.reduceMul, Nat.reduceLT, Nat.reduceLeDiff, Int.reduceLT, Int.reduceLE, Int.reduceEq, Int.reduceNe, Int.reduceAdd, Int.reduceSub, Int.reduceMul, Int.reduceNeg, Int.reduceToNat, upd_same, nd, hk, loop_exit, kont_gox]
      exact after hfw _ rfl rfl rfl rfl rfl
end Go.Proofs.YthmcfphafofheaaDoor
