/- Contracts: how high words stand; programs that are none. No statement of the seat is proved in this file. -/
import Derived.Test.YthmcfphafofheaaDoorSee2
open Go Go.Proofs
namespace Go.Proofs.YthmcfphafofheaaDoor
open Pat
set_option maxRecDepth 10000
set_option maxHeartbeats 1000000
set_option linter.unusedSimpArgs false
set_option linter.unusedVariables false
variable {gs : List Nat} {s : Nat → Addr} {σ : Hp} {K : AV → Hp → Prop}
def heightI (σ : Hp) (kind : Int) (hs : List Int) (n : Nat) (vs : List AV) (σ' : Hp) : Prop :=
  ∃ (i : Nat) (m : Int), vs = [.int .i64 m, .int .i64 i] ∧ σ' = σ ∧ n + i = hs.length ∧ 0 ≤ m ∧ m ≤ 100000 ∧ max m (hAll kind hs.length i (hs.drop i)) = hAll kind hs.length 0 hs
theorem height_spec (t : T) : ∀ (σ : Hp) (K : AV → Hp → Prop), t.flat.length ≤ 10000 → K (.int .i64 t.h) σ → ACalls (env gs s) 30 [nodes t.flat] σ K := by
  refine T.ind (P := fun t => ∀ (σ : Hp) (K : AV → Hp → Prop), t.flat.length ≤ 10000 → K (.int .i64 t.h) σ → ACalls (env gs s) 30 [nodes t.flat] σ K) (fun kind n str ks ih => ?_) t
  intro σ K hl h
  have hflat : (T.mk kind n str ks).flat.length = (T.flats ks).length + 1 := by rw [T.flat]; rfl
  have hx : (T.mk kind n str ks).flat[0]? = some (T.mk kind n str ks).head := by rw [T.flat_eq]; rfl
  have hth : (T.mk kind n str ks).head.kind = kind := rfl
  have hkl := T.flats_len_le ks
  have hh := T.h_mk kind n str ks
  have hle := (T.mk kind n str ks).h_le
  have hkids := kids_flat (T.mk kind n str ks)
  have hall := hAll_nonneg kind (ks.map T.h).length 0 (ks.map T.h)
  have hallb : hAll kind (ks.map T.h).length 0 (ks.map T.h) ≤ 10000 := by
    rw [hh, hOf] at hle
    by_cases c1 : kind = 1 ∨ kind = 2 ∨ kind = 12
    · rw [if_pos c1] at hle; omega
    · rw [if_neg c1] at hle
      by_cases c2 : kind = 3 ∧ ks.map T.h = []
      · rw [c2.2]; simp [hAll]
      · rw [if_neg c2] at hle; omega
  have hnz : (((T.mk kind n str ks).flat.length : Int) = 0) = False := eq_false (by omega)
  generalize hF : (T.mk kind n str ks).flat = F at *
  have hlm : (F.map Node.av).length = F.length := by simp
  refine A30_call rfl ?_
  unfold A30
  simp only [ev0, ev1, ev2, ev3, ev4, ev5, ev6, ev7, ev8, ev9, ev10, ew, Nat.reduceEqDiff, reduceCtorEq, Nat.reduceAdd, Nat.reduceSub, Nat.reduceMul, Nat.reduceLT, Nat.reduceLeDiff, Int.reduceLT, Int.reduceLE, Int.reduceEq, Int.reduceNe, Int.reduceAdd, Int.reduceSub, Int.reduceMul, Int.reduceNeg, Int.reduceToNat, nodes, hnz]
  refine go_callI (kids_spec F (by omega) ?_)
  rw [hkids]
  have hkn : (List.map nodes (List.map T.flat (T.mk kind n str ks).ks)).length = ks.length := by simp [T.ks]
  have hkg : ∀ (i : Nat) (u : T), ks[i]? = some u → (List.map nodes (List.map T.flat (T.mk kind n str ks).ks))[i]? = some (nodes u.flat) := fun i u hu => by simp [T.ks, hu]
  generalize hKS : List.map nodes (List.map T.flat (T.mk kind n str ks).ks) = KS at *
  have hhl : (ks.map T.h).length = ks.length := by simp
  generalize hhs : ks.map T.h = hs at *
  simp only [ev0, ev1, ev2, ev3, ev4, ev5, ev6, ev7, ev8, ev9, ev10, ew, Nat.reduceEqDiff, reduceCtorEq, Nat.reduceAdd, Nat.reduceSub, Nat.reduceMul, Nat.reduceLT, Nat.reduceLeDiff, Int.reduceLT, Int.reduceLE, Int.reduceEq, Int.reduceNe, Int.reduceAdd, Int.reduceSub, Int.reduceMul, Int.reduceNeg, Int.reduceToNat, hkn]
  refine go_block ?_
  refine go_loop W30_0 [0, 4, 13, 14] [nodes F, .rd 1 KS, .rd 1 KS, .int .i64 ks.length] [3, 15] (heightI σ kind hs) A30_0_wr rfl ?_ ?_ ?_
  · simp only [ev0, ev1, ev2, ev3, ev4, ev5, ev6, ev7, ev8, ev9, ev10, ew, Nat.reduceEqDiff, reduceCtorEq, Nat.reduceAdd, Nat.reduceSub, Nat.reduceMul, Nat.reduceLT, Nat.reduceLeDiff, Int.reduceLT, Int.reduceLE, Int.reduceEq, Int.reduceNe, Int.reduceAdd, Int.reduceSub, Int.reduceMul, Int.reduceNeg, Int.reduceToNat, nodes]
  · refine ⟨ks.length, _, _, Sub.refl _, FzL.refl _ _ _, 0, 0, ?_, rfl, by omega, by omega, by omega, ?_⟩
    · simp only [ev0, ev1, ev2, ev3, ev4, ev5, ev6, ev7, ev8, ev9, ev10, ew, Nat.reduceEqDiff, reduceCtorEq, Nat.reduceAdd, Nat.reduceSub, Nat.reduceMul, Nat.reduceLT, Nat.reduceLeDiff, Int.reduceLT, Int.reduceLE, Int.reduceEq, Int.reduceNe, Int.reduceAdd, Int.reduceSub, Int.reduceMul, Int.reduceNeg, Int.reduceToNat]
    · rw [List.drop_zero]; omega
  · rintro r vs σ' - ⟨i, m, rfl, rfl, hi, m1, m2, hm⟩
    unfold A30_0
    by_cases hc : (i : Int) < ks.length
    · obtain ⟨u, hu⟩ : ∃ u, ks[i]? = some u := ⟨ks[i]'(by omega), List.getElem?_eq_getElem _⟩
      have hum := List.mem_of_getElem? hu
      have huf := T.flats_mem hum
      have huh : hs[i]? = some u.h := by rw [← hhs]; simp [hu]
      have hdr : hs.drop i = u.h :: hs.drop (i + 1) := by
        rw [List.drop_eq_getElem_cons (List.getElem?_eq_some_iff.1 huh).1]; congr 1; exact (List.getElem?_eq_some_iff.1 huh).2
      rw [hdr, hAll] at hm
      have hu0 := u.h_nonneg
      have hu1 := u.h_le
      have hw : IntKind.i64.wrap ((i : Int) + 1) = (i + 1 : Nat) := i64_id _ (by omega) (by omega)
      have hwi : IntKind.i64.wrap (u.h + i) = u.h + i := i64_id _ (by omega) (by omega)
      have hw1 : IntKind.i64.wrap (u.h + 1) = u.h + 1 := i64_id _ (by omega) (by omega)
      have hwn : IntKind.i64.wrap ((ks.length : Int) - 1) = (ks.length : Int) - 1 := i64_id _ (by omega) (by omega)
      have hrem : (i : Int).tmod 2 = ((i % 2 : Nat) : Int) := by rw [Int.tmod_eq_emod_of_nonneg (by omega)]; omega
      have nx : ∀ x : Int, x = u.h + hAdd kind i hs.length → 0 ≤ (if m < x then x else m) ∧ (if m < x then x else m) ≤ 100000 ∧ max (if m < x then x else m) (hAll kind hs.length (i + 1) (hs.drop (i + 1))) = hAll kind hs.length 0 hs := by
        intro x hx
        have h2 := hAdd_nonneg kind i hs.length
        have h3 := hAll_nonneg kind hs.length (i + 1) (hs.drop (i + 1))
        rw [← hx] at hm
        split <;> refine ⟨by omega, by omega, by omega⟩
      simp only [ev0, ev1, ev2, ev3, ev4, ev5, ev6, ev7, ev8, ev9, ev10, ew, Nat.reduceEqDiff, reduceCtorEq, Nat.reduceAdd, Nat.reduceSub, Nat.reduceMul, Nat.reduceLT, Nat.reduceLeDiff, Int.reduceLT, Int.reduceLE, Int.reduceEq, Int.reduceNe, Int.reduceAdd, Int.reduceSub, Int.reduceMul, Int.reduceNeg, Int.reduceToNat, hc]
      refine go_block ?_
      simp only [ev0, ev1, ev2, ev3, ev4, ev5, ev6, ev7, ev8, ev9, ev10, ew, Nat.reduceEqDiff, reduceCtorEq, Nat.reduceAdd, Nat.reduceSub, Nat.reduceMul, Nat.reduceLT, Nat.reduceLeDiff, Int.reduceLT, Int.reduceLE, Int.reduceEq, Int.reduceNe, Int.reduceAdd, Int.reduceSub, Int.reduceMul, Int.reduceNeg, Int.reduceToNat, hkg i u hu, npart]
      refine go_callI (ih u hum _ _ (by omega) ?_)
      simp only [ev0, ev1, ev2, ev3, ev4, ev5, ev6, ev7, ev8, ev9, ev10, ew, Nat.reduceEqDiff, reduceCtorEq, Nat.reduceAdd, Nat.reduceSub, Nat.reduceMul, Nat.reduceLT, Nat.reduceLeDiff, Int.reduceLT, Int.reduceLE, Int.reduceEq, Int.reduceNe, Int.reduceAdd, Int.reduceSub, Int.reduceMul, Int.reduceNeg, Int.reduceToNat, nodes, hx, nd, hth]
      refine go_block ?_
      have fin : ∀ x : Int, x = u.h + hAdd kind i hs.length → heightI σ' kind hs (r - 1) [.int .i64 (if m < x then x else m), .int .i64 (i + 1 : Nat)] σ' := fun x hx =>
        ⟨i + 1, _, rfl, rfl, by omega, (nx x hx).1, (nx x hx).2.1, (nx x hx).2.2⟩
      have hlt : r - 1 < r := by omega
      by_cases k1 : kind = 3 ∨ kind = 4 ∨ kind = 21
      · have hA : u.h + i = u.h + hAdd kind i hs.length := by unfold hAdd; rw [if_pos k1]
        rcases k1 with rfl | rfl | rfl
        all_goals
          simp only [ev0, ev1, ev2, ev3, ev4, ev5, ev6, ev7, ev8, ev9, ev10, ew, Nat.reduceEqDiff, reduceCtorEq, Nat.reduceAdd, Nat.reduceSub, Nat.reduceMul, Nat.reduceLT, Nat.reduceLeDiff, Int.reduceLT, Int.reduceLE, Int.reduceEq, Int.reduceNe, Int.reduceAdd, Int.reduceSub, Int.reduceMul, Int.reduceNeg, Int.reduceToNat, hwi, hw, gt_iff_lt]
          refine loop_next (r - 1) hlt ?_
          simp only [ev0, ev1, ev2, ev3, ev4, ev5, ev6, ev7, ev8, ev9, ev10, ew, Nat.reduceEqDiff, reduceCtorEq, Nat.reduceAdd, Nat.reduceSub, Nat.reduceMul, Nat.reduceLT, Nat.reduceLeDiff, Int.reduceLT, Int.reduceLE, Int.reduceEq, Int.reduceNe, Int.reduceAdd, Int.reduceSub, Int.reduceMul, Int.reduceNeg, Int.reduceToNat]
          exact fin _ hA
      have k3 : kind ≠ 3 := by omega
      have k4 : kind ≠ 4 := by omega
      have k21 : kind ≠ 21 := by omega
      by_cases k37 : kind = 37
      · by_cases hi1 : (i : Int) < (ks.length : Int) - 1
        · have hA : u.h + i = u.h + hAdd kind i hs.length := by unfold hAdd; rw [if_neg k1, if_pos k37, if_pos (by omega)]
          subst k37
          simp only [ev0, ev1, ev2, ev3, ev4, ev5, ev6, ev7, ev8, ev9, ev10, ew, Nat.reduceEqDiff, reduceCtorEq, Nat.reduceAdd, Nat.reduceSub, Nat.reduceMul, Nat.reduceLT, Nat.reduceLeDiff, Int.reduceLT, Int.reduceLE, Int.reduceEq, Int.reduceNe, Int.reduceAdd, Int.reduceSub, Int.reduceMul, Int.reduceNeg, Int.reduceToNat, hkn, hwn, hi1, hwi, hw, gt_iff_lt]
          refine loop_next (r - 1) hlt ?_
          simp only [ev0, ev1, ev2, ev3, ev4, ev5, ev6, ev7, ev8, ev9, ev10, ew, Nat.reduceEqDiff, reduceCtorEq, Nat.reduceAdd, Nat.reduceSub, Nat.reduceMul, Nat.reduceLT, Nat.reduceLeDiff, Int.reduceLT, Int.reduceLE, Int.reduceEq, Int.reduceNe, Int.reduceAdd, Int.reduceSub, Int.reduceMul, Int.reduceNeg, Int.reduceToNat]
          exact fin _ hA
        · have hA : u.h = u.h + hAdd kind i hs.length := by unfold hAdd; rw [if_neg k1, if_pos k37, if_neg (by omega)]; omega
          subst k37
          simp only [ev0, ev1, ev2, ev3, ev4, ev5, ev6, ev7, ev8, ev9, ev10, ew, Nat.reduceEqDiff, reduceCtorEq, Nat.reduceAdd, Nat.reduceSub, Nat.reduceMul, Nat.reduceLT, Nat.reduceLeDiff, Int.reduceLT, Int.reduceLE, Int.reduceEq, Int.reduceNe, Int.reduceAdd, Int.reduceSub, Int.reduceMul, Int.reduceNeg, Int.reduceToNat, hkn, hwn, hi1, hwi, hw, gt_iff_lt]
          refine loop_next (r - 1) hlt ?_
          simp only [ev0, ev1, ev2, ev3, ev4, ev5, ev6, ev7, ev8, ev9, ev10, ew, Nat.reduceEqDiff, reduceCtorEq, Nat.reduceAdd, Nat.reduceSub, Nat.reduceMul, Nat.reduceLT, Nat.reduceLeDiff, Int.reduceLT, Int.reduceLE, Int.reduceEq, Int.reduceNe, Int.reduceAdd, Int.reduceSub, Int.reduceMul, Int.reduceNeg, Int.reduceToNat]
          exact fin _ hA
      by_cases k30 : kind = 30
      · by_cases hi1 : i % 2 = 1
        · have hA : u.h + 1 = u.h + hAdd kind i hs.length := by unfold hAdd; rw [if_neg k1, if_neg k37, if_pos k30, if_pos hi1]
          have hi2 : (((i % 2 : Nat) : Int) = 1) = True := eq_true (by omega)
          subst k30
          simp only [ev0, ev1, ev2, ev3, ev4, ev5, ev6, ev7, ev8, ev9, ev10, ew, Nat.reduceEqDiff, reduceCtorEq, Nat.reduceAdd, Nat.reduceSub, Nat.reduceMul, Nat.reduceLT, Nat.reduceLeDiff, Int.reduceLT, Int.reduceLE, Int.reduceEq, Int.reduceNe, Int.reduceAdd, Int.reduceSub, Int.reduceMul, Int.reduceNeg, Int.reduceToNat, hrem, hi2, hw1, hw, gt_iff_lt]
          refine loop_next (r - 1) hlt ?_
          simp only [ev0, ev1, ev2, ev3, ev4, ev5, ev6, ev7, ev8, ev9, ev10, ew, Nat.reduceEqDiff, reduceCtorEq, Nat.reduceAdd, Nat.reduceSub, Nat.reduceMul, Nat.reduceLT, Nat.reduceLeDiff, Int.reduceLT, Int.reduceLE, Int.reduceEq, Int.reduceNe, Int.reduceAdd, Int.reduceSub, Int.reduceMul, Int.reduceNeg, Int.reduceToNat]
          exact fin _ hA
        · have hA : u.h = u.h + hAdd kind i hs.length := by unfold hAdd; rw [if_neg k1, if_neg k37, if_pos k30, if_neg hi1]; omega
          have hi2 : (((i % 2 : Nat) : Int) = 1) = False := eq_false (by omega)
          subst k30
          simp only [ev0, ev1, ev2, ev3, ev4, ev5, ev6, ev7, ev8, ev9, ev10, ew, Nat.reduceEqDiff, reduceCtorEq, Nat.reduceAdd, Nat.reduceSub, Nat.reduceMul, Nat.reduceLT, Nat.reduceLeDiff, Int.reduceLT, Int.reduceLE, Int.reduceEq, Int.reduceNe, Int.reduceAdd, Int.reduceSub, Int.reduceMul, Int.reduceNeg, Int.reduceToNat, hrem, hi2, hw, gt_iff_lt]
          refine loop_next (r - 1) hlt ?_
          simp only [ev0, ev1, ev2, ev3, ev4, ev5, ev6, ev7, ev8, ev9, ev10, ew, Nat.reduceEqDiff, reduceCtorEq, Nat.reduceAdd, Nat.reduceSub, Nat.reduceMul, Nat.reduceLT, Nat.reduceLeDiff, Int.reduceLT, Int.reduceLE, Int.reduceEq, Int.reduceNe, Int.reduceAdd, Int.reduceSub, Int.reduceMul, Int.reduceNeg, Int.reduceToNat]
          exact fin _ hA
      · have hA : u.h = u.h + hAdd kind i hs.length := by unfold hAdd; rw [if_neg k1, if_neg k37, if_neg k30]; omega
        simp only [ev0, ev1, ev2, ev3, ev4, ev5, ev6, ev7, ev8, ev9, ev10, ew, Nat.reduceEqDiff, reduceCtorEq, Nat.reduceAdd, Nat.reduceSub, Nat.reduceMul, Nat.reduceLT, Nat.reduceLeDiff, Int.reduceLT, Int.reduceLE, Int.reduceEq, Int.reduceNe, Int.reduceAdd, Int.reduceSub, Int.reduceMul, Int.reduceNeg, Int.reduceToNat, k3, k4, k21, k37, k30, hw, gt_iff_lt]
        refine loop_next (r - 1) hlt ?_
        simp only [ev0, ev1, ev2, ev3, ev4, ev5, ev6, ev7, ev8, ev9, ev10, ew, Nat.reduceEqDiff, reduceCtorEq, Nat.reduceAdd, Nat.reduceSub, Nat.reduceMul, Nat.reduceLT, Nat.reduceLeDiff, Int.reduceLT, Int.reduceLE, Int.reduceEq, Int.reduceNe, Int.reduceAdd, Int.reduceSub, Int.reduceMul, Int.reduceNeg, Int.reduceToNat]
        exact fin _ hA
    · rw [List.drop_of_length_le (by omega), hAll] at hm
      have hmm : m = hAll kind hs.length 0 hs := by omega
      rw [hh, hOf] at h
      simp only [ev0, ev1, ev2, ev3, ev4, ev5, ev6, ev7, ev8, ev9, ev10, ew, Nat.reduceEqDiff, reduceCtorEq, Nat.reduceAdd, Nat.reduceSub, Nat.reduceMul, Nat.reduceLT, Nat.reduceLeDiff, Int.reduceLT, Int.reduceLE, Int.reduceEq, Int.reduceNe, Int.reduceAdd, Int.reduceSub, Int.reduceMul, Int.reduceNeg, Int.reduceToNat, hc, loop_exit, kont_gox, nodes, hx, nd, hth]
      refine go_block ?_
      have hmx : ∀ a : Int, (if (1 : Int) < a then a else 1) = max 1 a := fun a => by split <;> omega
      by_cases k1 : kind = 1 ∨ kind = 2 ∨ kind = 12
      · rw [if_pos k1, ← hmm] at h
        rcases k1 with rfl | rfl | rfl
        all_goals
          simp only [ev0, ev1, ev2, ev3, ev4, ev5, ev6, ev7, ev8, ev9, ev10, ew, Nat.reduceEqDiff, reduceCtorEq, Nat.reduceAdd, Nat.reduceSub, Nat.reduceMul, Nat.reduceLT, Nat.reduceLeDiff, Int.reduceLT, Int.reduceLE, Int.reduceEq, Int.reduceNe, Int.reduceAdd, Int.reduceSub, Int.reduceMul, Int.reduceNeg, Int.reduceToNat, gt_iff_lt, hmx, q_ret1]
          exact Ret.here h
      · rw [if_neg k1] at h
        have c1 : kind ≠ 1 := by omega
        have c2 : kind ≠ 2 := by omega
        have c12 : kind ≠ 12 := by omega
        by_cases k3 : kind = 3
        · subst k3
          by_cases hn : hs = []
          · rw [if_pos ⟨rfl, hn⟩] at h
            have hz : ((ks.length : Int) = 0) = True := eq_true (by rw [hn] at hhl; simp at hhl; omega)
            simp only [ev0, ev1, ev2, ev3, ev4, ev5, ev6, ev7, ev8, ev9, ev10, ew, Nat.reduceEqDiff, reduceCtorEq, Nat.reduceAdd, Nat.reduceSub, Nat.reduceMul, Nat.reduceLT, Nat.reduceLeDiff, Int.reduceLT, Int.reduceLE, Int.reduceEq, Int.reduceNe, Int.reduceAdd, Int.reduceSub, Int.reduceMul, Int.reduceNeg, Int.reduceToNat, hkn, hz, q_ret1]
            exact Ret.here h
          · rw [if_neg (fun h => hn h.2), ← hmm] at h
            have hz : ((ks.length : Int) = 0) = False := eq_false fun e => hn (List.eq_nil_of_length_eq_zero (by omega))
            simp only [ev0, ev1, ev2, ev3, ev4, ev5, ev6, ev7, ev8, ev9, ev10, ew, Nat.reduceEqDiff, reduceCtorEq, Nat.reduceAdd, Nat.reduceSub, Nat.reduceMul, Nat.reduceLT, Nat.reduceLeDiff, Int.reduceLT, Int.reduceLE, Int.reduceEq, Int.reduceNe, Int.reduceAdd, Int.reduceSub, Int.reduceMul, Int.reduceNeg, Int.reduceToNat, hkn, hz, q_ret1]
            exact Ret.here h
        · rw [if_neg (fun h => k3 h.1), ← hmm] at h
          simp only [ev0, ev1, ev2, ev3, ev4, ev5, ev6, ev7, ev8, ev9, ev10, ew, Nat.reduceEqDiff, reduceCtorEq, Nat.reduceAdd, Nat.reduceSub, Nat.reduceMul, Nat.reduceLT, Nat.reduceLeDiff, Int.reduceLT, Int.reduceLE, Int.reduceEq, Int.reduceNe, Int.reduceAdd, Int.reduceSub, Int.reduceMul, Int.reduceNeg, Int.reduceToNat, c1, c2, c12, k3, q_ret1]
          exact Ret.here h
end Go.Proofs.YthmcfphafofheaaDoor
