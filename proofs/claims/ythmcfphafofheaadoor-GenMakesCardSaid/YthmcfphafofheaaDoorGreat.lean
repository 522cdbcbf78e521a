/- The law GenGreat, walked. No statement of the seat is proved in this file. -/
import Derived.Test.YthmcfphafofheaaDoorLaw23
open Go Go.Proofs
namespace Go.Proofs.YthmcfphafofheaaDoor
open Pat
set_option maxRecDepth 10000
set_option maxHeartbeats 1000000
set_option linter.unusedSimpArgs false
set_option linter.unusedVariables false
theorem US.pre {E : Env} {σ σ' : Hp} {w : World} {K : AV → Hp → Prop} {r : Result Next} (ht : Trans σ w σ' w) (h : US E σ' w K r) : US E σ w K r := by
  unfold US Upon at *
  split at h
  · obtain ⟨a, σ'', h1, h2, h3, h4⟩ := h; exact ⟨a, σ'', h1, h2, h3, ht.trans h4⟩
  · obtain ⟨a, σ'', h1, h2, h3, h4⟩ := h; exact ⟨a, σ'', h1, h2, h3, ht.trans h4⟩
  · exact h.mono fun e w' ⟨v, a, σ'', h0, h1, h2, h3, h4⟩ => ⟨v, a, σ'', h0, h1, h2, h3, ht.trans h4⟩
  · exact h
/-- A call before which something is frozen. -/
theorem ACalls.freeze {E : Env} {f : FuncId} {args args' : List AV} {σ σ' : Hp} {K : AV → Hp → Prop} (hs : Sub σ' σ) (hf : FzL E σ σ' args args') (h : ACalls E f args' σ' K) : ACalls E f args σ K :=
  ⟨fun w vs hH hr => by
    obtain ⟨hH', ht⟩ := hH.drop σ' hs
    refine US.pre ht (h.out w vs hH' ⟨by rw [hr.1, hf.get.1], fun j x y hx hy => ?_⟩)
    have hj : j < args.length := by rw [hf.get.1]; exact (List.getElem?_eq_some_iff.1 hy).1
    exact hf.get.2 j args[j] y (List.getElem?_eq_getElem hj) hy w x hH hs (hr.2 j x _ hx (List.getElem?_eq_getElem hj))⟩
variable {gs : List Nat} {s : Nat → Addr} {σ : Hp} {K : AV → Hp → Prop}
def litT (str : List UInt8) : T := .mk 1 0 str []
theorem litT_ok (str : List UInt8) (h : str.length ≤ 2000) (f : Nat) : T.ok (f + 1) true (litT str) := by
  refine T.ok_mk rfl ?_ rfl kidn
  simp [fieldsB, h]
theorem nopT_ok (f : Nat) : T.ok (f + 1) false (.mk 20 0 [] []) := T.ok_mk rfl rfl rfl kidn
def firstT : T := .mk 21 0 [] [litT [101, 99, 104, 111], litT [97]]
theorem firstT_ok : T.ok 30 false firstT := T.ok_mk rfl rfl rfl (kid1 (litT_ok _ (by simp) 28) (litT_ok _ (by simp) 28))
theorem first_spec (hg0 : 0 ∈ gs) (hg1 : 3 ∈ gs) (hg2 : 4 ∈ gs) (hg3 : 1 ∈ gs) (h : K (.bool true) σ) : ACalls (env gs s) 13 [] σ K := by
  refine A13_call rfl ?_
  unfold A13
  simp only [ev0, ev1, ev2, ev3, ev4, ev5, ev6, ev7, ev8, ev9, ev10, ew, Nat.reduceEqDiff, reduceCtorEq, Nat.reduceAdd, Nat.reduceSub, Nat.reduceMul, Nat.reduceLT, Nat.reduceLeDiff, Int.reduceLT, Int.reduceLE, Int.reduceEq, Int.reduceNe, Int.reduceAdd, Int.reduceSub, Int.reduceMul, Int.reduceNeg, Int.reduceToNat]
  refine go_callI (lit_spec _ ?_)
  simp only [ev0, ev1, ev2, ev3, ev4, ev5, ev6, ev7, ev8, ev9, ev10, ew, Nat.reduceEqDiff, reduceCtorEq, Nat.reduceAdd, Nat.reduceSub, Nat.reduceMul, Nat.reduceLT, Nat.reduceLeDiff, Int.reduceLT, Int.reduceLE, Int.reduceEq, Int.reduceNe, Int.reduceAdd, Int.reduceSub, Int.reduceMul, Int.reduceNeg, Int.reduceToNat]
  refine go_callI (lit_spec _ ?_)
  simp only [ev0, ev1, ev2, ev3, ev4, ev5, ev6, ev7, ev8, ev9, ev10, ew, Nat.reduceEqDiff, reduceCtorEq, Nat.reduceAdd, Nat.reduceSub, Nat.reduceMul, Nat.reduceLT, Nat.reduceLeDiff, Int.reduceLT, Int.reduceLE, Int.reduceEq, Int.reduceNe, Int.reduceAdd, Int.reduceSub, Int.reduceMul, Int.reduceNeg, Int.reduceToNat]
  refine blit_row rfl (by simp [nodes, AV.one]) ?_
  simp only [ev0, ev1, ev2, ev3, ev4, ev5, ev6, ev7, ev8, ev9, ev10, ew, Nat.reduceEqDiff, reduceCtorEq, Nat.reduceAdd, Nat.reduceSub, Nat.reduceMul, Nat.reduceLT, Nat.reduceLeDiff, Int.reduceLT, Int.reduceLE, Int.reduceEq, Int.reduceNe, Int.reduceAdd, Int.reduceSub, Int.reduceMul, Int.reduceNeg, Int.reduceToNat]
  refine go_callI (new_spec 21 0 [] [(litT [101, 99, 104, 111]).flat, (litT [97]).flat] (by simp [litT, T.flat, T.flats]) (by simp) ?_)
  have e1 : newL 21 0 [] [(litT [101, 99, 104, 111]).flat, (litT [97]).flat] = firstT.flat := newL_flat 21 0 [] [litT [101, 99, 104, 111], litT [97]]
  have hlen : firstT.flat.length = 3 := rfl
  rw [e1]
  simp only [ev0, ev1, ev2, ev3, ev4, ev5, ev6, ev7, ev8, ev9, ev10, ew, Nat.reduceEqDiff, reduceCtorEq, Nat.reduceAdd, Nat.reduceSub, Nat.reduceMul, Nat.reduceLT, Nat.reduceLeDiff, Int.reduceLT, Int.reduceLE, Int.reduceEq, Int.reduceNe, Int.reduceAdd, Int.reduceSub, Int.reduceMul, Int.reduceNeg, Int.reduceToNat]
  refine go_callI (compile_spec hg0 hg1 hg2 firstT firstT_ok (T.ok_fit firstT firstT_ok (by omega)) (by omega) (by omega) fun L hL => ?_)
  have he : firstT.e = 2 := by decide
  obtain ⟨c1, c2, c3, c4, x, c5, c6⟩ := id hL
  have herr := hL.err
  rw [he] at herr
  simp only [ev0, ev1, ev2, ev3, ev4, ev5, ev6, ev7, ev8, ev9, ev10, ew, Nat.reduceEqDiff, reduceCtorEq, Nat.reduceAdd, Nat.reduceSub, Nat.reduceMul, Nat.reduceLT, Nat.reduceLeDiff, Int.reduceLT, Int.reduceLE, Int.reduceEq, Int.reduceNe, Int.reduceAdd, Int.reduceSub, Int.reduceMul, Int.reduceNeg, Int.reduceToNat, codeAV, he]
  intro b hb
  have hspl : ∀ v w : AV, (AV.agg [AV.nils, AV.int .i64 0]).splice 0 [v, w] = .agg [v, w] := fun _ _ => rfl
  have hlp : (0 : Int) < L.length := by omega
  have hlm : (L.map Ins.av).length = L.length := by simp
  have hw : IntKind.i64.wrap ((L.length : Int) - 1) = (L.length - 1 : Nat) := by rw [i64_id _ (by omega) (by omega)]; omega
  have hx' : (L.map Ins.av)[L.length - 1]? = some x.av := by simp [c5]
  simp only [ev0, ev1, ev2, ev3, ev4, ev5, ev6, ev7, ev8, ev9, ev10, ew, Nat.reduceEqDiff, reduceCtorEq, Nat.reduceAdd, Nat.reduceSub, Nat.reduceMul, Nat.reduceLT, Nat.reduceLeDiff, Int.reduceLT, Int.reduceLE, Int.reduceEq, Int.reduceNe, Int.reduceAdd, Int.reduceSub, Int.reduceMul, Int.reduceNeg, Int.reduceToNat, upd_same, upd_upd, List.set_cons_zero, avc, hspl]
  refine ⟨by simp [AV.scalar], ?_⟩
  have hx0 : x.av.cells[0]? = some (.int .i64 41) := by rw [← c6]; rfl
  have hp2 : ∀ v w : AV, Pat.part true 2 [v, w] 0 = some (.agg [v, w]) := fun _ _ => rfl
  simp only [ev0, ev1, ev2, ev3, ev4, ev5, ev6, ev7, ev8, ev9, ev10, ew, Nat.reduceEqDiff, reduceCtorEq, Nat.reduceAdd, Nat.reduceSub, Nat.reduceMul, Nat.reduceLT, Nat.reduceLeDiff, Int.reduceLT, Int.reduceLE, Int.reduceEq, Int.reduceNe, Int.reduceAdd, Int.reduceSub, Int.reduceMul, Int.reduceNeg, Int.reduceToNat, upd_same, part_f, avc, hlm, hlp, hw, hx', hx0, hp2]
  refine go_callI (codeCheck_spec hg0 hg3 L 2 (by omega) ?_)
  rw [herr]
  simp only [ev0, ev1, ev2, ev3, ev4, ev5, ev6, ev7, ev8, ev9, ev10, ew, Nat.reduceEqDiff, reduceCtorEq, Nat.reduceAdd, Nat.reduceSub, Nat.reduceMul, Nat.reduceLT, Nat.reduceLeDiff, Int.reduceLT, Int.reduceLE, Int.reduceEq, Int.reduceNe, Int.reduceAdd, Int.reduceSub, Int.reduceMul, Int.reduceNeg, Int.reduceToNat, q_ret1]
  exact Ret.less (Sub.upd hb) h
/-! The programs -/
def oneT : Nat → T
  | 1 => .mk 32 0 [] [.mk 20 0 [] [], .mk 20 0 [] []]
  | 2 => .mk 29 0 [120] [litT [97], .mk 20 0 [] []]
  | 3 => .mk 22 0 [120] [.mk 4 0 [] [litT [97], .mk 2 0 [120] []]]
  | _ => .mk 21 0 [] [litT [97]]
theorem one_ok : ∀ k : Nat, T.ok 29 false (oneT k)
  | 1 => T.ok_mk rfl rfl rfl (kid1 (nopT_ok 27) (nopT_ok 27))
  | 2 => T.ok_mk rfl (by decide) rfl (kid1 (litT_ok _ (by simp) 27) (nopT_ok 27))
  | 3 => T.ok_mk rfl (by decide) rfl (kid0 (T.ok_mk rfl rfl rfl (kid1 (litT_ok _ (by simp) 26) (T.ok_mk rfl (by decide) rfl kidn))))
  | 0 => T.ok_mk rfl rfl rfl (kid0 (litT_ok _ (by simp) 27))
  | _ + 4 => T.ok_mk rfl rfl rfl (kid0 (litT_ok _ (by simp) 27))
theorem one_e : ∀ k : Nat, (oneT k).e ≤ 2
  | 1 => by decide
  | 2 => by decide
  | 3 => by decide
  | 0 => by decide
  | _ + 4 => by show (T.mk 21 0 [] [litT [97]]).e ≤ 2; decide
theorem one_len : ∀ k : Nat, (oneT k).flat.length ≤ 4
  | 1 => by decide
  | 2 => by decide
  | 3 => by decide
  | 0 => by decide
  | _ + 4 => by show (T.mk 21 0 [] [litT [97]]).flat.length ≤ 4; decide
def seqT : List T → T
  | [] => .mk 20 0 [] []
  | [t] => t
  | ts => .mk 23 0 [] ts
theorem seqT_flat : ∀ ts : List T, seqL (ts.map T.flat) = (seqT ts).flat
  | [] => leaf_flat 20 0 []
  | [t] => rfl
  | a :: b :: ts => newL_flat 23 0 [] (a :: b :: ts)
theorem T.ok_up : ∀ (t : T) {f : Nat} {word : Bool}, T.ok f word t → T.ok (f + 1) word t := by
  intro t
  refine T.ind (P := fun t => ∀ {f : Nat} {word : Bool}, T.ok f word t → T.ok (f + 1) word t) (fun kind n str ks ih => ?_) t
  intro f word hok
  cases f with
  | zero => exact hok.elim
  | succ f => exact ⟨hok.1, hok.2.1, hok.2.2.1, fun i u hu => ih u (List.mem_of_getElem? hu) (hok.2.2.2 i u hu)⟩
theorem seqT_ok (m : Nat) (t : T) (h : T.ok 29 false t) : T.ok 30 false (seqT (List.replicate m t)) := by
  match m with
  | 0 => exact nopT_ok 29
  | 1 => exact t.ok_up h
  | m + 2 =>
    refine T.ok_mk rfl rfl ?_ fun i u hu => ?_
    · have : (List.replicate (m + 1 + 1) t).length = m + 2 := by simp
      show childrenB 23 ((List.replicate (m + 1 + 1) t).length : Nat) = true
      rw [this, childrenB, if_neg (by decide), if_neg (by decide), if_neg (by decide), if_pos (by decide)]
      exact decide_eq_true (by omega)
    · have hm := List.mem_of_getElem? hu
      have hu : u ∈ List.replicate (m + 2) t := hm
      rw [List.eq_of_mem_replicate hu]
      exact h
theorem flats_rep (t : T) : ∀ m : Nat, (T.flats (List.replicate m t)).length = m * t.flat.length
  | 0 => by simp [T.flats]
  | m + 1 => by rw [List.replicate_succ, T.flats, List.length_append, flats_rep t m, Nat.succ_mul]; omega
theorem seqT_len (m : Nat) (t : T) : (seqT (List.replicate m t)).flat.length ≤ m * t.flat.length + 1 := by
  match m with
  | 0 => simp [seqT, T.flat, T.flats]
  | 1 => simp [seqT]
  | m + 2 =>
    have := flats_rep t (m + 2)
    show (T.mk 23 0 [] (List.replicate (m + 2) t)).flat.length ≤ _
    rw [T.flat, List.length_cons, this]
    exact Nat.le_refl _
theorem maxi_rep (x : Int) (hx : x ≤ 2) : ∀ m : Nat, maxi (List.replicate m x) ≤ 2
  | 0 => by simp [maxi]
  | m + 1 => by have := maxi_rep x hx m; rw [List.replicate_succ]; simp only [maxi]; omega
theorem seqT_e (m : Nat) (t : T) (h : t.e ≤ 2) : (seqT (List.replicate m t)).e ≤ 2 := by
  match m with
  | 0 => show (T.mk 20 0 [] []).e ≤ 2; decide
  | 1 => exact h
  | m + 2 =>
    show (T.mk 23 0 [] (List.replicate (m + 2) t)).e ≤ 2
    rw [T.e_mk, eOf, if_neg (by decide), if_neg (by decide), if_neg (by decide), if_neg (by decide), if_neg (by decide), if_neg (by decide), List.map_replicate]
    exact maxi_rep _ h _
theorem flats_one (ts : List T) : newL 21 0 [] (ts.map T.flat) = (T.mk 21 0 [] ts).flat := newL_flat _ _ _ _
def greatI (σ : Hp) (t : T) (N : Int) (n : Nat) (vs : List AV) (σ' : Hp) : Prop :=
  ∃ (v : AV) (m : Nat), vs = [v, .int .i64 m] ∧ Lst σ σ' v 1 ((List.replicate m (nodes t.flat))) ∧ (m : Int) * t.flat.length < N ∧ n + m = 1000 ∧ (m : Int) ≤ N
theorem great_tail (hg0 : 0 ∈ gs) (hg1 : 3 ∈ gs) (hg2 : 4 ∈ gs) (hg3 : 1 ∈ gs) (N : Int) (hN1 : 740 ≤ N) (hN2 : N ≤ 995) (t : T) (ht : T.ok 29 false t) (hte : t.e ≤ 2) (htl : t.flat.length ≤ 4)
    (sl : Slots) (h0 : sl 0 = .int .i64 N) (h5 : sl 5 = .bool true) (h6 : sl 6 = nodes t.flat) (h : K (.bool true) σ) :
    GoC (env gs s) 104 (bodyQ (env gs s) [.t 4] K) C3_4 [] sl σ := by
  have htp := t.flat_len_pos
  unfold C3_4 C3_1 C3_2
  have hlm : (t.flat.map Node.av).length = t.flat.length := by simp
  have hnz : ((t.flat.length : Int) = 0) = False := eq_false (by omega)
  simp only [ev0, ev1, ev2, ev3, ev4, ev5, ev6, ev7, ev8, ev9, ev10, ew, Nat.reduceEqDiff, reduceCtorEq, Nat.reduceAdd, Nat.reduceSub, Nat.reduceMul, Nat.reduceLT, Nat.reduceLeDiff, Int.reduceLT, Int.reduceLE, Int.reduceEq, Int.reduceNe, Int.reduceAdd, Int.reduceSub, Int.reduceMul, Int.reduceNeg, Int.reduceToNat, h0, h5, h6, nodes, hnz]
  refine go_block ?_
  refine go_loop W3_0 [0, 5, 6] [.int .i64 N, .bool true, nodes t.flat] [7, 8] (greatI σ t N) A3_0_wr rfl ?_ ?_ ?_
  · simp only [ev0, ev1, ev2, ev3, ev4, ev5, ev6, ev7, ev8, ev9, ev10, ew, Nat.reduceEqDiff, reduceCtorEq, Nat.reduceAdd, Nat.reduceSub, Nat.reduceMul, Nat.reduceLT, Nat.reduceLeDiff, Int.reduceLT, Int.reduceLE, Int.reduceEq, Int.reduceNe, Int.reduceAdd, Int.reduceSub, Int.reduceMul, Int.reduceNeg, Int.reduceToNat, h0, h5, h6, nodes]
  · refine ⟨1000, _, _, Sub.refl _, FzL.refl _ _ _, .nils, 0, ?_, Lst.nil _ _, by simp; omega, by omega, by omega⟩
    simp only [ev0, ev1, ev2, ev3, ev4, ev5, ev6, ev7, ev8, ev9, ev10, ew, Nat.reduceEqDiff, reduceCtorEq, Nat.reduceAdd, Nat.reduceSub, Nat.reduceMul, Nat.reduceLT, Nat.reduceLeDiff, Int.reduceLT, Int.reduceLE, Int.reduceEq, Int.reduceNe, Int.reduceAdd, Int.reduceSub, Int.reduceMul, Int.reduceNeg, Int.reduceToNat]
  · rintro n vs σ' - ⟨v, m, rfl, hv, hm1, hm2, hm3⟩
    unfold A3_0
    have hvl : ∀ {N' : Nat} {Q : Exit → Slots → Hp → Prop} {l : List AOper} {fs : List Fr} {d : Option Nat} {sl : Slots}, GoO (env gs s) N' Q l fs (sl.put d (.int .i64 m)) σ' → Go1 (env gs s) N' Q (.len .slice (.t 0)) v d l fs sl σ' := by
      intro N' Q l fs d sl h
      rcases hv with ⟨rfl, hn, _⟩ | ⟨b, _, rfl, _⟩
      · have : m = 0 := by simpa using hn
        subst this; exact h
      · rw [List.length_replicate]; exact h
    have hmt : (m : Int) * t.flat.length = ((m * t.flat.length : Nat) : Int) := by simp
    have hmb : m * t.flat.length ≤ 995 := by rw [hmt] at hm1; omega
    have hwm : IntKind.i64.wrap ((m : Int) * t.flat.length) = ((m * t.flat.length : Nat) : Int) := by rw [hmt, i64_id _ (by omega) (by omega)]
    have hwa : IntKind.i64.wrap (((m * t.flat.length : Nat) : Int) + t.flat.length) = ((m * t.flat.length : Nat) : Int) + t.flat.length := i64_id _ (by omega) (by omega)
    have hw1 : IntKind.i64.wrap ((m : Int) + 1) = (m + 1 : Nat) := i64_id _ (by omega) (by omega)
    have fin : ∀ sl : Slots, sl 5 = .bool true → sl 7 = v → GoC (env gs s) 104 (bodyQ (env gs s) [.t 4] K) C3_3 [] sl σ' := by
      intro sl h5 h7
      unfold C3_3
      simp only [ev0, ev1, ev2, ev3, ev4, ev5, ev6, ev7, ev8, ev9, ev10, ew, Nat.reduceEqDiff, reduceCtorEq, Nat.reduceAdd, Nat.reduceSub, Nat.reduceMul, Nat.reduceLT, Nat.reduceLeDiff, Int.reduceLT, Int.reduceLE, Int.reduceEq, Int.reduceNe, Int.reduceAdd, Int.reduceSub, Int.reduceMul, Int.reduceNeg, Int.reduceToNat, h5, h7]
      refine go_callI (ACalls.freeze (σ' := σ) (args' := [.rd 1 ((List.replicate m t.flat).map nodes)]) hv.sub ⟨by rw [List.map_replicate]; exact hv.fz, trivial⟩ ?_)
      have hfl : (List.replicate m t.flat).flatten.length = m * t.flat.length := by
        have := flats_rep t m
        rwa [T.flats_eq, List.map_replicate] at this
      refine seq_spec (List.replicate m t.flat) (by rw [hfl]; omega) (by rw [List.length_replicate]; omega) ?_
      have hs := seqT_flat (List.replicate m t)
      rw [List.map_replicate] at hs
      rw [hs]
      have hok := seqT_ok m t ht
      have hl := seqT_len m t
      have he := seqT_e m t hte
      have he0 := (seqT (List.replicate m t)).e_nonneg
      generalize seqT (List.replicate m t) = p at hok hl he he0 ⊢
      have hle : ((p.flat.length : Nat) : Int) ≤ 1000 := by omega
      simp only [ev0, ev1, ev2, ev3, ev4, ev5, ev6, ev7, ev8, ev9, ev10, ew, Nat.reduceEqDiff, reduceCtorEq, Nat.reduceAdd, Nat.reduceSub, Nat.reduceMul, Nat.reduceLT, Nat.reduceLeDiff, Int.reduceLT, Int.reduceLE, Int.reduceEq, Int.reduceNe, Int.reduceAdd, Int.reduceSub, Int.reduceMul, Int.reduceNeg, Int.reduceToNat]
      refine go_callI (compile_spec hg0 hg1 hg2 p hok (T.ok_fit p hok (by omega)) (by omega) (by omega) fun L hL => ?_)
      have herr := hL.err
      obtain ⟨c1, c2, c3, c4, x, c5, c6⟩ := id hL
      simp only [ev0, ev1, ev2, ev3, ev4, ev5, ev6, ev7, ev8, ev9, ev10, ew, Nat.reduceEqDiff, reduceCtorEq, Nat.reduceAdd, Nat.reduceSub, Nat.reduceMul, Nat.reduceLT, Nat.reduceLeDiff, Int.reduceLT, Int.reduceLE, Int.reduceEq, Int.reduceNe, Int.reduceAdd, Int.reduceSub, Int.reduceMul, Int.reduceNeg, Int.reduceToNat, codeAV]
      intro b hb
      have hspl : ∀ v w : AV, (AV.agg [AV.nils, AV.int .i64 0]).splice 0 [v, w] = .agg [v, w] := fun _ _ => rfl
      have hp2 : ∀ v w : AV, Pat.part true 2 [v, w] 0 = some (.agg [v, w]) := fun _ _ => rfl
      have hlm : (L.map Ins.av).length = L.length := by simp
      have hlp : (p.flat.map Node.av).length = p.flat.length := by simp
      have hL9 : (L.length : Int) ≤ 9000 := by omega
      simp only [ev0, ev1, ev2, ev3, ev4, ev5, ev6, ev7, ev8, ev9, ev10, ew, Nat.reduceEqDiff, reduceCtorEq, Nat.reduceAdd, Nat.reduceSub, Nat.reduceMul, Nat.reduceLT, Nat.reduceLeDiff, Int.reduceLT, Int.reduceLE, Int.reduceEq, Int.reduceNe, Int.reduceAdd, Int.reduceSub, Int.reduceMul, Int.reduceNeg, Int.reduceToNat, upd_same, upd_upd, List.set_cons_zero, avc, hspl]
      refine ⟨by simp [AV.scalar], ?_⟩
      simp only [ev0, ev1, ev2, ev3, ev4, ev5, ev6, ev7, ev8, ev9, ev10, ew, Nat.reduceEqDiff, reduceCtorEq, Nat.reduceAdd, Nat.reduceSub, Nat.reduceMul, Nat.reduceLT, Nat.reduceLeDiff, Int.reduceLT, Int.reduceLE, Int.reduceEq, Int.reduceNe, Int.reduceAdd, Int.reduceSub, Int.reduceMul, Int.reduceNeg, Int.reduceToNat, h5, nodes, upd_same, part_f, avc, hlp, hle, hp2]
      refine go_callI (codeCheck_spec hg0 hg3 L p.e (by omega) ?_)
      rw [herr]
      simp only [ev0, ev1, ev2, ev3, ev4, ev5, ev6, ev7, ev8, ev9, ev10, ew, Nat.reduceEqDiff, reduceCtorEq, Nat.reduceAdd, Nat.reduceSub, Nat.reduceMul, Nat.reduceLT, Nat.reduceLeDiff, Int.reduceLT, Int.reduceLE, Int.reduceEq, Int.reduceNe, Int.reduceAdd, Int.reduceSub, Int.reduceMul, Int.reduceNeg, Int.reduceToNat, h5, upd_same, part_f, avc, hlm, hL9, he, q_ret1]
      exact Ret.less (Sub.upd hb) h
    by_cases hc1 : (m : Int) < N
    · simp only [ev0, ev1, ev2, ev3, ev4, ev5, ev6, ev7, ev8, ev9, ev10, ew, Nat.reduceEqDiff, reduceCtorEq, Nat.reduceAdd, Nat.reduceSub, Nat.reduceMul, Nat.reduceLT, Nat.reduceLeDiff, Int.reduceLT, Int.reduceLE, Int.reduceEq, Int.reduceNe, Int.reduceAdd, Int.reduceSub, Int.reduceMul, Int.reduceNeg, Int.reduceToNat, hc1]
      refine hvl ?_
      by_cases hc2 : ((m * t.flat.length : Nat) : Int) + t.flat.length < N
      · simp only [ev0, ev1, ev2, ev3, ev4, ev5, ev6, ev7, ev8, ev9, ev10, ew, Nat.reduceEqDiff, reduceCtorEq, Nat.reduceAdd, Nat.reduceSub, Nat.reduceMul, Nat.reduceLT, Nat.reduceLeDiff, Int.reduceLT, Int.reduceLE, Int.reduceEq, Int.reduceNe, Int.reduceAdd, Int.reduceSub, Int.reduceMul, Int.reduceNeg, Int.reduceToNat, nodes, hlm, hwm, hwa, hc2]
        refine go_block ?_
        have hp : (AV.rd 5 (t.flat.map Node.av)) = nodes t.flat := rfl
        rw [← hp] at hv
        try simp only [ev0, ev1, ev2, ev3, ev4, ev5, ev6, ev7, ev8, ev9, ev10, ew, Nat.reduceEqDiff, reduceCtorEq, Nat.reduceAdd, Nat.reduceSub, Nat.reduceMul, Nat.reduceLT, Nat.reduceLeDiff, Int.reduceLT, Int.reduceLE, Int.reduceEq, Int.reduceNe, Int.reduceAdd, Int.reduceSub, Int.reduceMul, Int.reduceNeg, Int.reduceToNat, view]
        refine hv.app (ys := [.rd 5 (t.flat.map Node.av)]) (by simp [AV.cells]) (by simp [AV.cells, AV.scalar]) (by simp; omega) fun v' σ'' hv' => ?_
        simp only [ev0, ev1, ev2, ev3, ev4, ev5, ev6, ev7, ev8, ev9, ev10, ew, Nat.reduceEqDiff, reduceCtorEq, Nat.reduceAdd, Nat.reduceSub, Nat.reduceMul, Nat.reduceLT, Nat.reduceLeDiff, Int.reduceLT, Int.reduceLE, Int.reduceEq, Int.reduceNe, Int.reduceAdd, Int.reduceSub, Int.reduceMul, Int.reduceNeg, Int.reduceToNat, hw1]
        refine loop_next (n - 1) (by omega) ⟨v', m + 1, ?_, ?_, ?_, by omega, by omega⟩
        · simp only [ev0, ev1, ev2, ev3, ev4, ev5, ev6, ev7, ev8, ev9, ev10, ew, Nat.reduceEqDiff, reduceCtorEq, Nat.reduceAdd, Nat.reduceSub, Nat.reduceMul, Nat.reduceLT, Nat.reduceLeDiff, Int.reduceLT, Int.reduceLE, Int.reduceEq, Int.reduceNe, Int.reduceAdd, Int.reduceSub, Int.reduceMul, Int.reduceNeg, Int.reduceToNat]
        · have : List.replicate (m + 1) (nodes t.flat) = List.replicate m (nodes t.flat) ++ [nodes t.flat] := by rw [List.replicate_succ']
          rw [this]; exact hv'
        · have : ((m + 1 : Nat) : Int) * t.flat.length = ((m * t.flat.length : Nat) : Int) + t.flat.length := by
            rw [Int.natCast_add, Int.add_mul]; simp
          omega
      · simp only [ev0, ev1, ev2, ev3, ev4, ev5, ev6, ev7, ev8, ev9, ev10, ew, Nat.reduceEqDiff, reduceCtorEq, Nat.reduceAdd, Nat.reduceSub, Nat.reduceMul, Nat.reduceLT, Nat.reduceLeDiff, Int.reduceLT, Int.reduceLE, Int.reduceEq, Int.reduceNe, Int.reduceAdd, Int.reduceSub, Int.reduceMul, Int.reduceNeg, Int.reduceToNat, nodes, hlm, hwm, hwa, hc2, loop_exit, kont_gox]
        refine fin _ ?_ ?_ <;> simp only [ev0, ev1, ev2, ev3, ev4, ev5, ev6, ev7, ev8, ev9, ev10, ew, Nat.reduceEqDiff, reduceCtorEq, Nat.reduceAdd, Nat.reduceSub, Nat.reduceMul, Nat.reduceLT, Nat.reduceLeDiff, Int.reduceLT, Int.reduceLE, Int.reduceEq, Int.reduceNe, Int.reduceAdd, Int.reduceSub, Int.reduceMul, Int.reduceNeg, Int.reduceToNat]
    · simp only [ev0, ev1, ev2, ev3, ev4, ev5, ev6, ev7, ev8, ev9, ev10, ew, Nat.reduceEqDiff, reduceCtorEq, Nat.reduceAdd, Nat.reduceSub, Nat.reduceMul, Nat.reduceLT, Nat.reduceLeDiff, Int.reduceLT, Int.reduceLE, Int.reduceEq, Int.reduceNe, Int.reduceAdd, Int.reduceSub, Int.reduceMul, Int.reduceNeg, Int.reduceToNat, hc1, loop_exit, kont_gox]
      refine fin _ ?_ ?_ <;> simp only [ev0, ev1, ev2, ev3, ev4, ev5, ev6, ev7, ev8, ev9, ev10, ew, Nat.reduceEqDiff, reduceCtorEq, Nat.reduceAdd, Nat.reduceSub, Nat.reduceMul, Nat.reduceLT, Nat.reduceLeDiff, Int.reduceLT, Int.reduceLE, Int.reduceEq, Int.reduceNe, Int.reduceAdd, Int.reduceSub, Int.reduceMul, Int.reduceNeg, Int.reduceToNat]
theorem great_spec (hg0 : 0 ∈ gs) (hg1 : 3 ∈ gs) (hg2 : 4 ∈ gs) (hg3 : 1 ∈ gs) (n kind : Int) (hk : -9223372036854775808 ≤ kind ∧ kind ≤ 9223372036854775807) (h : K (.bool true) σ) : ACalls (env gs s) 3 [.int .i64 n, .int .i64 kind] σ K := by
  refine A3_call rfl ?_
  unfold A3
  simp only [ev0, ev1, ev2, ev3, ev4, ev5, ev6, ev7, ev8, ev9, ev10, ew, Nat.reduceEqDiff, reduceCtorEq, Nat.reduceAdd, Nat.reduceSub, Nat.reduceMul, Nat.reduceLT, Nat.reduceLeDiff, Int.reduceLT, Int.reduceLE, Int.reduceEq, Int.reduceNe, Int.reduceAdd, Int.reduceSub, Int.reduceMul, Int.reduceNeg, Int.reduceToNat]
  refine go_callI (first_spec hg0 hg1 hg2 hg3 ?_)
  obtain ⟨N, hN, hN1, hN2⟩ : ∃ N : Int, IntKind.i64.wrap (IntKind.i64.wrap (BitVec.ofInt IntKind.i64.bits n &&& BitVec.ofInt IntKind.i64.bits 255).toNat + 740) = N ∧ 740 ≤ N ∧ N ≤ 995 := by
    have h1 : (BitVec.ofInt IntKind.i64.bits n &&& BitVec.ofInt IntKind.i64.bits 255).toNat ≤ 255 := by
      rw [BitVec.toNat_and]
      exact Nat.le_trans Nat.and_le_right (by decide)
    generalize (BitVec.ofInt IntKind.i64.bits n &&& BitVec.ofInt IntKind.i64.bits 255).toNat = a at h1
    have e1 : IntKind.i64.wrap (a : Int) = a := i64_id _ (by omega) (by omega)
    refine ⟨_, rfl, ?_, ?_⟩ <;> rw [e1, i64_id _ (by omega) (by omega)] <;> omega
  simp only [ev0, ev1, ev2, ev3, ev4, ev5, ev6, ev7, ev8, ev9, ev10, ew, Nat.reduceEqDiff, reduceCtorEq, Nat.reduceAdd, Nat.reduceSub, Nat.reduceMul, Nat.reduceLT, Nat.reduceLeDiff, Int.reduceLT, Int.reduceLE, Int.reduceEq, Int.reduceNe, Int.reduceAdd, Int.reduceSub, Int.reduceMul, Int.reduceNeg, Int.reduceToNat, hN]
  refine go_callI (lit_spec _ ?_)
  simp only [ev0, ev1, ev2, ev3, ev4, ev5, ev6, ev7, ev8, ev9, ev10, ew, Nat.reduceEqDiff, reduceCtorEq, Nat.reduceAdd, Nat.reduceSub, Nat.reduceMul, Nat.reduceLT, Nat.reduceLeDiff, Int.reduceLT, Int.reduceLE, Int.reduceEq, Int.reduceNe, Int.reduceAdd, Int.reduceSub, Int.reduceMul, Int.reduceNeg, Int.reduceToNat]
  refine blit_row rfl (by simp [nodes, AV.one]) ?_
  simp only [ev0, ev1, ev2, ev3, ev4, ev5, ev6, ev7, ev8, ev9, ev10, ew, Nat.reduceEqDiff, reduceCtorEq, Nat.reduceAdd, Nat.reduceSub, Nat.reduceMul, Nat.reduceLT, Nat.reduceLeDiff, Int.reduceLT, Int.reduceLE, Int.reduceEq, Int.reduceNe, Int.reduceAdd, Int.reduceSub, Int.reduceMul, Int.reduceNeg, Int.reduceToNat]
  refine go_callI (new_spec 21 0 [] [[⟨1, 0, 0, 1, [97]⟩]] (by simp) (by simp) ?_)
  have e0 : newL 21 0 [] [[⟨1, 0, 0, 1, [97]⟩]] = (oneT 0).flat := rfl
  rw [e0]
  have hr1 := Int.emod_nonneg kind (b := 4) (by omega)
  have hrw : IntKind.i64.wrap (kind.tmod 4 + 4) = kind.tmod 4 + 4 := by
    have h1 : -4 < kind.tmod 4 ∧ kind.tmod 4 < 4 := by
      constructor
      · have := Int.lt_tmod_of_pos kind (b := 4) (by omega); omega
      · exact Int.tmod_lt_of_pos kind (by omega)
    exact i64_id _ (by omega) (by omega)
  generalize hD : (kind.tmod 4 + 4).tmod 4 = D
  have tail : ∀ k : Nat, ∀ sl : Slots, sl 0 = .int .i64 N → sl 5 = .bool true → sl 6 = nodes (oneT k).flat → GoC (env gs s) 104 (bodyQ (env gs s) [.t 4] K) C3_4 [] sl σ :=
    fun k sl h0 h5 h6 => great_tail hg0 hg1 hg2 hg3 N hN1 hN2 (oneT k) (one_ok k) (one_e k) (one_len k) sl h0 h5 h6 h
  unfold C3_0
  have h4 : ((4 : Int) = 0) = False := by simp
  simp only [ev0, ev1, ev2, ev3, ev4, ev5, ev6, ev7, ev8, ev9, ev10, ew, Nat.reduceEqDiff, reduceCtorEq, Nat.reduceAdd, Nat.reduceSub, Nat.reduceMul, Nat.reduceLT, Nat.reduceLeDiff, Int.reduceLT, Int.reduceLE, Int.reduceEq, Int.reduceNe, Int.reduceAdd, Int.reduceSub, Int.reduceMul, Int.reduceNeg, Int.reduceToNat, hrw, hD]
  refine go_block ?_
  by_cases d1 : D = 1
  · simp only [ev0, ev1, ev2, ev3, ev4, ev5, ev6, ev7, ev8, ev9, ev10, ew, Nat.reduceEqDiff, reduceCtorEq, Nat.reduceAdd, Nat.reduceSub, Nat.reduceMul, Nat.reduceLT, Nat.reduceLeDiff, Int.reduceLT, Int.reduceLE, Int.reduceEq, Int.reduceNe, Int.reduceAdd, Int.reduceSub, Int.reduceMul, Int.reduceNeg, Int.reduceToNat, d1]
    refine go_callI (new0_spec 20 0 [] ?_)
    simp only [ev0, ev1, ev2, ev3, ev4, ev5, ev6, ev7, ev8, ev9, ev10, ew, Nat.reduceEqDiff, reduceCtorEq, Nat.reduceAdd, Nat.reduceSub, Nat.reduceMul, Nat.reduceLT, Nat.reduceLeDiff, Int.reduceLT, Int.reduceLE, Int.reduceEq, Int.reduceNe, Int.reduceAdd, Int.reduceSub, Int.reduceMul, Int.reduceNeg, Int.reduceToNat]
    refine go_callI (new0_spec 20 0 [] ?_)
    simp only [ev0, ev1, ev2, ev3, ev4, ev5, ev6, ev7, ev8, ev9, ev10, ew, Nat.reduceEqDiff, reduceCtorEq, Nat.reduceAdd, Nat.reduceSub, Nat.reduceMul, Nat.reduceLT, Nat.reduceLeDiff, Int.reduceLT, Int.reduceLE, Int.reduceEq, Int.reduceNe, Int.reduceAdd, Int.reduceSub, Int.reduceMul, Int.reduceNeg, Int.reduceToNat]
    refine blit_row rfl (by simp [nodes, AV.one]) ?_
    simp only [ev0, ev1, ev2, ev3, ev4, ev5, ev6, ev7, ev8, ev9, ev10, ew, Nat.reduceEqDiff, reduceCtorEq, Nat.reduceAdd, Nat.reduceSub, Nat.reduceMul, Nat.reduceLT, Nat.reduceLeDiff, Int.reduceLT, Int.reduceLE, Int.reduceEq, Int.reduceNe, Int.reduceAdd, Int.reduceSub, Int.reduceMul, Int.reduceNeg, Int.reduceToNat]
    refine go_callI (new_spec 32 0 [] [[⟨20, 0, 0, 1, []⟩], [⟨20, 0, 0, 1, []⟩]] (by simp) (by simp) ?_)
    simp only [ev0, ev1, ev2, ev3, ev4, ev5, ev6, ev7, ev8, ev9, ev10, ew, Nat.reduceEqDiff, reduceCtorEq, Nat.reduceAdd, Nat.reduceSub, Nat.reduceMul, Nat.reduceLT, Nat.reduceLeDiff, Int.reduceLT, Int.reduceLE, Int.reduceEq, Int.reduceNe, Int.reduceAdd, Int.reduceSub, Int.reduceMul, Int.reduceNeg, Int.reduceToNat]
    refine tail 1 _ ?_ ?_ ?_ <;> simp only [ev0, ev1, ev2, ev3, ev4, ev5, ev6, ev7, ev8, ev9, ev10, ew, Nat.reduceEqDiff, reduceCtorEq, Nat.reduceAdd, Nat.reduceSub, Nat.reduceMul, Nat.reduceLT, Nat.reduceLeDiff, Int.reduceLT, Int.reduceLE, Int.reduceEq, Int.reduceNe, Int.reduceAdd, Int.reduceSub, Int.reduceMul, Int.reduceNeg, Int.reduceToNat]
    rfl
  by_cases d2 : D = 2
  · simp only [ev0, ev1, ev2, ev3, ev4, ev5, ev6, ev7, ev8, ev9, ev10, ew, Nat.reduceEqDiff, reduceCtorEq, Nat.reduceAdd, Nat.reduceSub, Nat.reduceMul, Nat.reduceLT, Nat.reduceLeDiff, Int.reduceLT, Int.reduceLE, Int.reduceEq, Int.reduceNe, Int.reduceAdd, Int.reduceSub, Int.reduceMul, Int.reduceNeg, Int.reduceToNat, d2]
    refine go_callI (lit_spec _ ?_)
    simp only [ev0, ev1, ev2, ev3, ev4, ev5, ev6, ev7, ev8, ev9, ev10, ew, Nat.reduceEqDiff, reduceCtorEq, Nat.reduceAdd, Nat.reduceSub, Nat.reduceMul, Nat.reduceLT, Nat.reduceLeDiff, Int.reduceLT, Int.reduceLE, Int.reduceEq, Int.reduceNe, Int.reduceAdd, Int.reduceSub, Int.reduceMul, Int.reduceNeg, Int.reduceToNat]
    refine go_callI (new0_spec 20 0 [] ?_)
    simp only [ev0, ev1, ev2, ev3, ev4, ev5, ev6, ev7, ev8, ev9, ev10, ew, Nat.reduceEqDiff, reduceCtorEq, Nat.reduceAdd, Nat.reduceSub, Nat.reduceMul, Nat.reduceLT, Nat.reduceLeDiff, Int.reduceLT, Int.reduceLE, Int.reduceEq, Int.reduceNe, Int.reduceAdd, Int.reduceSub, Int.reduceMul, Int.reduceNeg, Int.reduceToNat]
    refine blit_row rfl (by simp [nodes, AV.one]) ?_
    simp only [ev0, ev1, ev2, ev3, ev4, ev5, ev6, ev7, ev8, ev9, ev10, ew, Nat.reduceEqDiff, reduceCtorEq, Nat.reduceAdd, Nat.reduceSub, Nat.reduceMul, Nat.reduceLT, Nat.reduceLeDiff, Int.reduceLT, Int.reduceLE, Int.reduceEq, Int.reduceNe, Int.reduceAdd, Int.reduceSub, Int.reduceMul, Int.reduceNeg, Int.reduceToNat]
    refine go_callI (new_spec 29 0 [120] [[⟨1, 0, 0, 1, [97]⟩], [⟨20, 0, 0, 1, []⟩]] (by simp) (by simp) ?_)
    simp only [ev0, ev1, ev2, ev3, ev4, ev5, ev6, ev7, ev8, ev9, ev10, ew, Nat.reduceEqDiff, reduceCtorEq, Nat.reduceAdd, Nat.reduceSub, Nat.reduceMul, Nat.reduceLT, Nat.reduceLeDiff, Int.reduceLT, Int.reduceLE, Int.reduceEq, Int.reduceNe, Int.reduceAdd, Int.reduceSub, Int.reduceMul, Int.reduceNeg, Int.reduceToNat]
    refine tail 2 _ ?_ ?_ ?_ <;> simp only [ev0, ev1, ev2, ev3, ev4, ev5, ev6, ev7, ev8, ev9, ev10, ew, Nat.reduceEqDiff, reduceCtorEq, Nat.reduceAdd, Nat.reduceSub, Nat.reduceMul, Nat.reduceLT, Nat.reduceLeDiff, Int.reduceLT, Int.reduceLE, Int.reduceEq, Int.reduceNe, Int.reduceAdd, Int.reduceSub, Int.reduceMul, Int.reduceNeg, Int.reduceToNat]
    rfl
  by_cases d3 : D = 3
  · simp only [ev0, ev1, ev2, ev3, ev4, ev5, ev6, ev7, ev8, ev9, ev10, ew, Nat.reduceEqDiff, reduceCtorEq, Nat.reduceAdd, Nat.reduceSub, Nat.reduceMul, Nat.reduceLT, Nat.reduceLeDiff, Int.reduceLT, Int.reduceLE, Int.reduceEq, Int.reduceNe, Int.reduceAdd, Int.reduceSub, Int.reduceMul, Int.reduceNeg, Int.reduceToNat, d3]
    refine go_callI (lit_spec _ ?_)
    simp only [ev0, ev1, ev2, ev3, ev4, ev5, ev6, ev7, ev8, ev9, ev10, ew, Nat.reduceEqDiff, reduceCtorEq, Nat.reduceAdd, Nat.reduceSub, Nat.reduceMul, Nat.reduceLT, Nat.reduceLeDiff, Int.reduceLT, Int.reduceLE, Int.reduceEq, Int.reduceNe, Int.reduceAdd, Int.reduceSub, Int.reduceMul, Int.reduceNeg, Int.reduceToNat]
    refine go_callI (new0_spec 2 0 [120] ?_)
    simp only [ev0, ev1, ev2, ev3, ev4, ev5, ev6, ev7, ev8, ev9, ev10, ew, Nat.reduceEqDiff, reduceCtorEq, Nat.reduceAdd, Nat.reduceSub, Nat.reduceMul, Nat.reduceLT, Nat.reduceLeDiff, Int.reduceLT, Int.reduceLE, Int.reduceEq, Int.reduceNe, Int.reduceAdd, Int.reduceSub, Int.reduceMul, Int.reduceNeg, Int.reduceToNat]
    refine blit_row rfl (by simp [nodes, AV.one]) ?_
    simp only [ev0, ev1, ev2, ev3, ev4, ev5, ev6, ev7, ev8, ev9, ev10, ew, Nat.reduceEqDiff, reduceCtorEq, Nat.reduceAdd, Nat.reduceSub, Nat.reduceMul, Nat.reduceLT, Nat.reduceLeDiff, Int.reduceLT, Int.reduceLE, Int.reduceEq, Int.reduceNe, Int.reduceAdd, Int.reduceSub, Int.reduceMul, Int.reduceNeg, Int.reduceToNat]
    refine go_callI (new_spec 4 0 [] [[⟨1, 0, 0, 1, [97]⟩], [⟨2, 0, 0, 1, [120]⟩]] (by simp) (by simp) ?_)
    simp only [ev0, ev1, ev2, ev3, ev4, ev5, ev6, ev7, ev8, ev9, ev10, ew, Nat.reduceEqDiff, reduceCtorEq, Nat.reduceAdd, Nat.reduceSub, Nat.reduceMul, Nat.reduceLT, Nat.reduceLeDiff, Int.reduceLT, Int.reduceLE, Int.reduceEq, Int.reduceNe, Int.reduceAdd, Int.reduceSub, Int.reduceMul, Int.reduceNeg, Int.reduceToNat]
    refine blit_row rfl (by simp [nodes, AV.one]) ?_
    simp only [ev0, ev1, ev2, ev3, ev4, ev5, ev6, ev7, ev8, ev9, ev10, ew, Nat.reduceEqDiff, reduceCtorEq, Nat.reduceAdd, Nat.reduceSub, Nat.reduceMul, Nat.reduceLT, Nat.reduceLeDiff, Int.reduceLT, Int.reduceLE, Int.reduceEq, Int.reduceNe, Int.reduceAdd, Int.reduceSub, Int.reduceMul, Int.reduceNeg, Int.reduceToNat]
    refine go_callI (new_spec 22 0 [120] [newL 4 0 [] [[⟨1, 0, 0, 1, [97]⟩], [⟨2, 0, 0, 1, [120]⟩]]] (by simp [newL]) (by simp) ?_)
    simp only [ev0, ev1, ev2, ev3, ev4, ev5, ev6, ev7, ev8, ev9, ev10, ew, Nat.reduceEqDiff, reduceCtorEq, Nat.reduceAdd, Nat.reduceSub, Nat.reduceMul, Nat.reduceLT, Nat.reduceLeDiff, Int.reduceLT, Int.reduceLE, Int.reduceEq, Int.reduceNe, Int.reduceAdd, Int.reduceSub, Int.reduceMul, Int.reduceNeg, Int.reduceToNat]
    refine tail 3 _ ?_ ?_ ?_ <;> simp only [ev0, ev1, ev2, ev3, ev4, ev5, ev6, ev7, ev8, ev9, ev10, ew, Nat.reduceEqDiff, reduceCtorEq, Nat.reduceAdd, Nat.reduceSub, Nat.reduceMul, Nat.reduceLT, Nat.reduceLeDiff, Int.reduceLT, Int.reduceLE, Int.reduceEq, Int.reduceNe, Int.reduceAdd, Int.reduceSub, Int.reduceMul, Int.reduceNeg, Int.reduceToNat]
    rfl
  · simp only [ev0, ev1, ev2, ev3, ev4, ev5, ev6, ev7, ev8, ev9, ev10, ew, Nat.reduceEqDiff, reduceCtorEq, Nat.reduceAdd, Nat.reduceSub, Nat.reduceMul, Nat.reduceLT, Nat.reduceLeDiff, Int.reduceLT, Int.reduceLE, Int.reduceEq, Int.reduceNe, Int.reduceAdd, Int.reduceSub, Int.reduceMul, Int.reduceNeg, Int.reduceToNat, d1, d2, d3]
    refine tail 0 _ ?_ ?_ ?_ <;> simp only [ev0, ev1, ev2, ev3, ev4, ev5, ev6, ev7, ev8, ev9, ev10, ew, Nat.reduceEqDiff, reduceCtorEq, Nat.reduceAdd, Nat.reduceSub, Nat.reduceMul, Nat.reduceLT, Nat.reduceLeDiff, Int.reduceLT, Int.reduceLE, Int.reduceEq, Int.reduceNe, Int.reduceAdd, Int.reduceSub, Int.reduceMul, Int.reduceNeg, Int.reduceToNat]
end Go.Proofs.YthmcfphafofheaaDoor
