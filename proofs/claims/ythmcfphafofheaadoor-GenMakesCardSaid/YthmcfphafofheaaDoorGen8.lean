/- Contracts: a program is made code. No statement of the seat is proved in this file. -/
import Derived.Test.YthmcfphafofheaaDoorGen7
open Go Go.Proofs
namespace Go.Proofs.YthmcfphafofheaaDoor
open Pat
set_option maxRecDepth 10000
set_option maxHeartbeats 1000000
set_option linter.unusedSimpArgs false
set_option linter.unusedVariables false
variable {gs : List Nat} {s : Nat → Addr} {σ : Hp} {K : AV → Hp → Prop}
theorem Fz.agg {E : Env} {σ σ' : Hp} {vs vs' : List AV} (h : FzL E σ σ' vs vs') : Fz E σ σ' (.agg vs) (.agg vs') := fun w x hH hs hr => by
  obtain ⟨cs, rfl, h1, h2⟩ := hr.agg_inv
  refine .agg cs vs' (h1.trans h.get.1) fun j p q hp hq => ?_
  have hj : j < vs.length := by rw [h.get.1]; exact (List.getElem?_eq_some_iff.1 hq).1
  exact h.get.2 j vs[j] q (List.getElem?_eq_getElem hj) hq w p hH hs (h2 j p _ hp (List.getElem?_eq_getElem hj))
theorem q_retc {E : Env} {s : Slots} (n m sz : Nat) {b i off sz' : Nat} {els : List AV} {x v : AV} (h1 : s n = .ptr b sz' i off) (h2 : σ b = some (.row sz' els)) (h3 : els[i]? = some x) (h4 : Pat.part true sz x.cells off = some v) : bodyQ E [.cell n true sz, .t m] K .ret s σ = Ret E K (.tuple [v, s m]) σ := by
  show aRet E [.cell n true sz, .t m] K s σ = _
  simp only [aRet, aRess, aRes, h1, h2, if_true, h3, h4]
theorem q_retc1 {E : Env} {s : Slots} (n sz : Nat) {b i off sz' : Nat} {els : List AV} {x v : AV} (h1 : s n = .ptr b sz' i off) (h2 : σ b = some (.row sz' els)) (h3 : els[i]? = some x) (h4 : Pat.part true sz x.cells off = some v) : bodyQ E [.cell n true sz] K .ret s σ = Ret E K v σ := by
  show aRet E [.cell n true sz] K s σ = _
  simp only [aRet, aRess, aRes, h1, h2, if_true, h3, h4]
theorem op_exact {σ0 : Hp} {bw : Nat} {st : St} (op a b : Int) (str : List UInt8) (hw : WS σ0 bw st σ) (hl : st.l.length ≤ 1000000)
    (h : ∀ σ', WS σ0 bw { st with l := st.l ++ [⟨op, a, b, str⟩] } σ' → K (.int .i64 st.l.length) σ') : ACalls (env gs s) 49 [.ptr bw 3 0 0, .int .i64 op, .int .i64 a, .int .i64 b, .str str] σ K := by
  refine A49_call rfl ?_
  unfold A49
  simp only [ev0, ev1, ev2, ev3, ev4, ev5, ev6, ev7, ev8, ev9, ev10, ew, Nat.reduceEqDiff, reduceCtorEq, Nat.reduceAdd, Nat.reduceSub, Nat.reduceMul, Nat.reduceLT, Nat.reduceLeDiff, Int.reduceLT, Int.reduceLE, Int.reduceEq, Int.reduceNe, Int.reduceAdd, Int.reduceSub, Int.reduceMul, Int.reduceNeg, Int.reduceToNat]
  refine ⟨by simp [partsOk, avc], ?_⟩; simp only [fillA, avc, List.take, List.drop, List.cons_append, List.nil_append, List.length_cons, List.length_nil, Nat.reduceAdd, ev0, ev1, ev2, ev3, ev4, ev5, ev6, ev7, ev8, ev9, ev10, ew, Nat.reduceEqDiff, reduceCtorEq, Nat.reduceAdd, Nat.reduceSub, Nat.reduceMul, Nat.reduceLT, Nat.reduceLeDiff, Int.reduceLT, Int.reduceLE, Int.reduceEq, Int.reduceNe, Int.reduceAdd, Int.reduceSub, Int.reduceMul, Int.reduceNeg, Int.reduceToNat]
  refine go_callI (add_spec ⟨op, a, b, str⟩ hw hl fun σ' hw' hk => ?_)
  simp only [ev0, ev1, ev2, ev3, ev4, ev5, ev6, ev7, ev8, ev9, ev10, ew, Nat.reduceEqDiff, reduceCtorEq, Nat.reduceAdd, Nat.reduceSub, Nat.reduceMul, Nat.reduceLT, Nat.reduceLeDiff, Int.reduceLT, Int.reduceLE, Int.reduceEq, Int.reduceNe, Int.reduceAdd, Int.reduceSub, Int.reduceMul, Int.reduceNeg, Int.reduceToNat, q_ret1]
  exact Ret.here (h σ' hw')
/-- Code that may be. -/
structure CodeOk (L : List Ins) (h : Int) : Prop where
  may : ∀ x ∈ L, okA (L.length - 1) x
  pos : 0 < L.length
  few : L.length ≤ 9000
  high : 0 ≤ h ∧ h ≤ 9000
  last : ∃ x, L[L.length - 1]? = some x ∧ x.op = 41
def codeAV (L : List Ins) (h : Int) : AV := .agg [.rd 4 (L.map Ins.av), .int .i64 h]
theorem compile_spec (hg0 : 0 ∈ gs) (hg1 : 3 ∈ gs) (hg2 : 4 ∈ gs) (t : T) (hok : T.ok 30 false t) (hs : ∀ x ∈ t.flat, x.fit) (hl : t.flat.length ≤ 1100) (hb : 8 * t.flat.length ≤ 9000)
    (h : ∀ L, CodeOk L t.e → K (.tuple [codeAV L t.e, .nilIface]) σ) : ACalls (env gs s) 17 [nodes t.flat] σ K := by
  refine A17_call rfl ?_
  unfold A17
  have htp := t.flat_len_pos
  have hte := T.e_bound hok
  have hcheck : ∀ {K' : AV → Hp → Prop} {σ' : Hp}, K' .nilIface σ' → ACalls (env gs s) 20 [nodes t.flat] σ' K' := fun h => by
    refine check_spec hg0 hg1 hg2 t.flat hs (by omega) ?_
    have := T.ok_look 30 t false true 0 [] hok (fun _ => rfl)
    rw [List.append_nil] at this
    rw [if_neg (by rintro (h | h); exact t.flat_ne h; omega), this]
    exact h
  simp only [ev0, ev1, ev2, ev3, ev4, ev5, ev6, ev7, ev8, ev9, ev10, ew, Nat.reduceEqDiff, reduceCtorEq, Nat.reduceAdd, Nat.reduceSub, Nat.reduceMul, Nat.reduceLT, Nat.reduceLeDiff, Int.reduceLT, Int.reduceLE, Int.reduceEq, Int.reduceNe, Int.reduceAdd, Int.reduceSub, Int.reduceMul, Int.reduceNeg, Int.reduceToNat]
  intro b2 hb2
  refine go_callI (hcheck ?_)
  simp only [ev0, ev1, ev2, ev3, ev4, ev5, ev6, ev7, ev8, ev9, ev10, ew, Nat.reduceEqDiff, reduceCtorEq, Nat.reduceAdd, Nat.reduceSub, Nat.reduceMul, Nat.reduceLT, Nat.reduceLeDiff, Int.reduceLT, Int.reduceLE, Int.reduceEq, Int.reduceNe, Int.reduceAdd, Int.reduceSub, Int.reduceMul, Int.reduceNeg, Int.reduceToNat]
  refine ⟨by simp [partsOk, avc], ?_⟩; simp only [fillA, avc, List.take, List.drop, List.cons_append, List.nil_append, List.length_cons, List.length_nil, Nat.reduceAdd, ev0, ev1, ev2, ev3, ev4, ev5, ev6, ev7, ev8, ev9, ev10, ew, Nat.reduceEqDiff, reduceCtorEq, Nat.reduceAdd, Nat.reduceSub, Nat.reduceMul, Nat.reduceLT, Nat.reduceLeDiff, Int.reduceLT, Int.reduceLE, Int.reduceEq, Int.reduceNe, Int.reduceAdd, Int.reduceSub, Int.reduceMul, Int.reduceNeg, Int.reduceToNat]
  intro bw hbw
  have hne : bw ≠ b2 := fun e => by rw [e, upd_same] at hbw; cases hbw
  have hb2' : ∀ X : ABlk, (σ.upd b2 X) bw = none := fun X => by rw [upd_ne hne]; rwa [upd_ne hne] at hbw
  have w0 : WS (σ.upd b2 (.row 2 [.agg [.nils, .int .i64 0]])) bw ⟨[], 0, 0⟩ ((σ.upd b2 (.row 2 [.agg [.nils, .int .i64 0]])).upd bw (.row 3 [.agg [.nils, .int .i64 0, .int .i64 0]])) :=
    ⟨sub_upd (fun _ _ h => h) (hb2' _), hb2' _, .inl ⟨rfl, upd_same _ _⟩⟩
  have hI0 : Inv ⟨[], 0, 0⟩ := ⟨(fun x hx => by cases hx), by simp, by simp⟩
  try simp only [ev0, ev1, ev2, ev3, ev4, ev5, ev6, ev7, ev8, ev9, ev10, ew, Nat.reduceEqDiff, reduceCtorEq, Nat.reduceAdd, Nat.reduceSub, Nat.reduceMul, Nat.reduceLT, Nat.reduceLeDiff, Int.reduceLT, Int.reduceLE, Int.reduceEq, Int.reduceNe, Int.reduceAdd, Int.reduceSub, Int.reduceMul, Int.reduceNeg, Int.reduceToNat]
  refine go_callI ((gen_ok t).2 30 _ _ bw _ _ hok w0 hI0 (by simp; omega) (by simp; omega) fun st1 σ1 w1 q1 => ?_)
  have l1 := q1.2.2.1
  have e1 := q1.2.2.2.2
  have n1 := q1.2.2.2.1
  simp only [List.length_nil] at l1
  dsimp only at e1
  simp only [ev0, ev1, ev2, ev3, ev4, ev5, ev6, ev7, ev8, ev9, ev10, ew, Nat.reduceEqDiff, reduceCtorEq, Nat.reduceAdd, Nat.reduceSub, Nat.reduceMul, Nat.reduceLT, Nat.reduceLeDiff, Int.reduceLT, Int.reduceLE, Int.reduceEq, Int.reduceNe, Int.reduceAdd, Int.reduceSub, Int.reduceMul, Int.reduceNeg, Int.reduceToNat]
  refine go_callI (op_exact 41 0 0 [] w1 (by omega) fun σ2 w2 => ?_)
  obtain ⟨bl, bl1, bl2, bl3, bl4⟩ := w2.own (by simp)
  have hlen : (st1.l ++ [(⟨41, 0, 0, []⟩ : Ins)]).length = st1.l.length + 1 := by simp
  dsimp only at bl3 bl4
  rw [hlen] at bl3
  have hn9 : ¬ (9000 : Int) < ((st1.l.length + 1 : Nat) : Int) := by omega
  have hcell := w2.1 b2 _ (upd_same _ _)
  have hb2bw : b2 ≠ bw := hne.symm
  simp only [ev0, ev1, ev2, ev3, ev4, ev5, ev6, ev7, ev8, ev9, ev10, ew, Nat.reduceEqDiff, reduceCtorEq, Nat.reduceAdd, Nat.reduceSub, Nat.reduceMul, Nat.reduceLT, Nat.reduceLeDiff, Int.reduceLT, Int.reduceLE, Int.reduceEq, Int.reduceNe, Int.reduceAdd, Int.reduceSub, Int.reduceMul, Int.reduceNeg, Int.reduceToNat, bl3, wrow, part_f, avc, hn9]
  have hspl : ∀ v w : AV, (AV.agg [AV.nils, AV.int .i64 0]).splice 0 [v, w] = .agg [v, w] := fun _ _ => rfl
  have hfill : ∀ v w : AV, fillA [AV.nils, AV.int .i64 0] [(0, [v]), (1, [w])] = [v, w] := fun _ _ => rfl
  refine DT17_9_go ?_
  unfold DT17_9
  repeat' first
    | simp only [ev0, ev1, ev2, ev3, ev4, ev5, ev6, ev7, ev8, ev9, ev10, ew, Nat.reduceEqDiff, reduceCtorEq, Nat.reduceAdd, Nat.reduceSub, Nat.reduceMul, Nat.reduceLT, Nat.reduceLeDiff, Int.reduceLT, Int.reduceLE, Int.reduceEq, Int.reduceNe, Int.reduceAdd, Int.reduceSub, Int.reduceMul, Int.reduceNeg, Int.reduceToNat, bl3, wrow, part_f, avc, hcell, hspl, hfill, List.set_cons_zero]
    | with_reducible refine And.intro ?_ ?_
  · simp [partsOk, avc]
  · intro y hy
    rcases List.mem_cons.1 hy with rfl | hy
    · rfl
    · rw [List.mem_singleton.1 hy]; rfl
  · rw [q_retc (b := b2) (i := 0) (off := 0) (sz' := 2) (x := .agg [.own bl 4 0 (st1.l.length + 1), .int .i64 st1.high]) (v := .agg [.own bl 4 0 (st1.l.length + 1), .int .i64 st1.high]) 2 3 2 (by simp only [ev0, ev1, ev2, ev3, ev4, ev5, ev6, ev7, ev8, ev9, ev10, ew, Nat.reduceEqDiff, reduceCtorEq, Nat.reduceAdd, Nat.reduceSub, Nat.reduceMul, Nat.reduceLT, Nat.reduceLeDiff, Int.reduceLT, Int.reduceLE, Int.reduceEq, Int.reduceNe, Int.reduceAdd, Int.reduceSub, Int.reduceMul, Int.reduceNeg, Int.reduceToNat]) (upd_same _ _) rfl rfl]
    have hhigh : st1.high = t.e := by omega
    have hsub : Sub σ (σ2.upd b2 (.row 2 [.agg [.own bl 4 0 (st1.l.length + 1), .int .i64 st1.high]])) := fun c x hc => by
      have hcb : c ≠ b2 := fun e => by rw [e, hb2] at hc; cases hc
      rw [upd_ne hcb]
      exact w2.1 c x (by rw [upd_ne hcb]; exact hc)
    have hblb : bl ≠ b2 := fun e => by rw [e, upd_same] at bl2; cases bl2
    have hbl0 : σ bl = none := by rwa [upd_ne hblb] at bl2
    refine Ret.as (v' := .tuple [codeAV (st1.l ++ [⟨41, 0, 0, []⟩]) t.e, .nilIface]) hsub (Fz.tuple ⟨Fz.agg ⟨?_, ?_, trivial⟩, Fz.refl _ _ _, trivial⟩) (h _ ⟨?_, ?_, ?_, ?_, ?_⟩)
    · have := Fz.own (E := env gs s) (σ := σ2.upd b2 (.row 2 [.agg [.own bl 4 0 (st1.l.length + 1), .int .i64 st1.high]])) (σ' := σ) (b := bl) (sz := 4) (i := 0) (n := st1.l.length + 1) (els := (st1.l ++ [(⟨41, 0, 0, []⟩ : Ins)]).map Ins.av) (by rw [upd_ne hblb]; exact bl4) (by simp) hbl0
      have hl : ((st1.l ++ [(⟨41, 0, 0, []⟩ : Ins)]).map Ins.av).length = st1.l.length + 1 := by simp
      rwa [List.drop_zero, ← hl, List.take_length, hl] at this
    · rw [hhigh]; exact Fz.refl _ _ _
    · intro x hx
      rw [hlen, Nat.add_sub_cancel]
      rcases List.mem_append.1 hx with hx | hx
      · exact q1.1.1 x hx
      · rw [List.mem_singleton.1 hx]
        exact okA_plain (by omega) (by omega) (by simp) (by omega) (by simp)
    · rw [hlen]; omega
    · rw [hlen]; omega
    · omega
    · exact ⟨⟨41, 0, 0, []⟩, by rw [hlen, Nat.add_sub_cancel]; simp, rfl⟩
end Go.Proofs.YthmcfphafofheaaDoor
