/- Contracts: instructions are added, turned, counted. No statement of the seat is proved in this file. -/
import Derived.Test.YthmcfphafofheaaDoorCodeGen
import Derived.Test.YthmcfphafofheaaDoorGenT
import Derived.Test.YthmcfphafofheaaDoorCore2
open Go Go.Proofs
namespace Go.Proofs.YthmcfphafofheaaDoor
open Pat
set_option maxRecDepth 10000
set_option linter.unusedSimpArgs false
set_option linter.unusedVariables false
variable {gs : List Nat} {s : Nat → Addr} {σ : Hp} {K : AV → Hp → Prop}
theorem upd_ne {b b' : Nat} {x : ABlk} (h : b ≠ b') : σ.upd b' x b = σ b := by simp [Hp.upd, h]
theorem app_keep {E : Env} {N : Nat} {Q : Exit → Slots → Hp → Prop} {fs : List Fr} {sl : Slots} {l : List AOper} {d : Option Nat} {b sz bytes : Nat} {els ys : List AV} (hσ : σ b = some (.row sz els)) (h1 : ∀ y ∈ ys, y.cells.length = sz) (h2 : ∀ y ∈ ys, ∀ c ∈ y.cells, c.scalar = true)
    (hb : (els.length + ys.length) * bytes ≤ 140737488355328) (hk : ∀ b', (b' = b ∨ σ b' = none) → GoO E N Q l fs (sl.put d (.own b' sz 0 (els.length + ys.length))) (σ.upd b' (.row sz (els ++ ys)))) : GoApp E N Q sz bytes (.own b sz 0 els.length) (some ys) d l fs sl σ := by
  refine ⟨h1, h2, ?_⟩
  simp only [hσ]
  refine ⟨⟨trivial, trivial, by omega⟩, .inl hb, fun hle => ?_, fun hlt b' i' els' hc => .inr ?_⟩
  · have := hk b (.inl rfl)
    have hy : ys = [] := List.eq_nil_of_length_eq_zero (by omega)
    subst hy
    simpa using this
  · rcases hc with ⟨rfl, rfl, rfl⟩ | ⟨hn, rfl, rfl⟩
    · simpa using hk b' (.inl rfl)
    · simpa using hk b' (.inr hn)

structure Ins where
  op : Int
  a : Int
  b : Int
  str : List UInt8
def Ins.av (x : Ins) : AV := .agg [.int .i64 x.op, .int .i64 x.a, .int .i64 x.b, .str x.str]
theorem ins_ok (l : List Ins) : (∀ y ∈ l.map Ins.av, y.cells.length = 4) ∧ (∀ y ∈ l.map Ins.av, ∀ c ∈ y.cells, c.scalar = true) := by
  constructor
  · intro y hy
    obtain ⟨x, _, rfl⟩ := List.mem_map.1 hy
    rfl
  · intro y hy c hc
    obtain ⟨x, _, rfl⟩ := List.mem_map.1 hy
    simp only [Ins.av, AV.cells, List.mem_cons, List.not_mem_nil, or_false] at hc
    rcases hc with rfl | rfl | rfl | rfl <;> rfl
/-- What a writer has written, and how high the stack is. -/
structure St where
  l : List Ins
  now : Int
  high : Int
def wrow (v : AV) (now high : Int) : ABlk := .row 3 [.agg [v, .int .i64 now, .int .i64 high]]
/-- The writer in memory. -/
def WS (σ0 : Hp) (bw : Nat) (st : St) (σ : Hp) : Prop :=
  Sub σ0 σ ∧ σ0 bw = none ∧ ((st.l = [] ∧ σ bw = some (wrow .nils st.now st.high)) ∨ ∃ b, b ≠ bw ∧ σ0 b = none ∧ σ bw = some (wrow (.own b 4 0 st.l.length) st.now st.high) ∧ σ b = some (.row 4 (st.l.map Ins.av)))
/-- Rows of instructions are still there. -/
def Keep4 (bw : Nat) (σ σ' : Hp) : Prop := ∀ b els, b ≠ bw → σ b = some (.row 4 els) → ∃ els', σ' b = some (.row 4 els') ∧ els <+: els'
theorem part_f (n : Nat) (cs : List AV) (off : Nat) : Pat.part false n cs off = cs[off]? := rfl
theorem wsplice (v now high w : AV) : (AV.agg [v, now, high]).splice 0 [w] = .agg [w, now, high] ∧ (AV.agg [v, now, high]).splice 1 [w] = .agg [v, w, high] ∧ (AV.agg [v, now, high]).splice 2 [w] = .agg [v, now, w] := ⟨rfl, rfl, rfl⟩
theorem upd_some {b b' : Nat} {x y : ABlk} (h : b ≠ b') (hb : σ b = some y) : σ.upd b' x b = some y := by simp [Hp.upd, h, hb]
theorem sub_upd {σ0 : Hp} {b : Nat} {x : ABlk} (h : Sub σ0 σ) (hb : σ0 b = none) : Sub σ0 (σ.upd b x) := fun c y hc => by
  have hne : c ≠ b := fun e => by rw [e, hb] at hc; cases hc
  exact upd_some hne (h c y hc)
theorem none_of_sub {σ0 : Hp} {b : Nat} (h : Sub σ0 σ) (hb : σ b = none) : σ0 b = none := by
  cases hc : σ0 b with
  | none => rfl
  | some x => rw [h b x hc] at hb; cases hb
theorem add_spec {σ0 : Hp} {bw : Nat} {st : St} (x : Ins) (hw : WS σ0 bw st σ) (hl : st.l.length ≤ 1000000) (h : ∀ σ', WS σ0 bw { st with l := st.l ++ [x] } σ' → Keep4 bw σ σ' → K (.int .i64 st.l.length) σ') :
    ACalls (env gs s) 85 [.ptr bw 3 0 0, .rd 4 [x.av]] σ K := by
  refine A85_call rfl ?_
  unfold A85
  obtain ⟨w1, w2, w3⟩ := hw
  have hwr : IntKind.i64.wrap (((st.l.length + 1 : Nat) : Int) - 1) = st.l.length := by rw [i64_id _ (by omega) (by omega)]; omega
  rcases w3 with ⟨hn, hv⟩ | ⟨b, hb1, hb2, hv, hb3⟩
  · simp only [ev0, ev1, ev2, ev3, ev4, ev5, ev6, ev7, ev8, ev9, ev10, ew, Nat.reduceEqDiff, reduceCtorEq, Nat.reduceAdd, Nat.reduceSub, Nat.reduceMul, Nat.reduceLT, Nat.reduceLeDiff, Int.reduceLT, Int.reduceLE, Int.reduceEq, Int.reduceNe, Int.reduceAdd, Int.reduceSub, Int.reduceMul, Int.reduceNeg, Int.reduceToNat, hv, wrow, part_f, avc, view]
    rw [hn] at hwr
    refine ⟨(ins_ok [x]).1, (ins_ok [x]).2, by simp, fun b hb => ?_⟩
    have hne : bw ≠ b := fun e => by rw [e] at hv; rw [hb] at hv; cases hv
    simp only [ev0, ev1, ev2, ev3, ev4, ev5, ev6, ev7, ev8, ev9, ev10, ew, Nat.reduceEqDiff, reduceCtorEq, Nat.reduceAdd, Nat.reduceSub, Nat.reduceMul, Nat.reduceLT, Nat.reduceLeDiff, Int.reduceLT, Int.reduceLE, Int.reduceEq, Int.reduceNe, Int.reduceAdd, Int.reduceSub, Int.reduceMul, Int.reduceNeg, Int.reduceToNat, upd_ne hne, hv, wrow, upd_same, part_f, avc, wsplice, List.set_cons_zero]
    refine ⟨by simp [AV.scalar], ?_⟩
    have hwr0 : IntKind.i64.wrap 0 = (st.l.length : Int) := by rw [hn]; rfl
    simp only [ev0, ev1, ev2, ev3, ev4, ev5, ev6, ev7, ev8, ev9, ev10, ew, Nat.reduceEqDiff, reduceCtorEq, Nat.reduceAdd, Nat.reduceSub, Nat.reduceMul, Nat.reduceLT, Nat.reduceLeDiff, Int.reduceLT, Int.reduceLE, Int.reduceEq, Int.reduceNe, Int.reduceAdd, Int.reduceSub, Int.reduceMul, Int.reduceNeg, Int.reduceToNat, upd_same, part_f, avc, wsplice, hwr0, q_ret1]
    refine Ret.here (h _ ⟨?_, w2, .inr ⟨b, hne.symm, none_of_sub w1 hb, ?_, ?_⟩⟩ ?_)
    · exact sub_upd (sub_upd w1 (none_of_sub w1 hb)) w2
    · simp [upd_same, wrow, hn]
    · rw [upd_some hne.symm (upd_same _ _)]; simp [hn]
    · intro c els hc hce
      exact ⟨els, by rw [upd_ne hc, upd_ne (fun e => by rw [e, hb] at hce; cases hce)]; exact hce, List.prefix_refl _⟩
  · have hne : bw ≠ b := hb1.symm
    simp only [ev0, ev1, ev2, ev3, ev4, ev5, ev6, ev7, ev8, ev9, ev10, ew, Nat.reduceEqDiff, reduceCtorEq, Nat.reduceAdd, Nat.reduceSub, Nat.reduceMul, Nat.reduceLT, Nat.reduceLeDiff, Int.reduceLT, Int.reduceLE, Int.reduceEq, Int.reduceNe, Int.reduceAdd, Int.reduceSub, Int.reduceMul, Int.reduceNeg, Int.reduceToNat, hv, wrow, part_f, avc, view]
    have hlen : st.l.length = (st.l.map Ins.av).length := by simp
    rw [hlen]
    refine app_keep hb3 (ins_ok [x]).1 (ins_ok [x]).2 (by simp; omega) fun b' hb' => ?_
    have hne' : bw ≠ b' := fun e => by
      rcases hb' with rfl | hb'
      · exact hne e
      · rw [← e, hv] at hb'; cases hb'
    have hb2' : σ0 b' = none := by
      rcases hb' with rfl | hb'
      · exact hb2
      · exact none_of_sub w1 hb'
    simp only [ev0, ev1, ev2, ev3, ev4, ev5, ev6, ev7, ev8, ev9, ev10, ew, Nat.reduceEqDiff, reduceCtorEq, Nat.reduceAdd, Nat.reduceSub, Nat.reduceMul, Nat.reduceLT, Nat.reduceLeDiff, Int.reduceLT, Int.reduceLE, Int.reduceEq, Int.reduceNe, Int.reduceAdd, Int.reduceSub, Int.reduceMul, Int.reduceNeg, Int.reduceToNat, upd_ne hne', hv, wrow, upd_same, part_f, avc, wsplice, List.set_cons_zero, List.length_map]
    refine ⟨by simp [AV.scalar], ?_⟩
    simp only [ev0, ev1, ev2, ev3, ev4, ev5, ev6, ev7, ev8, ev9, ev10, ew, Nat.reduceEqDiff, reduceCtorEq, Nat.reduceAdd, Nat.reduceSub, Nat.reduceMul, Nat.reduceLT, Nat.reduceLeDiff, Int.reduceLT, Int.reduceLE, Int.reduceEq, Int.reduceNe, Int.reduceAdd, Int.reduceSub, Int.reduceMul, Int.reduceNeg, Int.reduceToNat, upd_same, part_f, avc, wsplice, hwr, List.length_map, q_ret1]
    refine Ret.here (h _ ⟨?_, w2, .inr ⟨b', hne'.symm, hb2', ?_, ?_⟩⟩ ?_)
    · exact sub_upd (sub_upd w1 hb2') w2
    · simp [upd_same, wrow]
    · rw [upd_some hne'.symm (upd_same _ _)]; simp
    · intro c els hc hce
      by_cases e : c = b'
      · subst e
        rcases hb' with rfl | hb'
        · rw [hb3] at hce
          cases hce
          exact ⟨_, by rw [upd_ne hc]; exact upd_same _ _, by simp⟩
        · rw [hb'] at hce; cases hce
      · exact ⟨els, by rw [upd_ne hc, upd_ne e]; exact hce, List.prefix_refl _⟩

/-! What may be, while it is written -/
def okA (n : Nat) (x : Ins) : Prop :=
  (1 ≤ x.op ∧ x.op ≤ 41) ∧ (x.op ∈ [18, 19, 20, 22, 24, 26] → 0 ≤ x.a ∧ x.a ≤ n) ∧ (x.op ∈ [30, 26] → 0 ≤ x.b ∧ x.b ≤ n) ∧ (x.op ∈ [3, 4, 15, 38, 27] → 0 ≤ x.a) ∧ x.str.length ≤ 2000
theorem okA.mono {n m : Nat} {x : Ins} (h : okA n x) (hm : n ≤ m) : okA m x :=
  ⟨h.1, fun hx => by have := h.2.1 hx; omega, fun hx => by have := h.2.2.1 hx; omega, h.2.2.2.1, h.2.2.2.2⟩
def Inv (st : St) : Prop := (∀ x ∈ st.l, okA st.l.length x) ∧ 0 ≤ st.now ∧ st.now ≤ st.high
/-- What becomes of a writer: at most c instructions more, the stack d higher, ever so high as e. -/
def Post (st st' : St) (c : Nat) (d e : Int) : Prop := Inv st' ∧ st.l.length ≤ st'.l.length ∧ st'.l.length ≤ st.l.length + c ∧ st'.now = st.now + d ∧ st'.high = max st.high (st.now + e)
theorem Inv.add {st : St} {x : Ins} (h : Inv st) (hx : okA (st.l.length + 1) x) : Inv { st with l := st.l ++ [x] } := by
  refine ⟨fun y hy => ?_, h.2⟩
  simp only [List.length_append, List.length_cons, List.length_nil, Nat.zero_add]
  rcases List.mem_append.1 hy with hy | hy
  · exact (h.1 y hy).mono (by omega)
  · rw [List.mem_singleton.1 hy]; exact hx
theorem Inv.set {st : St} {i : Nat} {x : Ins} (h : Inv st) (hx : okA st.l.length x) : Inv { st with l := st.l.set i x } := by
  refine ⟨fun y hy => ?_, h.2⟩
  simp only [List.length_set]
  rcases List.mem_or_eq_of_mem_set hy with hy | rfl
  · exact h.1 y hy
  · exact hx
theorem okA.setA {n : Nat} {x : Ins} (h : okA n x) {v : Int} (h1 : 0 ≤ v) (h2 : v ≤ n) : okA n { x with a := v } := ⟨h.1, fun _ => ⟨h1, h2⟩, h.2.2.1, fun _ => h1, h.2.2.2.2⟩
theorem okA.setB {n : Nat} {x : Ins} (h : okA n x) {v : Int} (h1 : 0 ≤ v) (h2 : v ≤ n) : okA n { x with b := v } := ⟨h.1, h.2.1, fun _ => ⟨h1, h2⟩, h.2.2.2.1, h.2.2.2.2⟩
theorem WS.set {σ0 : Hp} {bw b : Nat} {st : St} {i : Nat} {x : Ins} (w1 : Sub σ0 σ) (w2 : σ0 bw = none) (hb1 : b ≠ bw) (hb2 : σ0 b = none) (hv : σ bw = some (wrow (.own b 4 0 st.l.length) st.now st.high)) :
    WS σ0 bw { st with l := st.l.set i x } (σ.upd b (.row 4 ((st.l.map Ins.av).set i x.av))) := by
  refine ⟨sub_upd w1 hb2, w2, .inr ⟨b, hb1, hb2, ?_, ?_⟩⟩
  · rw [upd_some hb1.symm hv]; simp
  · rw [upd_same, List.map_set]
theorem WS.fresh {σ0 : Hp} {bw b : Nat} {st : St} {X : ABlk} (h : WS σ0 bw st σ) (hb : σ b = none) : WS (σ0.upd b X) bw st (σ.upd b X) := by
  obtain ⟨w1, w2, w3⟩ := h
  have hn : ∀ {c : Nat} {y : ABlk}, σ c = some y → c ≠ b := fun hc e => by rw [e, hb] at hc; cases hc
  refine ⟨fun c x hc => ?_, ?_, ?_⟩
  · by_cases e : c = b
    · subst e; rw [upd_same] at hc ⊢; exact hc
    · rw [upd_ne e] at hc ⊢; exact w1 c x hc
  · rcases w3 with ⟨_, hv⟩ | ⟨b', _, _, hv, _⟩ <;> rw [upd_ne (hn hv)] <;> exact w2
  · rcases w3 with ⟨h1, hv⟩ | ⟨b', h1, h2, hv, h3⟩
    · exact .inl ⟨h1, upd_some (hn hv) hv⟩
    · exact .inr ⟨b', h1, by rw [upd_ne (hn h3)]; exact h2, upd_some (hn hv) hv, upd_some (hn h3) h3⟩
theorem WS.weak {σ0 : Hp} {bw b : Nat} {st : St} {X : ABlk} (h : WS (σ0.upd b X) bw st σ) (hb : σ0 b = none) : WS σ0 bw st σ := by
  obtain ⟨w1, w2, w3⟩ := h
  have hn : ∀ {c : Nat}, σ0.upd b X c = none → σ0 c = none := fun {c} hc => by
    by_cases e : c = b
    · rw [e, upd_same] at hc; cases hc
    · rwa [upd_ne e] at hc
  refine ⟨fun c x hc => w1 c x ?_, hn w2, ?_⟩
  · exact upd_some (fun e => by rw [e, hb] at hc; cases hc) hc
  · rcases w3 with h | ⟨b', h1, h2, h⟩
    · exact .inl h
    · exact .inr ⟨b', h1, hn h2, h⟩
theorem WS.cell {σ0 : Hp} {bw b : Nat} {st : St} {X : ABlk} (h : WS (σ0.upd b X) bw st σ) : σ b = some X := h.1 b X (upd_same _ _)
theorem WS.isNone {σ0 : Hp} {bw b : Nat} {st : St} (h : WS σ0 bw st σ) (hb : σ b = none) : σ0 b = none := none_of_sub h.1 hb
theorem op_post {σ0 : Hp} {bw : Nat} {st : St} (op a b : Int) (str : List UInt8) (hw : WS σ0 bw st σ) (hI : Inv st) (hl : st.l.length ≤ 1000000) (hx : okA (st.l.length + 1) ⟨op, a, b, str⟩)
    (h : ∀ st' σ', WS σ0 bw st' σ' → Post st st' 1 0 0 → st'.l.length = st.l.length + 1 → Keep4 bw σ σ' → K (.int .i64 st.l.length) σ') : ACalls (env gs s) 49 [.ptr bw 3 0 0, .int .i64 op, .int .i64 a, .int .i64 b, .str str] σ K := by
  refine A49_call rfl ?_
  unfold A49
  simp only [ev0, ev1, ev2, ev3, ev4, ev5, ev6, ev7, ev8, ev9, ev10, ew, Nat.reduceEqDiff, reduceCtorEq, Nat.reduceAdd, Nat.reduceSub, Nat.reduceMul, Nat.reduceLT, Nat.reduceLeDiff, Int.reduceLT, Int.reduceLE, Int.reduceEq, Int.reduceNe, Int.reduceAdd, Int.reduceSub, Int.reduceMul, Int.reduceNeg, Int.reduceToNat]
  refine ⟨by simp [partsOk, avc], ?_⟩; simp only [fillA, avc, List.take, List.drop, List.cons_append, List.nil_append, List.length_cons, List.length_nil, Nat.reduceAdd, ev0, ev1, ev2, ev3, ev4, ev5, ev6, ev7, ev8, ev9, ev10, ew, Nat.reduceEqDiff, reduceCtorEq, Nat.reduceAdd, Nat.reduceSub, Nat.reduceMul, Nat.reduceLT, Nat.reduceLeDiff, Int.reduceLT, Int.reduceLE, Int.reduceEq, Int.reduceNe, Int.reduceAdd, Int.reduceSub, Int.reduceMul, Int.reduceNeg, Int.reduceToNat]
  refine go_callI (add_spec ⟨op, a, b, str⟩ hw hl fun σ' hw' hk => ?_)
  simp only [ev0, ev1, ev2, ev3, ev4, ev5, ev6, ev7, ev8, ev9, ev10, ew, Nat.reduceEqDiff, reduceCtorEq, Nat.reduceAdd, Nat.reduceSub, Nat.reduceMul, Nat.reduceLT, Nat.reduceLeDiff, Int.reduceLT, Int.reduceLE, Int.reduceEq, Int.reduceNe, Int.reduceAdd, Int.reduceSub, Int.reduceMul, Int.reduceNeg, Int.reduceToNat, q_ret1]
  refine Ret.here (h _ σ' hw' ⟨hI.add hx, ?_, ?_, ?_, ?_⟩ ?_ hk)
  · simp
  · simp
  · simp
  · have := hI.2.2
    show st.high = max st.high (st.now + 0)
    omega
  · simp
theorem here_spec {σ0 : Hp} {bw : Nat} {st : St} (hw : WS σ0 bw st σ) (h : K (.int .i64 st.l.length) σ) : ACalls (env gs s) 81 [.ptr bw 3 0 0] σ K := by
  refine A81_call rfl ?_
  unfold A81
  obtain ⟨w1, w2, w3⟩ := hw
  rcases w3 with ⟨hn, hv⟩ | ⟨b, hb1, hb2, hv, hb3⟩
  · rw [hn] at h
    simp only [ev0, ev1, ev2, ev3, ev4, ev5, ev6, ev7, ev8, ev9, ev10, ew, Nat.reduceEqDiff, reduceCtorEq, Nat.reduceAdd, Nat.reduceSub, Nat.reduceMul, Nat.reduceLT, Nat.reduceLeDiff, Int.reduceLT, Int.reduceLE, Int.reduceEq, Int.reduceNe, Int.reduceAdd, Int.reduceSub, Int.reduceMul, Int.reduceNeg, Int.reduceToNat, hv, wrow, part_f, avc, q_ret1]
    exact Ret.here h
  · simp only [ev0, ev1, ev2, ev3, ev4, ev5, ev6, ev7, ev8, ev9, ev10, ew, Nat.reduceEqDiff, reduceCtorEq, Nat.reduceAdd, Nat.reduceSub, Nat.reduceMul, Nat.reduceLT, Nat.reduceLeDiff, Int.reduceLT, Int.reduceLE, Int.reduceEq, Int.reduceNe, Int.reduceAdd, Int.reduceSub, Int.reduceMul, Int.reduceNeg, Int.reduceToNat, hv, wrow, part_f, avc, q_ret1]
    exact Ret.here h
theorem WS.count {σ0 : Hp} {bw : Nat} {st : St} (hw : WS σ0 bw st σ) : ∃ v, σ bw = some (wrow v st.now st.high) ∧ ∀ now high, WS σ0 bw ⟨st.l, now, high⟩ (σ.upd bw (wrow v now high)) := by
  obtain ⟨w1, w2, w3⟩ := hw
  rcases w3 with ⟨hn, hv⟩ | ⟨b, hb1, hb2, hv, hb3⟩
  · exact ⟨_, hv, fun now high => ⟨sub_upd w1 w2, w2, .inl ⟨hn, upd_same _ _⟩⟩⟩
  · exact ⟨_, hv, fun now high => ⟨sub_upd w1 w2, w2, .inr ⟨b, hb1, hb2, upd_same _ _, upd_some hb1 hb3⟩⟩⟩
theorem push_spec {σ0 : Hp} {bw : Nat} {st : St} (n : Int) (hw : WS σ0 bw st σ) (h1 : -1000000000 ≤ st.now + n) (h2 : st.now + n ≤ 1000000000) (h : ∀ σ', WS σ0 bw ⟨st.l, st.now + n, max st.high (st.now + n)⟩ σ' → K (.tuple []) σ') :
    ACalls (env gs s) 125 [.ptr bw 3 0 0, .int .i64 n] σ K := by
  refine A125_call rfl ?_
  unfold A125
  obtain ⟨v, hv, hw'⟩ := hw.count
  have hwr : IntKind.i64.wrap (st.now + n) = st.now + n := i64_id _ (by omega) (by omega)
  have hmx : (if st.high < st.now + n then st.now + n else st.high) = max st.high (st.now + n) := by split <;> omega
  simp only [ev0, ev1, ev2, ev3, ev4, ev5, ev6, ev7, ev8, ev9, ev10, ew, Nat.reduceEqDiff, reduceCtorEq, Nat.reduceAdd, Nat.reduceSub, Nat.reduceMul, Nat.reduceLT, Nat.reduceLeDiff, Int.reduceLT, Int.reduceLE, Int.reduceEq, Int.reduceNe, Int.reduceAdd, Int.reduceSub, Int.reduceMul, Int.reduceNeg, Int.reduceToNat, hv, wrow, part_f, avc, wsplice, List.set_cons_zero, hwr]
  refine ⟨by simp [AV.scalar], ?_⟩
  refine DT125_1_go ?_
  unfold DT125_1
  simp only [ev0, ev1, ev2, ev3, ev4, ev5, ev6, ev7, ev8, ev9, ev10, ew, Nat.reduceEqDiff, reduceCtorEq, Nat.reduceAdd, Nat.reduceSub, Nat.reduceMul, Nat.reduceLT, Nat.reduceLeDiff, Int.reduceLT, Int.reduceLE, Int.reduceEq, Int.reduceNe, Int.reduceAdd, Int.reduceSub, Int.reduceMul, Int.reduceNeg, Int.reduceToNat, upd_same, upd_upd, wrow, part_f, avc, wsplice, List.set_cons_zero, gt_iff_lt, hmx]
  refine ⟨by simp [AV.scalar], ?_⟩
  rw [q_end0]
  exact Ret.here (h _ (hw' _ _))
end Go.Proofs.YthmcfphafofheaaDoor
