/- The abstract machine: what values stand for, and that it stays so. No statement of the seat is proved in this file. -/
import Derived.Test.YthmcfphafofheaaDoorPatA
import Derived.Laws.Cells
import Derived.Laws.Rows
import Derived.Laws.AppendOwn
import Derived.Laws.Strings
import Derived.Laws.Build
namespace Go.Proofs.YthmcfphafofheaaDoor
namespace Pat
set_option linter.unusedVariables false
set_option linter.unusedSimpArgs false

theorem Trans.refl (σ : Hp) (w : World) : Trans σ w σ w :=
  ⟨Nat.le_refl _, fun _ _ h => ⟨rfl, h⟩, fun _ c _ f h => ⟨c, f, h, rfl⟩, rfl, rfl, rfl⟩
theorem Trans.trans {σ w σ' w' σ'' w''} (h : Trans σ w σ' w') (k : Trans σ' w' σ'' w'') : Trans σ w σ'' w'' := by
  refine ⟨Nat.le_trans h.size k.size, fun b hb hn => ?_, fun b c e f hc => ?_, k.os.trans h.os, k.output.trans h.output, k.tape.trans h.tape⟩
  · have h1 := h.old b hb hn
    have h2 := k.old b (Nat.lt_of_lt_of_le hb h.size) h1.2
    exact ⟨h2.1.trans h1.1, h2.2⟩
  · obtain ⟨c', f', h1, h2⟩ := h.shape b c e f hc
    obtain ⟨c'', f'', h3, h4⟩ := k.shape b c' e f' h1
    exact ⟨c'', f'', h3, h4.trans h2⟩

theorem Rep.mono {A σ w σ' w' v a} (h : Trans σ w σ' w') (r : Rep A σ w v a) : Rep A σ' w' v a := by
  induction r with
  | any v => exact .any v
  | bool b => exact .bool b
  | int k n => exact .int k n
  | str s => exact .str s
  | nilp => exact .nilp
  | ptr b sz i off => exact .ptr b sz i off
  | re b p off x vs hb hσ hc hr ih =>
    exact .re b p off x vs (Nat.lt_of_lt_of_le hb h.size) (h.old b hb hσ).2
      (fun j y hy => (World.cell?_of_block (w := w) (a := ⟨b, p + j, none⟩) (h.old b hb hσ).1).trans (hc j y hy)) ih
  | gptr g => exact .gptr g
  | sptr g => exact .sptr g
  | nils a => exact .nils a
  | rd b p sz cap xs vs hb hσ hcap hs hc hr ih =>
    exact .rd b p sz cap xs vs (Nat.lt_of_lt_of_le hb h.size) (h.old b hb hσ).2 hcap hs
      (fun i x j y hx hy => (World.cell?_of_block (w := w) (a := ⟨b, p + i * sz + j, none⟩) (h.old b hb hσ).1).trans (hc i x j y hx hy)) ih
  | rd0 a cap sz => exact .rd0 a cap sz
  | own b sz i n cap c e f hb hc hn =>
    obtain ⟨c', f', h1, h2⟩ := h.shape b c e f hb
    exact .own b sz i n cap c' e f' h1 (hc.trans h2.symm) hn
  | own0 a b sz i c e f hb hc =>
    obtain ⟨c', f', h1, h2⟩ := h.shape b c e f hb
    exact .own0 a b sz i c' e f' h1 (hc.trans h2.symm)
  | nilmap => exact .nilmap
  | map b => exact .map b
  | func fn first cap af ac hf hc rf rc ih1 ih2 => exact .func fn first cap af ac hf hc ih1 ih2
  | nilFunc => exact .nilFunc
  | nilIface => exact .nilIface
  | iface t v a h ih => exact .iface t v a ih
  | agg cs as hl h ih => exact .agg cs as hl ih
  | tuple cs as hl h ih => exact .tuple cs as hl ih

section inv
variable {A : Nat → Addr} {σ : Hp} {w : World} {v : Value}
theorem Rep.bool_inv {b} (h : Rep A σ w v (.bool b)) : v = .bool b := by cases h; rfl
theorem Rep.int_inv {k n} (h : Rep A σ w v (.int k n)) : v = .int k n := by cases h; rfl
theorem Rep.str_inv {l} (h : Rep A σ w v (.str l)) : ∃ s : ByteArray, v = .string s ∧ s.data.toList = l := by cases h; exact ⟨_, rfl, rfl⟩
theorem Rep.agg_inv {as} (h : Rep A σ w v (.agg as)) : ∃ cs : Array Value, v = .agg cs ∧ cs.size = as.length ∧ ∀ (j : Nat) (x : Value) (y : AV), cs[j]? = some x → as[j]? = some y → Rep A σ w x y := by
  cases h with | agg cs _ hl h => exact ⟨cs, rfl, hl, h⟩
theorem Rep.tuple_inv {as} (h : Rep A σ w v (.tuple as)) : ∃ cs : Array Value, v = .tuple cs ∧ cs.size = as.length ∧ ∀ (j : Nat) (x : Value) (y : AV), cs[j]? = some x → as[j]? = some y → Rep A σ w x y := by
  cases h with | tuple cs _ hl h => exact ⟨cs, rfl, hl, h⟩
/-- A value's cells. -/
theorem Rep.cells {a} (h : Rep A σ w v a) (ha : ∀ x ∈ a.cells, x.scalar = true) : v.cells.size = a.cells.length ∧ (∀ (j : Nat) (x : Value) (y : AV), v.cells[j]? = some x → a.cells[j]? = some y → Rep A σ w x y) := by
  cases h with
  | any v => simp [AV.cells, AV.scalar] at ha
  | tuple cs as hl h => simp [AV.cells, AV.scalar] at ha
  | agg cs as hl h => exact ⟨hl, h⟩
  | _ =>
    refine ⟨rfl, fun j x y hx hy => ?_⟩
    match j with
    | 0 => simp only [Value.cells, AV.cells, List.getElem?_cons_zero, Option.some.injEq] at hx hy; first | (simp at hx; subst hx; subst hy; constructor <;> assumption) | (simp at hx; subst hx; subst hy; constructor)
    | j + 1 => simp [AV.cells] at hy
/-- A value that is not known to be a row is one cell. -/
theorem Rep.scalar {a} (h : Rep A σ w v a) (ha : a.scalar = true) : v.oneCell' = true ∧ v.cells = #[v] ∧ a.cells = [a] := by
  cases h <;> simp_all [AV.scalar, Value.oneCell', Value.cells, AV.cells]
end inv

theorem rep_ofScalar (A σ w v) : Rep A σ w v (AV.ofScalar v) := by
  unfold AV.ofScalar
  split <;> constructor
theorem rep_ofValue (A σ w v) : Rep A σ w v (AV.ofValue v) := by
  unfold AV.ofValue
  split
  · rename_i cs
    refine .agg cs _ (by simp) fun j x y hx hy => ?_
    simp only [List.getElem?_map, Array.getElem?_toList, hx, Option.map_some, Option.some.injEq] at hy
    exact hy ▸ rep_ofScalar ..
  · rename_i cs
    refine .tuple cs _ (by simp) fun j x y hx hy => ?_
    simp only [List.getElem?_map, Array.getElem?_toList, hx, Option.map_some, Option.some.injEq] at hy
    exact hy ▸ rep_ofScalar ..
  · exact rep_ofScalar ..

/-- The temporaries hold what the slots say. -/
def RelS (A : Nat → Addr) (σ : Hp) (w : World) (tmps : Array Value) (s : Slots) : Prop := ∀ t, Rep A σ w (tmps.getD t undef) (s t)
theorem RelS.mono {A σ w σ' w' tmps s} (h : Trans σ w σ' w') (r : RelS A σ w tmps s) : RelS A σ' w' tmps s := fun t => (r t).mono h
theorem RelS.ev {A σ w} {a : Act} {s : Slots} (h : RelS A σ w a.tmps s) (x : Operand) : Rep A σ w (a.eval x) (s.ev (opd x)) := by
  cases x with
  | tmp t => exact h t
  | const v => exact rep_ofValue ..
  | global g => exact .gptr g
  | func f => exact .func _ _ _ _ _ rfl rfl (fun j x y hx => by simp at hx) (fun j x y hx => by simp at hx)
theorem RelS.put {A σ w} {a : Act} {s : Slots} (h : RelS A σ w a.tmps s) {d : Option Nat} (hd : ∀ t, d = some t → t < a.tmps.size) {v x} (r : Rep A σ w v x) : RelS A σ w (a.put d v).tmps (s.put d x) := by
  cases d with
  | none => exact h
  | some d =>
    intro t
    simp only [Act.put, Slots.put, Slots.set]
    have := hd d rfl
    by_cases e : t = d
    · subst e; simp [Array.getD, this]; exact r
    · rw [if_neg e]
      have := h t
      simp only [Array.getD_eq_getD_getElem?] at this ⊢
      rwa [Array.getElem?_setIfInBounds_ne (by omega)]
theorem size_put (a : Act) (d : Option Nat) (v : Value) : (a.put d v).tmps.size = a.tmps.size := by
  cases d <;> simp [Act.put]
theorem defers_put (a : Act) (d : Option Nat) (v : Value) : (a.put d v).defers = a.defers := by
  cases d <;> simp [Act.put]
theorem RelS.evs {A σ w} {a : Act} {s : Slots} (h : RelS A σ w a.tmps s) (l : Array Operand) : RepL A σ w (l.map a.eval).toList ((opds l).map s.ev) := by
  refine ⟨by simp [opds], fun j x y hx hy => ?_⟩
  simp only [opds, List.map_map, List.getElem?_map, Array.toList_map, Array.getElem?_toList] at hx hy
  cases hl : l[j]? with
  | none => simp [hl] at hx
  | some o => simp [hl] at hx hy; subst hx; subst hy; exact h.ev o

abbrev US (E : Env) (σ : Hp) (w : World) (K : AV → Hp → Prop) (r : Result Next) : Prop := Upon E (HRel E) (Rep E.A) Trans σ w K r

theorem US.value {E : Env} {σ w} {K : AV → Hp → Prop} {v a} (hH : HRel E σ w) (hk : K a σ) (hr : Rep E.A σ w v a) : US E σ w K (.ok (.value v) w) :=
  ⟨a, σ, hk, hH, hr, .refl _ _⟩
theorem US.mono {E : Env} {σ w} {K K' : AV → Hp → Prop} {r} (h : US E σ w K r) (hk : ∀ a σ', K a σ' → K' a σ') : US E σ w K' r := by
  unfold US Upon at *
  split at h
  · obtain ⟨a, σ', h1, h2⟩ := h; exact ⟨a, σ', hk _ _ h1, h2⟩
  · obtain ⟨a, σ', h1, h2⟩ := h; exact ⟨a, σ', hk _ _ h1, h2⟩
  · exact h.mono fun e w' ⟨v, a, σ', h1, h2, h3⟩ => ⟨v, a, σ', h1, hk _ _ h2, h3⟩
  · exact h

/-! Worlds -/
/-- A new row, owned. -/
theorem HRel.alloc {E : Env} {σ w} (h : HRel E σ w) (sz : Nat) (els : List AV) (c : Array Value) (e : TypeId) (hc : els.length * sz ≤ c.size)
    (hs : ∀ x ∈ els, x.cells.length = sz) (hr : ∀ (i : Nat) (x : AV) (j : Nat) (y : AV), els[i]? = some x → x.cells[j]? = some y → ∃ v, c[i * sz + j]? = some v ∧ Rep E.A σ w v y)
    (w' : World) (hw : w'.heap = w.heap.push (.cells c e)) (ho : w'.os = w.os) (hp : w'.output = w.output) (ht : w'.tape = w.tape) :
    σ w.heap.size = none ∧ HRel E (σ.upd w.heap.size (.row sz els)) w' ∧ Trans σ w (σ.upd w.heap.size (.row sz els)) w' := by
  have hlt : ∀ b x, σ b = some x → b < w.heap.size := by
    intro b x hb
    have := h.blk b x hb
    cases x with
    | row sz els => obtain ⟨c, e, f, h1, _⟩ := this; exact (Array.getElem?_eq_some_iff.1 h1).1
    | amap es => obtain ⟨c, e, h1, _⟩ := this; exact (Array.getElem?_eq_some_iff.1 h1).1
  have hn : σ w.heap.size = none := by
    cases hb : σ w.heap.size with
    | none => rfl
    | some x => have := hlt _ _ hb; omega
  have hold : ∀ b, b < w.heap.size → w'.heap[b]? = w.heap[b]? := fun b hb => by rw [hw, Array.getElem?_push, if_neg (by omega)]
  have hnew : w'.heap[w.heap.size]? = some (.cells c e) := by rw [hw, Array.getElem?_push, if_pos rfl]
  have hcell : ∀ (a : Addr), a.block < w.heap.size → w'.cell? a = w.cell? a := fun a ha => World.cell?_of_block (hold _ ha)
  have htr : Trans σ w (σ.upd w.heap.size (.row sz els)) w' := by
    refine ⟨by rw [hw]; simp, fun b hb hn => ⟨hold b hb, ?_⟩, fun b c e f hc => ⟨c, f, ?_, rfl⟩, ho, hp, ht⟩
    · simp only [Hp.upd]; rw [if_neg (by omega)]; exact hn
    · rw [hold b (Array.getElem?_eq_some_iff.1 hc).1]; exact hc
  refine ⟨hn, ⟨fun b x hb => ?_, fun g t hg => ?_, h.inj⟩, htr⟩
  · simp only [Hp.upd] at hb
    split at hb
    · rename_i heq
      subst heq
      simp only [Option.some.injEq] at hb
      subst hb
      refine ⟨c, e, (0, 0), hnew, hc, fun o _ => ?_, hs, fun i x j y hx hy => ?_⟩
      · simp [World.frozen?, hnew]
      · obtain ⟨v, h1, h2⟩ := hr i x j y hx hy
        exact ⟨v, h1, h2.mono htr⟩
    · have hb' := hlt _ _ hb
      have := h.blk b x hb
      cases x with
      | row sz' els' =>
        obtain ⟨c', e', f', h1, h2, h3, h4, h5⟩ := this
        refine ⟨c', e', f', by rw [hold b hb']; exact h1, h2, fun o ho => ?_, h4, fun i x j y hx hy => ?_⟩
        · rw [World.frozen?_of_block (w := w) (hold _ hb')]; exact h3 o ho
        · obtain ⟨v, h6, h7⟩ := h5 i x j y hx hy; exact ⟨v, h6, h7.mono htr⟩
      | amap es =>
        obtain ⟨c', e', h1, h2, h3, h4⟩ := this
        refine ⟨c', e', by rw [hold b hb']; exact h1, h2, h3, fun i x y hx hy => ?_⟩
        obtain ⟨h6, h7⟩ := h4 i x y hx hy; exact ⟨h6.mono htr, h7.mono htr⟩
  · obtain ⟨h1, h2, h3, c', e', h4, h5⟩ := h.glo g t hg
    have hg : g < w.heap.size := World.block_lt_of_cell? (w := w) (a := ⟨g, 0, none⟩) h2
    have ha : (E.A g).block < w.heap.size := (Array.getElem?_eq_some_iff.1 h4).1
    refine ⟨?_, by rw [hcell _ hg]; exact h2, ?_, c', e', by rw [hold _ ha]; exact h4, h5⟩
    · simp only [Hp.upd]; rw [if_neg (by omega)]; exact h1
    · simp only [Hp.upd]; rw [if_neg (by omega)]; exact h3

/-- A new map, owned. -/
theorem HRel.allocMap {E : Env} {σ w} (h : HRel E σ w) (w' : World) (hw : w'.heap = w.heap.push (.map #[] 0)) (ho : w'.os = w.os) (hp : w'.output = w.output) (ht : w'.tape = w.tape) :
    σ w.heap.size = none ∧ HRel E (σ.upd w.heap.size (.amap [])) w' ∧ Trans σ w (σ.upd w.heap.size (.amap [])) w' := by
  have hlt : ∀ b x, σ b = some x → b < w.heap.size := by
    intro b x hb
    have := h.blk b x hb
    cases x with
    | row sz els => obtain ⟨c, e, f, h1, _⟩ := this; exact (Array.getElem?_eq_some_iff.1 h1).1
    | amap es => obtain ⟨c, e, h1, _⟩ := this; exact (Array.getElem?_eq_some_iff.1 h1).1
  have hn : σ w.heap.size = none := by
    cases hb : σ w.heap.size with
    | none => rfl
    | some x => have := hlt _ _ hb; omega
  have hold : ∀ b, b < w.heap.size → w'.heap[b]? = w.heap[b]? := fun b hb => by rw [hw, Array.getElem?_push, if_neg (by omega)]
  have hnew : w'.heap[w.heap.size]? = some (.map #[] 0) := by rw [hw, Array.getElem?_push, if_pos rfl]
  have hcell : ∀ (a : Addr), a.block < w.heap.size → w'.cell? a = w.cell? a := fun a ha => World.cell?_of_block (hold _ ha)
  have htr : Trans σ w (σ.upd w.heap.size (.amap [])) w' := by
    refine ⟨by rw [hw]; simp, fun b hb hn => ⟨hold b hb, ?_⟩, fun b c e f hc => ⟨c, f, ?_, rfl⟩, ho, hp, ht⟩
    · simp only [Hp.upd]; rw [if_neg (by omega)]; exact hn
    · rw [hold b (Array.getElem?_eq_some_iff.1 hc).1]; exact hc
  refine ⟨hn, ⟨fun b x hb => ?_, fun g t hg => ?_, h.inj⟩, htr⟩
  · simp only [Hp.upd] at hb
    split at hb
    · rename_i heq
      subst heq
      simp only [Option.some.injEq] at hb
      subst hb
      exact ⟨#[], 0, hnew, rfl, by simp, fun i x y hx => by simp at hx⟩
    · have hb' := hlt _ _ hb
      have := h.blk b x hb
      cases x with
      | row sz' els' =>
        obtain ⟨c', e', f', h1, h2, h3, h4, h5⟩ := this
        refine ⟨c', e', f', by rw [hold b hb']; exact h1, h2, fun o ho => ?_, h4, fun i x j y hx hy => ?_⟩
        · rw [World.frozen?_of_block (w := w) (hold _ hb')]; exact h3 o ho
        · obtain ⟨v, h6, h7⟩ := h5 i x j y hx hy; exact ⟨v, h6, h7.mono htr⟩
      | amap es =>
        obtain ⟨c', e', h1, h2, h3, h4⟩ := this
        refine ⟨c', e', by rw [hold b hb']; exact h1, h2, h3, fun i x y hx hy => ?_⟩
        obtain ⟨h6, h7⟩ := h4 i x y hx hy; exact ⟨h6.mono htr, h7.mono htr⟩
  · obtain ⟨h1, h2, h3, c', e', h4, h5⟩ := h.glo g t hg
    have hg : g < w.heap.size := World.block_lt_of_cell? (w := w) (a := ⟨g, 0, none⟩) h2
    have ha : (E.A g).block < w.heap.size := (Array.getElem?_eq_some_iff.1 h4).1
    refine ⟨?_, by rw [hcell _ hg]; exact h2, ?_, c', e', by rw [hold _ ha]; exact h4, h5⟩
    · simp only [Hp.upd]; rw [if_neg (by omega)]; exact h1
    · simp only [Hp.upd]; rw [if_neg (by omega)]; exact h3

/-- One block that is owned changes, or is left alone. -/
theorem HRel.change {E : Env} {σ w} (h : HRel E σ w) (b : Nat) (x0 : ABlk) (hb : σ b = some x0) (σ' : Hp) (hσ : ∀ i, i ≠ b → σ' i = σ i) (w' : World)
    (hsize : w'.heap.size = w.heap.size) (hw : ∀ i, i ≠ b → w'.heap[i]? = w.heap[i]?)
    (hshape : ∀ c e f, w.heap[b]? = some (.cells c e f) → ∃ c' f', w'.heap[b]? = some (.cells c' e f') ∧ c'.size = c.size)
    (hblk : Trans σ w σ' w' → ∀ x, σ' b = some x → BlkRep E.A σ' w' b x) (ho : w'.os = w.os) (hp : w'.output = w.output) (ht : w'.tape = w.tape) :
    HRel E σ' w' ∧ Trans σ w σ' w' := by
  have htr : Trans σ w σ' w' := by
    refine ⟨by omega, fun i hi hn => ?_, fun i c e f hc => ?_, ho, hp, ht⟩
    · have : i ≠ b := fun e => by subst e; rw [hb] at hn; cases hn
      exact ⟨hw i this, (hσ i this).trans hn⟩
    · by_cases e' : i = b
      · subst e'; exact hshape c e f hc
      · exact ⟨c, f, (hw i e').trans hc, rfl⟩
  refine ⟨⟨fun i x hi => ?_, fun g t hg => ?_, h.inj⟩, htr⟩
  · by_cases e : i = b
    · subst e; exact hblk htr x hi
    · have hi' := (hσ i e).symm.trans hi
      have := h.blk i x hi'
      cases x with
      | row sz' els' =>
        obtain ⟨c', e', f', h1, h2, h3, h4, h5⟩ := this
        refine ⟨c', e', f', by rw [hw i e]; exact h1, h2, fun o ho => ?_, h4, fun i x j y hx hy => ?_⟩
        · rw [World.frozen?_of_block (w := w) (hw _ e)]; exact h3 o ho
        · obtain ⟨v, h6, h7⟩ := h5 i x j y hx hy; exact ⟨v, h6, h7.mono htr⟩
      | amap es =>
        obtain ⟨c', e', h1, h2, h3, h4⟩ := this
        refine ⟨c', e', by rw [hw i e]; exact h1, h2, h3, fun i x y hx hy => ?_⟩
        obtain ⟨h6, h7⟩ := h4 i x y hx hy; exact ⟨h6.mono htr, h7.mono htr⟩
  · obtain ⟨h1, h2, h3, c', e', h4, h5⟩ := h.glo g t hg
    have n1 : g ≠ b := fun e => by subst e; rw [hb] at h1; cases h1
    have n2 : (E.A g).block ≠ b := fun e => by rw [e, hb] at h3; cases h3
    refine ⟨(hσ g n1).trans h1, ?_, (hσ _ n2).trans h3, c', e', by rw [hw _ n2]; exact h4, h5⟩
    rw [World.cell?_of_block (w := w) (hw g n1)]; exact h2

/-- A draw changes nothing. -/
theorem HRel.drew {E : Env} {σ w} (h : HRel E σ w) : HRel E σ w.drew ∧ Trans σ w σ w.drew := by
  have htr : Trans σ w σ w.drew := ⟨Nat.le_refl _, fun _ _ h => ⟨rfl, h⟩, fun _ c _ f h => ⟨c, f, h, rfl⟩, rfl, rfl, rfl⟩
  refine ⟨⟨fun b x hb => ?_, fun g t hg => h.glo g t hg, h.inj⟩, htr⟩
  have := h.blk b x hb
  cases x with
  | row sz' els' =>
    obtain ⟨c', e', f', h1, h2, h3, h4, h5⟩ := this
    exact ⟨c', e', f', h1, h2, h3, h4, fun i x j y hx hy => let ⟨v, h6, h7⟩ := h5 i x j y hx hy; ⟨v, h6, h7.mono htr⟩⟩
  | amap es =>
    obtain ⟨c', e', h1, h2, h3, h4⟩ := this
    exact ⟨c', e', h1, h2, h3, fun i x y hx hy => let ⟨h6, h7⟩ := h4 i x y hx hy; ⟨h6.mono htr, h7.mono htr⟩⟩
/-- Less is owned. -/
theorem HRel.drop {E : Env} {σ w} (h : HRel E σ w) (σ' : Hp) (hσ : ∀ b x, σ' b = some x → σ b = some x) : HRel E σ' w ∧ Trans σ w σ' w := by
  have hn : ∀ b, σ b = none → σ' b = none := fun b hb => by
    cases h' : σ' b with
    | none => rfl
    | some x => rw [hσ b x h'] at hb; cases hb
  have htr : Trans σ w σ' w := ⟨Nat.le_refl _, fun _ _ h => ⟨rfl, hn _ h⟩, fun _ c _ f h => ⟨c, f, h, rfl⟩, rfl, rfl, rfl⟩
  refine ⟨⟨fun b x hb => ?_, fun g t hg => ?_, h.inj⟩, htr⟩
  · have := h.blk b x (hσ b x hb)
    cases x with
    | row sz' els' =>
      obtain ⟨c', e', f', h1, h2, h3, h4, h5⟩ := this
      exact ⟨c', e', f', h1, h2, h3, h4, fun i x j y hx hy => let ⟨v, h6, h7⟩ := h5 i x j y hx hy; ⟨v, h6, h7.mono htr⟩⟩
    | amap es =>
      obtain ⟨c', e', h1, h2, h3, h4⟩ := this
      exact ⟨c', e', h1, h2, h3, fun i x y hx hy => let ⟨h6, h7⟩ := h4 i x y hx hy; ⟨h6.mono htr, h7.mono htr⟩⟩
  · obtain ⟨h1, h2, h3, r⟩ := h.glo g t hg
    exact ⟨hn _ h1, h2, hn _ h3, r⟩
end Pat
end Go.Proofs.YthmcfphafofheaaDoor
