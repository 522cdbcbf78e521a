/- The abstract machine: its operations are sound. No statement of the seat is proved in this file. -/
import Derived.Test.YthmcfphafofheaaDoorPatB
import Derived.Laws.Append
import Derived.Laws.Slices
import Derived.Laws.Build
import Derived.Laws.Tables
namespace Go.Proofs.YthmcfphafofheaaDoor
namespace Pat
set_option linter.unusedVariables false
set_option linter.unusedSimpArgs false

@[simp] theorem add_none (b o n : Nat) : (⟨b, o, none⟩ : Addr).add n = ⟨b, o + n, none⟩ := by
  unfold Addr.add; split <;> simp_all

def VS (E : Env) (σ : Hp) (w : World) (K : AV → Hp → Prop) (r : Result Value) : Prop :=
  match r with
  | .ok v w' => ∃ a σ', K a σ' ∧ HRel E σ' w' ∧ Rep E.A σ' w' v a ∧ Trans σ w σ' w'
  | _ => False
theorem VS.us {E : Env} {σ w K} {x : Sem Value} {P} (h : VS E σ w K (x.run P w)) : US E σ w K ((do pure (Next.value (← x)) : Sem Next).run P w) := by
  simp only [Sem.run_bind]
  cases hr : x.run P w with
  | ok v w' => rw [hr] at h; simpa [US, Upon, VS] using h
  | halt e w' => rw [hr] at h; exact h.elim
theorem VS.mk {E : Env} {σ w} {K : AV → Hp → Prop} {v a σ' w'} {r : Result Value} (hr : r = .ok v w') (hk : K a σ') (hH : HRel E σ' w') (h : Rep E.A σ' w' v a) (ht : Trans σ w σ' w') : VS E σ w K r := by
  subst hr; exact ⟨a, σ', hk, hH, h, ht⟩
theorem VS.here {E : Env} {σ w} {K : AV → Hp → Prop} {v a} {r : Result Value} (hr : r = .ok v w) (hH : HRel E σ w) (hk : K a σ) (h : Rep E.A σ w v a) : VS E σ w K r := by
  subst hr; exact ⟨a, σ, hk, hH, h, .refl _ _⟩

section
variable {P : Program} {w : World}
theorem run_und {t d} (h : P.underlying t = some d) : (underlying t).run P w = .ok d w := by simp [underlying, h]
theorem run_inf {t i} (h : P.info? t = some i) : (typeInfo t).run P w = .ok i w := by simp [typeInfo, h]
theorem run_siz {t i} (h : P.info? t = some i) : (sizeOf t).run P w = .ok i.size w := by simp [sizeOf, run_inf h]
theorem run_agg {t d} (h : P.underlying t = some d) : (isAgg t).run P w = .ok (isAggD d) w := by
  simp only [isAgg, Sem.run_bind, run_und h, Result.andThen_ok]
  cases d <;> rfl
theorem lay_some {t ag n} (h : lay P t = some (ag, n)) : (isAgg t).run P w = .ok ag w ∧ (sizeOf t).run P w = .ok n w := by
  unfold lay at h
  cases hu : P.underlying t with
  | none => simp [hu] at h
  | some d =>
    cases hi : P.info? t with
    | none => simp [hu, hi] at h
    | some i =>
      simp only [hu, hi, Option.some.injEq, Prod.mk.injEq] at h
      exact ⟨h.1 ▸ run_agg hu, h.2 ▸ run_siz hi⟩
end

/-- What is read out of a row. -/
theorem load_row {A : Nat → Addr} {σ : Hp} {P : Program} {w : World} {t ag n b p off} {cs : List AV} {r : AV} (hl : lay P t = some (ag, n))
    (h : ∀ (j : Nat) (y : AV), cs[j]? = some y → ∃ v, w.cell? ⟨b, p + j, none⟩ = some v ∧ Rep A σ w v y) (hp : part ag n cs off = some r) :
    ∃ v, (loadVar t ⟨b, p + off, none⟩).run P w = .ok v w ∧ Rep A σ w v r := by
  obtain ⟨h1, h2⟩ := lay_some (P := P) (w := w) hl
  have hch : ∀ j, ∃ v, ∀ y, cs[off + j]? = some y → w.cell? ⟨b, p + off + j, none⟩ = some v ∧ Rep A σ w v y := by
    intro j
    cases hc : cs[off + j]? with
    | none => exact ⟨undef, fun y hy => by cases hy⟩
    | some y =>
      obtain ⟨v, h3, h4⟩ := h _ _ hc
      exact ⟨v, fun y' hy' => by cases hy'; exact ⟨by rw [Nat.add_assoc]; exact h3, h4⟩⟩
  have hch2 : ∃ f : Nat → Value, ∀ j y, cs[off + j]? = some y → w.cell? ⟨b, p + off + j, none⟩ = some (f j) ∧ Rep A σ w (f j) y :=
    ⟨fun j => Classical.choose (hch j), fun j => Classical.choose_spec (hch j)⟩
  obtain ⟨f, hf⟩ := hch2
  cases ag with
  | true =>
    simp only [part] at hp
    split at hp
    · rename_i hle
      simp only [Option.some.injEq] at hp
      subst hp
      refine ⟨.agg ((List.range n).map f).toArray, ?_, ?_⟩
      · simp only [loadVar, Sem.run_bind, h1, Result.andThen_ok, if_true, h2]
        rw [run_loadCells w _ n f (fun j hj => by
          have : ∃ y, cs[off + j]? = some y := ⟨_, List.getElem?_eq_getElem (by omega)⟩
          obtain ⟨y, hy⟩ := this
          rw [add_none]; exact (hf j y hy).1)]
        rfl
      · refine .agg _ _ (by simp; omega) fun j x y hx hy => ?_
        have hj : j < n := by
          rcases Nat.lt_or_ge j n with h | h
          · exact h
          · rw [List.getElem?_eq_none (by simp; omega)] at hy; cases hy
        simp [List.getElem?_range hj] at hx
        rw [List.getElem?_take_of_lt hj, List.getElem?_drop] at hy
        subst hx
        exact (hf j y hy).2
    · cases hp
  | false =>
    simp only [part] at hp
    have := hf 0 r (by simpa using hp)
    refine ⟨f 0, ?_, this.2⟩
    simp only [loadVar, Sem.run_bind, h1, Result.andThen_ok, Bool.false_eq_true, if_false, run_load]
    have h3 := this.1
    simp only [Nat.add_zero] at h3
    rw [h3]

/-- Cells written, one behind the other, into a block that may be written. -/
theorem store_cells {P : Program} (b : Nat) : ∀ (vs : List Value) (o i : Nat) (w : World) (c : Array Value) (e : TypeId) (f : Nat × Nat), w.heap[b]? = some (.cells c e f) →
    (∀ j, j < c.size → w.frozen? ⟨b, j, none⟩ = false) → (∀ v ∈ vs, v.oneCell' = true) → o + i + vs.length ≤ c.size →
    ∃ w' c', (storeCells ⟨b, o, none⟩ vs i).run P w = .ok () w' ∧ w'.heap.size = w.heap.size ∧ (∀ k, k ≠ b → w'.heap[k]? = w.heap[k]?) ∧ w'.heap[b]? = some (.cells c' e f) ∧ c'.size = c.size ∧
      (∀ j, c'[j]? = if o + i ≤ j ∧ j < o + i + vs.length then vs[j - (o + i)]? else c[j]?) ∧ w'.os = w.os ∧ w'.output = w.output ∧ w'.tape = w.tape
  | [], o, i, w, c, e, f, hb, hf, hv, hl => ⟨w, c, rfl, rfl, fun _ _ => rfl, hb, rfl, fun j => by rw [if_neg (by simp)], rfl, rfl, rfl⟩
  | v :: vs, o, i, w, c, e, f, hb, hf, hv, hl => by
    simp only [List.length_cons] at hl
    have hc : w.cell? ⟨b, o + i, none⟩ = some c[o + i] := by simp [World.cell?, hb, show o + i < c.size by omega]
    have hb' : (w.setCell ⟨b, o + i, none⟩ v).heap[b]? = some (.cells (c.setIfInBounds (o + i) v) e f) := by
      simp [World.setCell, Array.getElem?_modify, hb]
    obtain ⟨w', c', h1, h2, h3, h4, h5, h6, h7, h8, h9⟩ := store_cells b vs o (i + 1) (w.setCell ⟨b, o + i, none⟩ v) (c.setIfInBounds (o + i) v) e f hb'
      (fun j hj => by rw [World.frozen?_setCell]; exact hf j (by simpa using hj)) (fun x hx => hv x (by simp [hx])) (by simp; omega)
    refine ⟨w', c', ?_, by simpa using h2, fun k hk => (h3 k hk).trans (heap_setCell_other w _ k v hk), h4, by simpa using h5, fun j => ?_, h7, h8, h9⟩
    · simp only [storeCells, Sem.run_bind, add_none, run_store P w _ v _ (hv v (by simp)), hc, hf (o + i) (by omega), Bool.false_eq_true, if_false, Result.andThen_ok]
      exact h1
    · rw [h6 j]
      by_cases e1 : j = o + i
      · subst e1
        rw [if_neg (by omega), if_pos (by simp)]
        simp [show o + i < c.size by omega]
      · rw [Array.getElem?_setIfInBounds_ne (by omega)]
        by_cases e2 : o + (i + 1) ≤ j ∧ j < o + (i + 1) + vs.length
        · rw [if_pos e2, if_pos (by simp; omega)]
          rw [show j - (o + i) = (j - (o + (i + 1))) + 1 by omega, List.getElem?_cons_succ]
        · rw [if_neg e2, if_neg (by simp; omega)]

theorem splice_cells (x : AV) (off : Nat) (cs : List AV) (h : off + cs.length ≤ x.cells.length) (hcs : ∀ y ∈ cs, y.scalar = true) (h0 : 0 < cs.length) :
    (x.splice off cs).cells = x.cells.take off ++ cs ++ x.cells.drop (off + cs.length) := by
  cases x with
  | agg l => simp [AV.splice, AV.cells]
  | _ =>
    simp only [AV.cells, List.length_singleton] at h
    have : off = 0 := by omega
    subst this
    match cs, h0, h, hcs with
    | [c], _, _, hcs =>
      have := hcs c (by simp)
      cases c <;> simp_all [AV.splice, AV.cells, AV.scalar]

/-- A store into a row that is owned. -/
theorem store_sound {E : Env} {σ : Hp} {w : World} (hH : HRel E σ w) {b sz j off n : Nat} {els : List AV} {x v : AV} {val : Value} (hb : σ b = some (.row sz els)) (hx : els[j]? = some x)
    (hv : Rep E.A σ w val v) (hn : v.cells.length = n) (hs : ∀ y ∈ v.cells, y.scalar = true) (hl : off + n ≤ x.cells.length) (h0 : 0 < n) {t : TypeId} {i : TypeInfo} (hi : E.P.info? t = some i) (hin : i.size = n) :
    ∃ w', (storeVar t ⟨b, j * sz + off, none⟩ val).run E.P w = .ok () w' ∧ HRel E (σ.upd b (.row sz (els.set j (x.splice off v.cells)))) w' ∧ Trans σ w (σ.upd b (.row sz (els.set j (x.splice off v.cells)))) w' := by
  obtain ⟨c, e, f, h1, h2, h3, h4, h5⟩ := hH.blk b _ hb
  have hj : j < els.length := (List.getElem?_eq_some_iff.1 hx).1
  have hxs : x.cells.length = sz := h4 x (List.mem_of_getElem? hx)
  obtain ⟨hc1, hc2⟩ := hv.cells hs
  have hjs : j * sz + sz ≤ els.length * sz := by
    have := Nat.mul_le_mul_right sz (show j + 1 ≤ els.length by omega)
    rw [Nat.add_mul, Nat.one_mul] at this; exact this
  have hone : ∀ u ∈ val.cells.toList, u.oneCell' = true := by
    intro u hu
    obtain ⟨k, hk⟩ := List.mem_iff_getElem?.1 hu
    rw [Array.getElem?_toList] at hk
    have hk2 : k < v.cells.length := by have := (Array.getElem?_eq_some_iff.1 hk).1; omega
    have := hc2 k u _ hk (List.getElem?_eq_getElem hk2)
    exact (this.scalar (hs _ (List.getElem_mem hk2))).1
  obtain ⟨w', c', g1, g2, g3, g4, g5, g6, g7, g8, g9⟩ := store_cells (P := E.P) b val.cells.toList (j * sz + off) 0 w c e f h1 h3 hone (by simp; omega)
  have hlen : val.cells.toList.length = n := by simp; omega
  refine ⟨w', ?_, ?_⟩
  · simp only [storeVar, Sem.run_bind, run_siz hi, Result.andThen_ok]
    rw [if_neg (by simp; omega)]
    exact g1
  · refine hH.change b _ hb _ (fun i hi => by simp [Hp.upd, hi]) w' g2 g3 (fun c0 e0 f0 hc => ?_) (fun htr x' hx' => ?_) g7 g8 g9
    · rw [h1] at hc; cases hc; exact ⟨c', f, g4, g5⟩
    · simp only [Hp.upd, if_true, Option.some.injEq] at hx'
      subst hx'
      refine ⟨c', e, f, g4, by simp; omega, fun o ho => ?_, fun y hy => ?_, fun i' x' k y hx' hy => ?_⟩
      · have : w'.frozen? ⟨b, o, none⟩ = w.frozen? ⟨b, o, none⟩ := by simp only [World.frozen?, g4, h1]
        rw [this]; exact h3 o (by omega)
      · rcases List.mem_or_eq_of_mem_set hy with hy | rfl
        · exact h4 y hy
        · rw [splice_cells x off v.cells (by omega) hs (by omega)]; simp; omega
      · rw [List.getElem?_set] at hx'
        by_cases hij : j = i'
        · subst hij
          rw [if_pos rfl, if_pos hj, Option.some.injEq] at hx'
          subst hx'
          rw [g6]
          rw [splice_cells x off v.cells (by omega) hs (by omega)] at hy
          by_cases hk : off ≤ k ∧ k < off + n
          · rw [if_pos (by omega)]
            rw [List.append_assoc, List.getElem?_append_right (by simp; omega), List.length_take, Nat.min_eq_left (by omega), List.getElem?_append_left (by omega)] at hy
            refine ⟨val.cells.toList[j * sz + k - (j * sz + off + 0)], ?_, ?_⟩
            · rw [List.getElem?_eq_getElem]
            · have := hc2 (k - off) val.cells[k - off] y (by rw [Array.getElem?_eq_getElem]) hy
              have e2 : j * sz + k - (j * sz + off + 0) = k - off := by omega
              simp only [e2, Array.getElem_toList]
              exact this.mono htr
          · rw [if_neg (by omega)]
            have : x.cells[k]? = some y := by
              by_cases hk2 : k < off
              · rw [List.append_assoc, List.getElem?_append_left (by simp; omega), List.getElem?_take_of_lt hk2] at hy; exact hy
              · rw [List.getElem?_append_right (by simp; omega), List.length_append, List.length_take, Nat.min_eq_left (by omega), List.getElem?_drop] at hy
                rw [show off + v.cells.length + (k - (off + v.cells.length)) = k by omega] at hy; exact hy
            obtain ⟨u, hu1, hu2⟩ := h5 j x k y hx this
            exact ⟨u, hu1, hu2.mono htr⟩
        · rw [if_neg hij] at hx'
          obtain ⟨u, hu1, hu2⟩ := h5 i' x' k y hx' hy
          refine ⟨u, ?_, hu2.mono htr⟩
          rw [g6, if_neg]
          · exact hu1
          · have hk : k < sz := by
              have := (List.getElem?_eq_some_iff.1 hy).1
              have := h4 x' (List.mem_of_getElem? hx')
              omega
            rcases Nat.lt_or_gt_of_ne hij with h | h
            · have := Nat.mul_le_mul_right sz (show j + 1 ≤ i' by omega)
              rw [Nat.add_mul, Nat.one_mul] at this; omega
            · have := Nat.mul_le_mul_right sz (show i' + 1 ≤ j by omega)
              rw [Nat.add_mul, Nat.one_mul] at this; omega
end Pat
end Go.Proofs.YthmcfphafofheaaDoor
