/- The abstract machine: each operation is sound (4). No statement of the seat is proved in this file. -/
import Derived.Test.YthmcfphafofheaaDoorPatG
namespace Go.Proofs.YthmcfphafofheaaDoor
namespace Pat
set_option linter.unusedVariables false
set_option linter.unusedSimpArgs false

section
variable {E : Env} {s : Slots} {σ : Hp} {K : AV → Hp → Prop} {w : World} {a : Act}

theorem run_bounds {P : Program} {isSlice : Bool} {len cap : Nat} {lo hi : Option Value} {kl kh : IntKind} {l h : Int} (hlo : lo = some (.int kl l) ∨ lo = none ∧ l = 0) (hhi : hi = some (.int kh h) ∨ hi = none ∧ h = len)
    (h0 : 0 ≤ l) (h1 : l ≤ h) (h2 : h ≤ cap) : (Instr.sliceBounds isSlice len cap lo hi none).run P w = .ok (l.toNat, h.toNat, cap) w := by
  have e : ∀ (y : Nat) (code : BoundsCode) (k : IntKind) (i : Int), 0 ≤ i → i ≤ y → (Instr.sliceBound (.int k i) y code).run P w = .ok i.toNat w := by
    intro y code k i h3 h4
    simp [Instr.sliceBound, asIntOf, h3, h4]
  rcases hlo with rfl | ⟨rfl, rfl⟩ <;> rcases hhi with rfl | ⟨rfl, rfl⟩
  · simp only [Instr.sliceBounds, Sem.run_bind, Sem.run_pure, Result.andThen_ok, e _ _ kh h (by omega) h2, e h.toNat _ kl l h0 (by omega)]
  · simp only [Instr.sliceBounds, Sem.run_bind, Sem.run_pure, Result.andThen_ok, e len _ kl l h0 (by omega)]; simp
  · simp only [Instr.sliceBounds, Sem.run_bind, Sem.run_pure, Result.andThen_ok, e _ _ kh h (by omega) h2]; simp
  · simp [Instr.sliceBounds]

/-- A bound of a slice expression. -/
theorem bound_ev (hs : RelS E.A σ w a.tmps s) (lo : Option Operand) (d : Int) {k : IntKind} {l : Int} (h : ((lo.map opd).map s.ev).getD (.int .i64 d) = .int k l) :
    lo.map a.eval = some (.int k l) ∨ lo.map a.eval = none ∧ l = d := by
  cases lo with
  | none => simp at h; exact .inr ⟨rfl, h.2.symm⟩
  | some o =>
    simp at h
    have := hs.ev o
    rw [h] at this
    exact .inl (by simp [this.int_inv])

theorem snd_slice (hs : RelS E.A σ w a.tmps s) (hH : HRel E σ w) (t : TypeId) (x : Operand) (lo hi mx : Option Operand) (h : aOp E s σ (compOp E.P (.slice t x lo hi mx)) K) :
    VS E σ w K ((Instr.sliceAt t (a.eval x) (lo.map a.eval) (hi.map a.eval) (mx.map a.eval)).run E.P w) := by
  simp only [compOp] at h
  have hr := hs.ev x
  split at h
  · rename_i e hu
    split at h
    · rename_i ie hie
      cases mx with
      | some m => simp only [Option.map_some, aOp] at h
      | none =>
        simp only [Option.map_none, aOp] at h
        have key : ∀ (base : Option Addr) (len cap : Nat) {kl kh : IntKind} {l h : Int}, (lo.map a.eval = some (.int kl l) ∨ lo.map a.eval = none ∧ l = 0) → (hi.map a.eval = some (.int kh h) ∨ hi.map a.eval = none ∧ h = len) →
            0 ≤ l → l ≤ h → h ≤ cap → (Instr.sliceAt t (.slice base len cap) (lo.map a.eval) (hi.map a.eval) none).run E.P w =
              .ok (.slice (if cap = l.toNat then base else base.map (·.add (l.toNat * ie.size))) (h.toNat - l.toNat) (cap - l.toNat)) w := by
          intro base len cap kl kh l h h1 h2 h3 h4 h5
          simp only [Instr.sliceAt, Instr.slice, Sem.run_bind, run_und hu, Result.andThen_ok, run_bounds h1 h2 h3 h4 h5, run_siz hie, Sem.run_pure]
        split at h
        · rename_i sz' xs e1
          rw [e1] at hr
          split at h
          · rename_i kl l kh hh e2 e3
            obtain ⟨⟨rfl, h0, h1, h2⟩, h⟩ := h
            have hl := bound_ev hs lo 0 e2
            have hhi := bound_ev hs hi _ e3
            generalize a.eval x = ev at hr ⊢
            cases hr with
            | rd b p sz cap xs vs hb hσ hcap hsz hc hrr =>
              refine VS.here (key (some ⟨b, p, none⟩) xs.length cap hl hhi h0 h1 (by omega)) hH h ?_
              by_cases hc0 : cap = l.toNat
              · have e4 : hh.toNat - l.toNat = 0 := by omega
                rw [e4, List.take_zero]; exact .rd0 _ _ _
              · rw [if_neg hc0]
                simp only [Option.map_some, add_none]
                have e5 : ((xs.drop l.toNat).take (hh.toNat - l.toNat)).length = hh.toNat - l.toNat := by simp; omega
                have hget : ∀ (i : Nat) (x : AV), ((xs.drop l.toNat).take (hh.toNat - l.toNat))[i]? = some x → xs[l.toNat + i]? = some x := by
                  intro i x hx
                  have hi2 : i < hh.toNat - l.toNat := by rw [← e5]; exact (List.getElem?_eq_some_iff.1 hx).1
                  rw [List.getElem?_take_of_lt hi2, List.getElem?_drop] at hx; exact hx
                have := Rep.rd (A := E.A) (σ := σ) (w := w) b (p + l.toNat * ie.size) ie.size (cap - l.toNat) ((xs.drop l.toNat).take (hh.toNat - l.toNat)) (fun i j => vs (l.toNat + i) j) hb hσ (by rw [e5]; omega)
                  (fun x hx => hsz x (List.mem_of_mem_drop (List.mem_of_mem_take hx)))
                  (fun i x j y hx hy => by
                    have := hc _ _ j y (hget i x hx) hy
                    rwa [Nat.add_mul, ← Nat.add_assoc] at this)
                  (fun i x j y hx hy => hrr _ _ j y (hget i x hx) hy)
                rw [e5] at this
                exact this
            | rd0 p cap sz =>
              simp only [List.length_nil] at h2 hhi
              have hh0 : hh = 0 := by have : ((0 : Nat) : Int) = 0 := rfl; omega
              have hl0 : l = 0 := by omega
              subst hh0; subst hl0
              refine VS.here (key p 0 cap hl hhi h0 h1 (by omega)) hH h ?_
              simp; exact .rd0 _ _ _
          · exact h.elim
        · rename_i b sz' i n e1
          rw [e1] at hr
          split at h
          · rename_i kl l kh hh e2 e3
            obtain ⟨els, hσ, ⟨rfl, hsz, h0, h1, h2⟩, h⟩ := h
            have hl := bound_ev hs lo 0 e2
            have hhi := bound_ev hs hi _ e3
            obtain ⟨c', e', f', g1, g2, g3, g4, g5⟩ := hH.blk b _ hσ
            generalize a.eval x = ev at hr ⊢
            cases hr with
            | own b sz i n cap c ee f hb hc hn =>
              rw [hb] at g1; cases g1
              have hel : els.length ≤ i + cap := by
                have := g2; rw [← hc] at this; exact Nat.le_of_mul_le_mul_right this hsz
              refine VS.here (key (some ⟨b, i * ie.size, none⟩) n cap hl hhi h0 h1 (by omega)) hH h ?_
              by_cases hc0 : cap = l.toNat
              · have e4 : hh.toNat - l.toNat = 0 := by omega
                rw [if_pos hc0, e4, show cap - l.toNat = 0 by omega]
                exact .own0 _ b ie.size _ c' e' f' hb (by rw [← hc0]; exact hc)
              · rw [if_neg hc0]
                simp only [Option.map_some, add_none, ← Nat.add_mul]
                exact .own b ie.size _ _ _ c' e' f' hb (by rw [← hc]; congr 1; omega) (by omega)
            | own0 p b sz i c ee f hb hc =>
              rw [hb] at g1; cases g1
              have hel : els.length ≤ i := by
                have := g2; rw [← hc] at this; exact Nat.le_of_mul_le_mul_right this hsz
              have hh0 : hh = 0 := by omega
              have hl0 : l = 0 := by omega
              subst hh0; subst hl0
              refine VS.here (key p 0 0 hl hhi h0 h1 (by omega)) hH h ?_
              simp; exact .own0 _ b ie.size _ c' e' f' hb hc
          · exact h.elim
        · rename_i e1
          rw [e1] at hr
          split at h
          · rename_i kl l kh hh e2 e3
            obtain ⟨⟨rfl, rfl⟩, h⟩ := h
            have hl := bound_ev hs lo 0 e2
            have hhi := bound_ev hs hi 0 e3
            generalize a.eval x = ev at hr ⊢
            cases hr with
            | nils p =>
              refine VS.here (key p 0 0 hl (by rcases hhi with h | ⟨h, _⟩; exact .inl h; exact .inr ⟨h, rfl⟩) (by omega) (by omega) (by omega)) hH h ?_
              simp; exact .nils _
          · exact h.elim
        · exact h.elim
    · exact h.elim
  · rename_i hu
    split at h
    · simp only [aOp] at h
      split at h
      · rename_i l0 e1
        rw [e1] at hr
        obtain ⟨sv, e2, e3⟩ := hr.str_inv
        split at h
        · rename_i kl l kh hh e4 e5
          obtain ⟨⟨h0, h1, h2⟩, h⟩ := h
          have hl := bound_ev hs lo 0 e4
          have hhi := bound_ev hs hi _ e5
          have hsz : sv.size = l0.length := by rw [← e3, Array.length_toList]; rfl
          rw [e2]
          refine VS.here (v := .string (sv.extract l.toNat hh.toNat)) ?_ hH h ?_
          · have hbd : (Instr.sliceBounds false sv.size sv.size (lo.map a.eval) (hi.map a.eval) none).run E.P w = .ok (l.toNat, hh.toNat, sv.size) w := run_bounds hl (hsz ▸ hhi) h0 h1 (by omega)
            simp only [Option.map_none, Instr.sliceAt, Instr.slice, Sem.run_bind, run_und hu, Result.andThen_ok, hbd, Option.isSome_none, Bool.false_eq_true, if_false, Sem.run_pure]
          · have : (sv.extract l.toNat hh.toNat).data.toList = (l0.drop l.toNat).take (hh.toNat - l.toNat) := by
              rw [ByteArray.data_extract, Array.toList_extract, ← e3]
            exact this ▸ Rep.str _
        · exact h.elim
      · exact h.elim
    · exact h.elim
  · rename_i n e hu
    split at h <;> simp only [aOp] at h
  · exact h.elim

theorem snd_alloc (hH : HRel E σ w) (t : TypeId) (h : aOp E s σ (compOp E.P (.alloc t)) K) : VS E σ w K ((Instr.alloc t true (.tuple #[])).run E.P w) := by
  simp only [compOp] at h
  split at h
  · rename_i i hi
    split at h
    · rename_i z hz
      simp only [aOp] at h
      have hrep := rep_ofValue E.A σ w z
      have hl : (AV.ofValue z).cells.length = z.cells.size := by
        unfold AV.ofValue
        split
        · simp [AV.cells, Value.cells]
        · simp [AV.cells, Value.cells]
        · rename_i v h1 h2
          have : (AV.ofScalar z).cells.length = 1 := by unfold AV.ofScalar; split <;> rfl
          rw [this]
          cases z <;> simp_all [Value.cells]
      obtain ⟨g1, g2, g3⟩ := hH.alloc z.cells.size [AV.ofValue z] z.cells t (by simp) (fun x hx => by simp at hx; rw [hx]; exact hl) (fun k x j y hx hy => by
        match k with
        | 0 =>
          simp at hx; subst hx
          have hlt : j < z.cells.size := by rw [← hl]; exact (List.getElem?_eq_some_iff.1 hy).1
          refine ⟨z.cells[j], by simp [hlt], ?_⟩
          revert hrep hy
          unfold AV.ofValue
          split
          · intro hrep hy
            obtain ⟨cs, e1, e2, e3⟩ := hrep.agg_inv
            cases e1
            exact e3 j _ y (Array.getElem?_eq_getElem hlt) hy
          · intro hrep hy
            rename_i cs
            simp only [AV.cells] at hy
            match j, hy with
            | 0, hy => simp at hy; subst hy; exact hrep
          · intro hrep hy
            rename_i v h1 h2
            have hc : (AV.ofScalar z).cells = [AV.ofScalar z] := by unfold AV.ofScalar; split <;> rfl
            rw [hc] at hy
            have hv : z.cells = #[z] := by cases z <;> simp_all [Value.cells]
            match j, hy with
            | 0, hy => simp at hy; subst hy; simp [hv]; exact hrep
        | k + 1 => simp at hx) (w.alloc (.cells z.cells t)) rfl rfl rfl rfl
      refine VS.mk (v := .pointer (some ⟨w.heap.size, 0, none⟩)) (w' := w.alloc (.cells z.cells t)) ?_ (h _ g1) g2 ?_ g3
      · simp [Instr.alloc, zeroValue, run_inf hi, hz, newVar, newRow]
      · have := Rep.ptr (A := E.A) (σ := σ.upd w.heap.size (.row z.cells.size [AV.ofValue z])) (w := w.alloc (.cells z.cells t)) w.heap.size z.cells.size 0 0
        simpa using this
    · exact h.elim
  · exact h.elim

/-- The cells of a value, as far as they are known. -/
theorem Rep.cell {A : Nat → Addr} {v : Value} {x : AV} (h : Rep A σ w v x) (hn : x.known = true) : v.cells.size = x.cells.length ∧ ∀ (j : Nat) (y : AV), x.cells[j]? = some y → ∃ u, v.cells[j]? = some u ∧ Rep A σ w u y := by
  have one : ∀ {v : Value} {x : AV}, Rep A σ w v x → v.cells = #[v] → x.cells = [x] → v.cells.size = x.cells.length ∧ ∀ (j : Nat) (y : AV), x.cells[j]? = some y → ∃ u, v.cells[j]? = some u ∧ Rep A σ w u y := by
    intro v x h h1 h2
    rw [h1, h2]
    refine ⟨rfl, fun j y hy => ?_⟩
    match j, hy with
    | 0, hy => simp at hy; subst hy; exact ⟨v, rfl, h⟩
  cases h with
  | any v => cases hn
  | agg cs as hl h =>
    refine ⟨hl, fun j y hy => ?_⟩
    have hlt : j < cs.size := by rw [hl]; exact (List.getElem?_eq_some_iff.1 hy).1
    exact ⟨cs[j], by simp [Value.cells, hlt], h j _ y (Array.getElem?_eq_getElem hlt) hy⟩
  | tuple cs as hl h => exact one (.tuple cs as hl h) rfl rfl
  | _ => exact one (by first | assumption | (constructor <;> assumption)) rfl rfl

theorem snd_box (hs : RelS E.A σ w a.tmps s) (hH : HRel E σ w) (t : TypeId) (x : Operand) (h : aOp E s σ (compOp E.P (.box t x)) K) : VS E σ w K ((Instr.box t (a.eval x)).run E.P w) := by
  simp only [compOp] at h
  split at h
  · rename_i i hi
    simp only [aOp] at h
    obtain ⟨h1, hn, h⟩ := h
    obtain ⟨c1, c2⟩ := (hs.ev x).cell hn
    obtain ⟨g1, g2, g3⟩ := hH.alloc i.size [s.ev (opd x)] (a.eval x).cells t (by simp; omega) (fun y hy => by simp at hy; rw [hy]; exact h1) (fun k y j z hy hz => by
      match k, hy with
      | 0, hy => simp at hy; subst hy; simpa using c2 j z hz) (w.alloc (.cells (a.eval x).cells t)) rfl rfl rfl rfl
    refine VS.mk (v := .pointer (some ⟨w.heap.size, 0, none⟩)) (w' := w.alloc (.cells (a.eval x).cells t)) ?_ (h _ g1) g2 ?_ g3
    · simp [Instr.box, newVar, newRow]
    · have := Rep.ptr (A := E.A) (σ := σ.upd w.heap.size (.row i.size [s.ev (opd x)])) (w := w.alloc (.cells (a.eval x).cells t)) w.heap.size i.size 0 0
      simpa using this
  · exact h.elim
end
end Pat
end Go.Proofs.YthmcfphafofheaaDoor
