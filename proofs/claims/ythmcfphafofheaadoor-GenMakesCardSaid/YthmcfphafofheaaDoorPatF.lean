/- The abstract machine: each operation is sound (2). No statement of the seat is proved in this file. -/
import Derived.Test.YthmcfphafofheaaDoorPatE
import Derived.Laws.Cover3
namespace Go.Proofs.YthmcfphafofheaaDoor
namespace Pat
set_option linter.unusedVariables false
set_option linter.unusedSimpArgs false

section
variable {E : Env} {s : Slots} {σ : Hp} {K : AV → Hp → Prop} {w : World} {a : Act}

theorem eq_fields {P : Program} {A : Nat → Addr} : ∀ (fs : List Field) (k : Nat) (ks : List FK) (xs ys : Array Value) (ax ay : List AV) (b : Bool) (d : Nat),
    flatKinds P fs k = some ks →
    (∀ i y, ax[i]? = some y → ∃ v, xs[k + i]? = some v ∧ Rep A σ w v y) → (∀ i y, ay[i]? = some y → ∃ v, ys[k + i]? = some v ∧ Rep A σ w v y) →
    eqCells ks ax ay = some b → (Op.eqFields (d + 1) xs ys fs).run P w = .ok b w
  | [], k, ks, xs, ys, ax, ay, b, d, hf, hx, hy, he => by
    simp only [flatKinds, Option.some.injEq] at hf
    subst hf
    cases ax <;> cases ay <;> simp [eqCells] at he
    subst he; simp [Op.eqFields]
  | f :: fs, k, ks, xs, ys, ax, ay, b, d, hf, hx, hy, he => by
    simp only [flatKinds] at hf
    split at hf
    · rename_i hof
      obtain ⟨g1, g2⟩ := hof
      have key : ∀ (fk : FK) (l : List FK), ks = fk :: l → flatKinds P fs (k + 1) = some l → ((isAgg f.type).run P w = .ok false w) →
          (∀ v u p q b1, Rep A σ w v p → Rep A σ w u q → eqCell fk p q = some b1 → (Op.equalIn (d + 1) f.type v u).run P w = .ok b1 w) → (Op.eqFields (d + 1) xs ys (f :: fs)).run P w = .ok b w := by
        intro fk l hks hl hag heq
        subst hks
        cases ax with
        | nil => simp [eqCells] at he
        | cons p ax =>
          cases ay with
          | nil => simp [eqCells] at he
          | cons q ay =>
            simp only [eqCells] at he
            split at he
            · rename_i b1 b2 h1 h2
              simp only [Option.some.injEq] at he
              subst he
              obtain ⟨v, v1, v2⟩ := hx 0 p (by simp)
              obtain ⟨u, u1, u2⟩ := hy 0 q (by simp)
              simp only [Nat.add_zero] at v1 u1
              have e1 : (Go.part f.type xs f.offset).run P w = .ok v w := by
                simp only [Go.part, Sem.run_bind, hag, Result.andThen_ok, Bool.false_eq_true, if_false, g1, v1, Sem.run_pure]
              have e2 : (Go.part f.type ys f.offset).run P w = .ok u w := by
                simp only [Go.part, Sem.run_bind, hag, Result.andThen_ok, Bool.false_eq_true, if_false, g1, u1, Sem.run_pure]
              have e3 := heq v u p q b1 v2 u2 h1
              have ih := eq_fields fs (k + 1) l xs ys ax ay b2 d hl (fun i y hy' => by
                have := hx (i + 1) y (by simpa using hy')
                rwa [show k + (i + 1) = k + 1 + i by omega] at this) (fun i y hy' => by
                have := hy (i + 1) y (by simpa using hy')
                rwa [show k + (i + 1) = k + 1 + i by omega] at this) h2
              simp only [Op.eqFields, ne_eq, g2, not_false_eq_true, if_true, Sem.run_bind, e1, e2, e3, Result.andThen_ok, Sem.run_ite]
              cases b1 <;> simp [ih]
            · cases he
      split at hf
      · rename_i q l hu hl
        simp only [Option.some.injEq] at hf
        refine key .i l hf.symm hl (run_agg hu) fun v u p q b1 hv hu' h1 => ?_
        unfold eqCell at h1
        split at h1 <;> simp_all
        obtain ⟨rfl, rfl⟩ := h1
        rw [hv.int_inv, hu'.int_inv]
        exact run_equalIn_int w d f.type _ _ _ _ hu
      · rename_i l hu hl
        simp only [Option.some.injEq] at hf
        refine key .s l hf.symm hl (run_agg hu) fun v u p q b1 hv hu' h1 => ?_
        unfold eqCell at h1
        split at h1 <;> simp_all
        obtain ⟨sx, e3, e4⟩ := hv.str_inv
        obtain ⟨sy, e5, e6⟩ := hu'.str_inv
        rw [e3, e5, run_equalIn_string w d f.type _ _ hu, ByteArray.toList_eq, ByteArray.toList_eq, e4, e6, h1]
      · rename_i l hu hl
        simp only [Option.some.injEq] at hf
        refine key .b l hf.symm hl (run_agg hu) fun v u p q b1 hv hu' h1 => ?_
        unfold eqCell at h1
        split at h1 <;> simp_all
        rw [hv.bool_inv, hu'.bool_inv, run_equalIn_bool w d f.type _ _ hu, h1]
      · cases hf
    · cases hf
/-- In such a struct there is no value of an interface type. -/
theorem flat_guard {P : Program} : ∀ (fs : List Field) (k : Nat) (ks : List FK) (d : Nat), flatKinds P fs k = some ks → (fs.any fun f => f.name != "_" && P.eqGuardType (d + 1) f.type) = false
  | [], _, _, _, _ => rfl
  | f :: fs, k, ks, d, h => by
    simp only [flatKinds] at h
    split at h
    · have key : ∀ l, flatKinds P fs (k + 1) = some l → P.eqGuardType (d + 1) f.type = false → ((f :: fs).any fun f => f.name != "_" && P.eqGuardType (d + 1) f.type) = false := fun l h1 h2 => by
        simp only [List.any_cons, h2, Bool.and_false, Bool.false_or]; exact flat_guard fs (k + 1) l d h1
      split at h
      · rename_i hu hl; exact key _ hl (by simp [Program.eqGuardType, hu])
      · rename_i hu hl; exact key _ hl (by simp [Program.eqGuardType, hu])
      · rename_i hu hl; exact key _ hl (by simp [Program.eqGuardType, hu])
      · cases h
    · cases h

theorem snd_eqst (hs : RelS E.A σ w a.tmps s) (hH : HRel E σ w) (t : TypeId) (op : BinOp) (x y : Operand) (ho : op = .eql ∨ op = .neq) {fs : Array Field} {ks : List FK} (hu : E.P.underlying t = some (.struct fs)) (hk : flatKinds E.P fs.toList 0 = some ks) (hp : E.P.stoodInHeld t = false)
    (h : match s.ev (opd x), s.ev (opd y) with
    | .agg xs, .agg ys => match eqCells ks xs ys with
      | some b => K (.bool (eqRes op b)) σ
      | none => False
    | _, _ => False) :
    VS E σ w K ((do eqGuard op t x y (a.eval x) (a.eval y); binOp op t (a.eval x) (a.eval y) : Sem Value).run E.P w) := by
  have hx := hs.ev x
  have hy := hs.ev y
  split at h
  · rename_i xs ys e1 e2
    rw [e1] at hx; rw [e2] at hy
    split at h
    · rename_i b hb
      obtain ⟨cx, e3, e4, e5⟩ := hx.agg_inv
      obtain ⟨cy, e6, e7, e8⟩ := hy.agg_inv
      rw [e3, e6]
      have hfo : E.P.fieldsOf t = fs := by simp [Program.fieldsOf, hu]
      have hd : ∃ d, E.P.depth = d + 1 + 1 := ⟨2 * (E.P.types.size + Made.depth), rfl⟩
      obtain ⟨d, hd⟩ := hd
      have hgt : E.P.eqGuardType E.P.depth t = false := by
        rw [hd]
        show (match E.P.underlying t with
          | some (.interface ms) => !ms.isEmpty
          | some (.struct fs) => fs.any fun f => f.name != "_" && E.P.eqGuardType (d + 1) f.type
          | some (.array _ e) => E.P.eqGuardType (d + 1) e
          | _ => false) = false
        rw [hu]
        have := flat_guard fs.toList 0 ks d hk
        simpa using this
      refine snd_eq_val hH ho (run_eqGuard_agg w op t x y cx cy hgt) (b := b) ?_ ⟨rfl, rfl⟩ h
      have := run_equalIn_struct (P := E.P) w 9999 t cx cy (by rw [hfo]; exact hu) hp
      refine Eq.trans this ?_
      rw [hfo]
      refine eq_fields (A := E.A) (σ := σ) fs.toList 0 ks cx cy xs ys b 9998 hk (fun i y hy => ?_) (fun i y hy => ?_) hb
      · have hlt : i < cx.size := by rw [e4]; exact (List.getElem?_eq_some_iff.1 hy).1
        exact ⟨cx[i], by simp [hlt], e5 i _ _ (Array.getElem?_eq_getElem hlt) hy⟩
      · have hlt : i < cy.size := by rw [e7]; exact (List.getElem?_eq_some_iff.1 hy).1
        exact ⟨cy[i], by simp [hlt], e8 i _ _ (Array.getElem?_eq_getElem hlt) hy⟩
    · exact h.elim
  · exact h.elim

theorem snd_isnil (hs : RelS E.A σ w a.tmps s) (hH : HRel E σ w) (t e : TypeId) (op : BinOp) (x y : Operand) (ho : op = .eql ∨ op = .neq) (hu : E.P.underlying t = some (.slice e)) (hy : nilSlice y = true)
    (h : match s.ev (opd x) with
    | .nils => K (.bool true) σ ∧ K (.bool false) σ
    | .rd _ xs => (xs = [] → K (.bool (eqRes op true)) σ) ∧ K (.bool (eqRes op false)) σ
    | .own _ _ _ n => (n = 0 → K (.bool (eqRes op true)) σ) ∧ K (.bool (eqRes op false)) σ
    | _ => False) :
    VS E σ w K ((do eqGuard op t x y (a.eval x) (a.eval y); binOp op t (a.eval x) (a.eval y) : Sem Value).run E.P w) := by
  have hx := hs.ev x
  obtain ⟨l, c, hyv⟩ : ∃ l c, a.eval y = .slice none l c := by
    unfold nilSlice at hy
    split at hy
    · exact ⟨_, _, rfl⟩
    · cases hy
  have hq : ∀ (p : Option Addr) n m, (Op.equal t (.slice p n m) (.slice none l c)).run E.P w = .ok p.isNone w := fun p n m => by
    have : ∀ d : Nat, (Op.equalIn (d + 1) t (.slice p n m) (.slice none l c)).run E.P w = .ok p.isNone w := fun d => by cases p <;> simp [Op.equalIn, run_underlying hu]
    exact this 9999
  have fin : ∀ (p : Option Addr) n m, K (.bool (eqRes op p.isNone)) σ → VS E σ w K ((do eqGuard op t x y (.slice p n m) (a.eval y); binOp op t (.slice p n m) (a.eval y) : Sem Value).run E.P w) := by
    intro p n m hk
    rw [hyv]
    exact snd_eq_val hH ho (guard_none _ _ (by simp) (by simp)) (hq p n m) ⟨rfl, rfl⟩ hk
  split at h
  · rename_i e1
    rw [e1] at hx
    generalize a.eval x = ev at hx ⊢
    cases hx with
    | nils p =>
      have hk : K (.bool (eqRes op p.isNone)) σ := by
        cases hb : eqRes op p.isNone
        · exact h.2
        · exact h.1
      exact fin p _ _ hk
  · rename_i sz xs e1
    rw [e1] at hx
    generalize a.eval x = ev at hx ⊢
    cases hx with
    | rd b p sz cap xs vs => exact fin _ _ _ h.2
    | rd0 p cap sz =>
      cases p with
      | none => exact fin _ _ _ (h.1 rfl)
      | some p => exact fin _ _ _ h.2
  · rename_i b sz i n e1
    rw [e1] at hx
    generalize a.eval x = ev at hx ⊢
    cases hx with
    | own => exact fin _ _ _ h.2
    | own0 p =>
      cases p with
      | none => exact fin _ _ _ (h.1 rfl)
      | some p => exact fin _ _ _ h.2
  · exact h.elim
end
end Pat
end Go.Proofs.YthmcfphafofheaaDoor
