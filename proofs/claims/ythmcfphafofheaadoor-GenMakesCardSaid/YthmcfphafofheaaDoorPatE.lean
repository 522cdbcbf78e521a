/- The abstract machine: each operation is sound. No statement of the seat is proved in this file. -/
import Derived.Test.YthmcfphafofheaaDoorPatD
import Derived.Laws.StructEq
import Derived.LaidEql
namespace Go.Proofs.YthmcfphafofheaaDoor
namespace Pat
set_option linter.unusedVariables false
set_option linter.unusedSimpArgs false

section
variable {E : Env} {s : Slots} {σ : Hp} {K : AV → Hp → Prop} {w : World} {a : Act}

theorem snd_load (hs : RelS E.A σ w a.tmps s) (hH : HRel E σ w) (t : TypeId) (x : Operand) (h : aOp E s σ (compOp E.P (.load t x)) K) :
    VS E σ w K ((Instr.loadAt t (a.eval x)).run E.P w) := by
  simp only [compOp] at h
  split at h
  · rename_i ag n hl
    simp only [aOp] at h
    have hr := hs.ev x
    have key : ∀ {b p off : Nat} {cs : List AV} {r : AV}, a.eval x = .pointer (some ⟨b, p + off, none⟩) → (∀ (j : Nat) (y : AV), cs[j]? = some y → ∃ v, w.cell? ⟨b, p + j, none⟩ = some v ∧ Rep E.A σ w v y) →
        part ag n cs off = some r → K r σ → VS E σ w K ((Instr.loadAt t (a.eval x)).run E.P w) := by
      intro b p off cs r hx hc hp hk
      obtain ⟨v, h1, h2⟩ := load_row (P := E.P) hl hc hp
      refine VS.here (v := v) ?_ hH hk h2
      rw [hx]; simp only [Instr.loadAt, Instr.sureAddr, Sem.run_bind, Sem.run_pure, Result.andThen_ok, h1]
    split at h
    · rename_i xv off he
      rw [he] at hr
      split at h
      · rename_i r hp
        generalize hev : a.eval x = ev at *
        cases hr with
        | re b p off x vs hb hσ hc hr => exact key (by rfl) (fun j y hy => ⟨_, hc j y hy, hr j y hy⟩) hp h
      · exact h.elim
    · rename_i b sz j off he
      rw [he] at hr
      split at h
      · rename_i sz' els hσ
        obtain ⟨rfl, xv, hxv, h⟩ := h
        split at h
        · rename_i r hp
          obtain ⟨c, e, f, h1, h2, h3, h4, h5⟩ := hH.blk b _ hσ
          generalize hev : a.eval x = ev at *
          cases hr with
          | ptr => exact key (by rfl) (fun k y hy => by
              obtain ⟨v, h6, h7⟩ := h5 j xv k y hxv hy
              exact ⟨v, by simp [World.cell?, h1, h6], h7⟩) hp h
        · exact h.elim
      · exact h.elim
    · rename_i g he
      rw [he] at hr
      split at h
      · rename_i tt hg
        obtain ⟨rfl, hk⟩ := h
        obtain ⟨_, h2, _⟩ := hH.glo g tt hg
        generalize hev : a.eval x = ev at *
        cases hr with
        | gptr =>
          obtain ⟨h3, _⟩ := lay_some (P := E.P) (w := w) hl
          refine VS.here (v := .iface tt (.pointer (some (E.A g)))) ?_ hH hk (.iface _ _ _ (.sptr g))
          simp only [Instr.loadAt, Instr.sureAddr, Sem.run_bind, Sem.run_pure, Result.andThen_ok, loadVar, h3, Bool.false_eq_true, if_false, run_load, h2]
      · exact h.elim
    · exact h.elim
  · exact h.elim

theorem snd_store (hs : RelS E.A σ w a.tmps s) (hH : HRel E σ w) (t : TypeId) (x y : Operand) (h : aOp E s σ (compOp E.P (.store t x y)) K) :
    ∃ w' b σ', (Instr.storeAt t (a.eval x) (a.eval y)).run E.P w = .ok () w' ∧ K b σ' ∧ HRel E σ' w' ∧ Trans σ w σ' w' ∧ Rep E.A σ' w' undef b := by
  simp only [compOp] at h
  split at h
  · rename_i ag n hl
    cases hn : Nat.blt 0 n with
    | false => rw [hn] at h; exact h.elim
    | true =>
      rw [hn] at h
      simp only [aOp, cond_true] at h
      have hr := hs.ev x
      have hy := hs.ev y
      obtain ⟨i, hi, hin⟩ : ∃ i, E.P.info? t = some i ∧ i.size = n := by
        unfold lay at hl
        cases hi : E.P.info? t with
        | none => cases hu : E.P.underlying t <;> simp [hi, hu] at hl
        | some i => cases hu : E.P.underlying t <;> simp [hi, hu] at hl; exact ⟨i, rfl, hl.2⟩
      split at h
      · rename_i b sz j off he
        rw [he] at hr
        split at h
        · rename_i sz' els hσ
          obtain ⟨⟨rfl, h1, h2⟩, xv, h3, h4, h5⟩ := h
          obtain ⟨w', g1, g2, g3⟩ := store_sound hH hσ h3 hy h1 h2 h4 (by simpa using hn) hi hin
          refine ⟨w', _, _, ?_, h5, g2, g3, .any _⟩
          generalize a.eval x = ev at *
          cases hr with
          | ptr => simp only [Instr.storeAt, Instr.sureAddr, Sem.run_bind, Sem.run_pure, Result.andThen_ok, g1]
        · exact h.elim
      · exact h.elim
  · exact h.elim

theorem snd_int {op : BinOp} {k : IntKind} {m n : Int} {t : TypeId} (h : aBin op (.int k m) (.int k n) fun v => K v σ) (hH : HRel E σ w) :
    VS E σ w K ((binOp op t (.int k m) (.int k n)).run E.P w) := by
  cases op <;> simp only [aBin, binInt, true_and] at h
  case add => exact VS.here (by simp [binOp, Op.intArith]) hH h (.int _ _)
  case sub => exact VS.here (by simp [binOp, Op.intArith]) hH h (.int _ _)
  case mul => exact VS.here (by simp [binOp, Op.intArith]) hH h (.int _ _)
  case quo => exact VS.here (by simp [binOp, Op.intDiv, h.1]) hH h.2 (.int _ _)
  case rem => exact VS.here (by simp [binOp, Op.intDiv, h.1]) hH h.2 (.int _ _)
  case and => exact VS.here (by simp [binOp, Op.intBits]) hH h (.int _ _)
  case or => exact VS.here (by simp [binOp, Op.intBits]) hH h (.int _ _)
  case xor => exact VS.here (by simp [binOp, Op.intBits]) hH h (.int _ _)
  case shl => exact VS.here (by simp [binOp, Op.shift, show ¬ n < 0 by omega]) hH h.2 (.int _ _)
  case shr => exact VS.here (by simp [binOp, Op.shift, show ¬ n < 0 by omega]) hH h.2 (.int _ _)
  case eql => exact VS.here (by simp [binOp, Op.intCmp]) hH h (.bool _)
  case neq => exact VS.here (by simp [binOp, Op.intCmp]) hH h (.bool _)
  case lss => exact VS.here (by simp [binOp, Op.intCmp]) hH h (.bool _)
  case leq => exact VS.here (by simp [binOp, Op.intCmp]) hH h (.bool _)
  case gtr => exact VS.here (by simp [binOp, Op.intCmp]) hH h (.bool _)
  case geq => exact VS.here (by simp [binOp, Op.intCmp]) hH h (.bool _)


theorem snd_str {op : BinOp} {l m : List UInt8} {t : TypeId} {x y : ByteArray} (hx : x.data.toList = l) (hy : y.data.toList = m) (h : binStr op l m fun v => K v σ) (hH : HRel E σ w) :
    VS E σ w K ((binOp op t (.string x) (.string y)).run E.P w) := by
  have ex : x.toList = l := (ByteArray.toList_eq x).trans hx
  have ey : y.toList = m := (ByteArray.toList_eq y).trans hy
  have sx : x.size = l.length := by rw [← hx, Array.length_toList]; rfl
  have sy : y.size = m.length := by rw [← hy, Array.length_toList]; rfl
  cases op <;> simp only [binStr] at h
  case add =>
    have hm : ¬ (((x.size + y.size : Nat) : Int) > IntKind.i64.max) := by
      rw [sx, sy]; have := h.1; show ¬ _ > (9223372036854775807 : Int); omega
    refine VS.here (v := .string (x ++ y)) (by simp only [binOp, Op.stringOp, hm, if_false, Sem.run_pure]) hH h.2 ?_
    have : (x ++ y).data.toList = l ++ m := by rw [ByteArray.data_append, Array.toList_append, hx, hy]
    exact this ▸ Rep.str (x ++ y)
  case lss => exact VS.here (by simp [binOp, Op.stringOp, ex, ey]) hH h (.bool _)
  case leq => exact VS.here (by simp only [binOp, Op.stringOp, ex, ey, Sem.run_pure]) hH h (.bool _)
  case gtr => exact VS.here (by simp only [binOp, Op.stringOp, ex, ey, Sem.run_pure]) hH h (.bool _)
  case geq => exact VS.here (by simp only [binOp, Op.stringOp, ex, ey, Sem.run_pure]) hH h (.bool _)

theorem run_guard_int (op : BinOp) (t : TypeId) (x y : Operand) (k k' : IntKind) (m n : Int) : (eqGuard op t x y (.int k m) (.int k' n)).run E.P w = .ok () w := by cases op <;> simp [eqGuard]
theorem run_guard_str (op : BinOp) (t : TypeId) (x y : Operand) (m n : ByteArray) : (eqGuard op t x y (.string m) (.string n)).run E.P w = .ok () w := by cases op <;> simp [eqGuard]

theorem snd_bin (hs : RelS E.A σ w a.tmps s) (hH : HRel E σ w) (op : BinOp) (t : TypeId) (x y : Operand) (h : aBin op (s.ev (opd x)) (s.ev (opd y)) fun v => K v σ) :
    VS E σ w K ((do eqGuard op t x y (a.eval x) (a.eval y); binOp op t (a.eval x) (a.eval y) : Sem Value).run E.P w) := by
  have hx := hs.ev x
  have hy := hs.ev y
  simp only [aBin] at h
  split at h
  · rename_i k m k' n e1 e2
    rw [e1] at hx; rw [e2] at hy
    rw [hx.int_inv, hy.int_inv]
    simp only [Sem.run_bind, run_guard_int, Result.andThen_ok]
    split at h
    · have : (binOp .shl t (.int k m) (.int k' n)).run E.P w = (binOp .shl t (.int k m) (.int k n)).run E.P w := by simp [binOp, Op.shift]
      rw [this]; exact snd_int (op := .shl) (by simpa [aBin] using h) hH
    · have : (binOp .shr t (.int k m) (.int k' n)).run E.P w = (binOp .shr t (.int k m) (.int k n)).run E.P w := by simp [binOp, Op.shift]
      rw [this]; exact snd_int (op := .shr) (by simpa [aBin] using h) hH
    · rename_i n1 n2
      obtain ⟨rfl, h⟩ := h
      refine snd_int ?_ hH
      cases op <;> first | (simpa [aBin] using h) | exact absurd rfl n1 | exact absurd rfl n2
  · rename_i l m e1 e2
    rw [e1] at hx; rw [e2] at hy
    obtain ⟨sx, e3, e4⟩ := hx.str_inv
    obtain ⟨sy, e5, e6⟩ := hy.str_inv
    rw [e3, e5]
    simp only [Sem.run_bind, run_guard_str, Result.andThen_ok]
    exact snd_str e4 e6 h hH
  · exact h.elim


def eqRes (op : BinOp) (b : Bool) : Bool := match op with | .neq => !b | _ => b
theorem snd_eq_val {op : BinOp} {t : TypeId} {x y : Operand} {vx vy : Value} {b : Bool} (hH : HRel E σ w) (ho : op = .eql ∨ op = .neq) (hg : (eqGuard op t x y vx vy).run E.P w = .ok () w)
    (he : (Op.equal t vx vy).run E.P w = .ok b w) (hb : binOp .eql t vx vy = (do pure (.bool (← Op.equal t vx vy))) ∧ binOp .neq t vx vy = (do pure (.bool (!(← Op.equal t vx vy)))))
    (hk : K (.bool (eqRes op b)) σ) :
    VS E σ w K ((do eqGuard op t x y vx vy; binOp op t vx vy : Sem Value).run E.P w) := by
  rcases ho with rfl | rfl
  · refine VS.here (v := .bool b) ?_ hH hk (.bool _)
    simp only [Sem.run_bind]
    rw [hg, Result.andThen_ok, hb.1]
    simp [he]
  · refine VS.here (v := .bool !b) ?_ hH hk (.bool _)
    simp only [Sem.run_bind]
    rw [hg, Result.andThen_ok, hb.2]
    simp [he]

theorem guard_none {op : BinOp} {t : TypeId} {x y : Operand} (vx vy : Value) (h1 : ¬ (vx = .nilIface ∧ vy = .nilIface)) (h2 : ∀ c d, ¬ (vx = .agg c ∧ vy = .agg d)) : (eqGuard op t x y vx vy).run E.P w = .ok () w := by
  cases op <;> cases vx <;> cases vy <;> first | (simp [eqGuard]; done) | exact absurd ⟨rfl, rfl⟩ h1 | exact absurd ⟨rfl, rfl⟩ (h2 _ _)

/-- What a kind of equality asks of the type. -/
def EqTy (P : Program) (t : TypeId) (x y : Operand) : EqK → Prop
  | .bool => P.underlying t = some .bool
  | .str => P.underlying t = some .string
  | .ptr => ∃ e i, P.underlying t = some (.pointer e) ∧ P.info? e = some i ∧ i.size ≠ 0
  | .iface lit => ∃ ms, P.underlying t = some (.interface ms) ∧ lit = (isConstOpd x || isConstOpd y)
  | .func => ∃ p r v, P.underlying t = some (.func p r v)

theorem snd_eq (hs : RelS E.A σ w a.tmps s) (hH : HRel E σ w) (t : TypeId) (op : BinOp) (k : EqK) (x y : Operand) (ho : op = .eql ∨ op = .neq) (ht : EqTy E.P t x y k)
    (h : aEq E k (s.ev (opd x)) (s.ev (opd y)) fun b => K (.bool (eqRes op b)) σ) :
    VS E σ w K ((do eqGuard op t x y (a.eval x) (a.eval y); binOp op t (a.eval x) (a.eval y) : Sem Value).run E.P w) := by
  have hx := hs.ev x
  have hy := hs.ev y
  cases k with
  | bool =>
    simp only [aEq] at h
    split at h
    · rename_i b c e1 e2
      rw [e1] at hx; rw [e2] at hy
      rw [hx.bool_inv, hy.bool_inv]
      exact snd_eq_val hH ho (guard_none _ _ (by simp) (by simp)) (run_equal_bool w t b c ht) ⟨rfl, rfl⟩ h
    · exact h.elim
  | str =>
    simp only [aEq] at h
    split at h
    · rename_i b c e1 e2
      rw [e1] at hx; rw [e2] at hy
      obtain ⟨sx, e3, e4⟩ := hx.str_inv
      obtain ⟨sy, e5, e6⟩ := hy.str_inv
      have ex : sx.toList = b := (ByteArray.toList_eq sx).trans e4
      have ey : sy.toList = c := (ByteArray.toList_eq sy).trans e6
      rw [e3, e5]
      rcases ho with rfl | rfl
      · exact VS.here (v := .bool (b == c)) (by simp only [Sem.run_bind, run_guard_str, Result.andThen_ok, binOp, Op.stringOp, ex, ey, Sem.run_pure]) hH h (.bool _)
      · exact VS.here (v := .bool !(b == c)) (by simp only [Sem.run_bind, run_guard_str, Result.andThen_ok, binOp, Op.stringOp, ex, ey, Sem.run_pure]) hH h (.bool _)
    · exact h.elim
  | ptr =>
    obtain ⟨e, i, ht, hi, hsz⟩ := ht
    have hnn : ∀ (p : Option Addr), (Op.equal t (.pointer none) (.pointer p)).run E.P w = .ok p.isNone w := fun p => by
      have : ∀ d : Nat, (Op.equalIn (d + 1) t (.pointer none) (.pointer p)).run E.P w = .ok p.isNone w := fun d => by simp [Op.equalIn, run_underlying ht]
      exact this 9999
    have hnr : ∀ (p : Option Addr), (Op.equal t (.pointer p) (.pointer none)).run E.P w = .ok p.isNone w := fun p => by
      have : ∀ d : Nat, (Op.equalIn (d + 1) t (.pointer p) (.pointer none)).run E.P w = .ok p.isNone w := fun d => by cases p <;> simp [Op.equalIn, run_underlying ht]
      exact this 9999
    have hss : ∀ (p q : Addr), p.block = q.block → (Op.equal t (.pointer (some p)) (.pointer (some q))).run E.P w = .ok (p == q) w := fun p q hpq => by
      have : ∀ d : Nat, (Op.equalIn (d + 1) t (.pointer (some p)) (.pointer (some q))).run E.P w = .ok (p == q) w := fun d => by
        simp [Op.equalIn, run_underlying ht, run_siz hi, hsz, sameAddr, hpq]
      exact this 9999
    simp only [aEq] at h
    split at h <;> rename_i e1 e2 <;> first | exact h.elim | skip
    all_goals (rw [e1] at hx; rw [e2] at hy; generalize a.eval x = vx at *; generalize a.eval y = vy at *)
    · cases hx; cases hy; exact snd_eq_val hH ho (guard_none _ _ (by simp) (by simp)) (hnn _) ⟨rfl, rfl⟩ h
    · cases hx; cases hy; exact snd_eq_val hH ho (guard_none _ _ (by simp) (by simp)) (hnn _) ⟨rfl, rfl⟩ h
    · cases hx; cases hy; exact snd_eq_val hH ho (guard_none _ _ (by simp) (by simp)) (hnr _) ⟨rfl, rfl⟩ h
    · cases hx; cases hy; exact snd_eq_val hH ho (guard_none _ _ (by simp) (by simp)) (hnn _) ⟨rfl, rfl⟩ h
    · cases hx; cases hy; exact snd_eq_val hH ho (guard_none _ _ (by simp) (by simp)) (hnr _) ⟨rfl, rfl⟩ h
    · obtain ⟨rfl, h⟩ := h
      cases hx; cases hy
      refine snd_eq_val hH ho (guard_none _ _ (by simp) (by simp)) (hss _ _ rfl) ⟨rfl, rfl⟩ ?_
      rename_i b sz i off sz' i' off'
      have : ((⟨b, i * sz + off, none⟩ : Addr) == ⟨b, i' * sz' + off', none⟩) = (i * sz + off == i' * sz' + off') := by
        rw [Bool.eq_iff_iff]; simp
      rw [this]; exact h
  | iface lit =>
    obtain ⟨ms, ht, hlit⟩ := ht
    have h1 : ∀ u v, (Op.equal t .nilIface (.iface u v)).run E.P w = .ok false w := fun u v => by
      have : ∀ d : Nat, (Op.equalIn (d + 1) t .nilIface (.iface u v)).run E.P w = .ok false w := fun d => by simp [Op.equalIn, run_underlying ht]
      exact this 9999
    have h2 : ∀ u v, (Op.equal t (.iface u v) .nilIface).run E.P w = .ok false w := fun u v => by
      have : ∀ d : Nat, (Op.equalIn (d + 1) t (.iface u v) .nilIface).run E.P w = .ok false w := fun d => by simp [Op.equalIn, run_underlying ht]
      exact this 9999
    have h3 : (Op.equal t .nilIface .nilIface).run E.P w = .ok true w := by
      have : ∀ d : Nat, (Op.equalIn (d + 1) t .nilIface .nilIface).run E.P w = .ok true w := fun d => by simp [Op.equalIn, run_underlying ht]
      exact this 9999
    have h4 : ∀ u v u' v', u ≠ u' → (Op.equal t (.iface u v) (.iface u' v')).run E.P w = .ok false w := fun u v u' v' hne => by
      have : ∀ d : Nat, (Op.equalIn (d + 1) t (.iface u v) (.iface u' v')).run E.P w = .ok false w := fun d => by simp [Op.equalIn, run_underlying ht, hne]
      exact this 9999
    simp only [aEq] at h
    split at h
    · rename_i e1 e2
      obtain ⟨hl, h⟩ := h
      rw [e1] at hx; rw [e2] at hy
      generalize hvx : a.eval x = vx at *; generalize hvy : a.eval y = vy at *
      cases hx; cases hy
      refine snd_eq_val hH ho ?_ h3 ⟨rfl, rfl⟩ h
      rw [hl] at hlit
      rcases ho with rfl | rfl <;> (cases x <;> cases y <;> simp [isConstOpd] at hlit <;> simp [eqGuard])
    · rename_i e1 e2
      rw [e1] at hx; rw [e2] at hy
      generalize a.eval x = vx at *; generalize a.eval y = vy at *
      cases hx; cases hy
      exact snd_eq_val hH ho (guard_none _ _ (by simp) (by simp)) (h1 _ _) ⟨rfl, rfl⟩ h
    · rename_i e1 e2
      rw [e1] at hx; rw [e2] at hy
      generalize a.eval x = vx at *; generalize a.eval y = vy at *
      cases hx; cases hy
      exact snd_eq_val hH ho (guard_none _ _ (by simp) (by simp)) (h2 _ _) ⟨rfl, rfl⟩ h
    · rename_i u g u' g' e1 e2
      obtain ⟨⟨hg, hg'⟩, h⟩ := h
      rw [e1] at hx; rw [e2] at hy
      generalize a.eval x = vx at *; generalize a.eval y = vy at *
      cases hx with | iface _ _ _ hx => cases hx; cases hy with | iface _ _ _ hy => cases hy; exact (by
        have hh : (Op.equal t (.iface u (.pointer (some (E.A g)))) (.iface u' (.pointer (some (E.A g'))))).run E.P w = .ok (g == g') w := by
          obtain ⟨i, e, j, o1, o2, o3, o4, o5⟩ := E.ok g u hg
          by_cases hgg : g = g'
          · subst hgg
            rw [hg] at hg'; cases hg'
            simp only [beq_self_eq_true]
            exact run_equalIn_iface_ptr_same w 9998 (E.A g) ht o3 o1 o2 o4
          · have hne := hH.inj g g' _ _ hg hg' hgg
            have hb : (g == g') = false := by simpa using hgg
            rw [hb]
            obtain ⟨_, _, _, c, ee, hc, _⟩ := hH.glo g u hg
            obtain ⟨_, _, _, c', ee', hc', _⟩ := hH.glo g' u' hg'
            by_cases huu : u = u'
            · subst huu
              exact run_equalIn_iface_ptr_other w 9998 ht o3 o1 o2 o4 o5 hne hc hc'
            · exact h4 _ _ _ _ huu
        exact snd_eq_val hH ho (guard_none _ _ (by simp) (by simp)) hh ⟨rfl, rfl⟩ h)
    · rename_i u av u' av' _ e1 e2
      obtain ⟨hne, h⟩ := h
      rw [e1] at hx; rw [e2] at hy
      generalize a.eval x = vx at *; generalize a.eval y = vy at *
      cases hx; cases hy
      exact snd_eq_val hH ho (guard_none _ _ (by simp) (by simp)) (h4 _ _ _ _ hne) ⟨rfl, rfl⟩ h
    · exact h.elim
  | func =>
    obtain ⟨p, r, v, ht⟩ := ht
    have h1 : ∀ f c d, (Op.equal t .nilFunc (.func f c d)).run E.P w = .ok false w := fun f c d => by
      have : ∀ n : Nat, (Op.equalIn (n + 1) t .nilFunc (.func f c d)).run E.P w = .ok false w := fun n => by simp [Op.equalIn, run_underlying ht]
      exact this 9999
    have h2 : ∀ f c d, (Op.equal t (.func f c d) .nilFunc).run E.P w = .ok false w := fun f c d => by
      have : ∀ n : Nat, (Op.equalIn (n + 1) t (.func f c d) .nilFunc).run E.P w = .ok false w := fun n => by simp [Op.equalIn, run_underlying ht]
      exact this 9999
    have h3 : (Op.equal t .nilFunc .nilFunc).run E.P w = .ok true w := by
      have : ∀ n : Nat, (Op.equalIn (n + 1) t .nilFunc .nilFunc).run E.P w = .ok true w := fun n => by simp [Op.equalIn, run_underlying ht]
      exact this 9999
    simp only [aEq] at h
    split at h <;> rename_i e1 e2 <;> first | exact h.elim | skip
    all_goals (rw [e1] at hx; rw [e2] at hy; generalize a.eval x = vx at *; generalize a.eval y = vy at *)
    · cases hx; cases hy; exact snd_eq_val hH ho (guard_none _ _ (by simp) (by simp)) h3 ⟨rfl, rfl⟩ h
    · cases hx; cases hy; exact snd_eq_val hH ho (guard_none _ _ (by simp) (by simp)) (h2 _ _ _) ⟨rfl, rfl⟩ h
    · cases hx; cases hy; exact snd_eq_val hH ho (guard_none _ _ (by simp) (by simp)) (h1 _ _ _) ⟨rfl, rfl⟩ h

end
end Pat
end Go.Proofs.YthmcfphafofheaaDoor
