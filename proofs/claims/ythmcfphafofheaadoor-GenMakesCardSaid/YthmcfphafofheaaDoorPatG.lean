/- The abstract machine: each operation is sound (3). No statement of the seat is proved in this file. -/
import Derived.Test.YthmcfphafofheaaDoorPatF
namespace Go.Proofs.YthmcfphafofheaaDoor
namespace Pat
set_option linter.unusedVariables false
set_option linter.unusedSimpArgs false

section
variable {E : Env} {s : Slots} {σ : Hp} {K : AV → Hp → Prop} {w : World} {a : Act}

theorem snd_binOp (hs : RelS E.A σ w a.tmps s) (hH : HRel E σ w) (op : BinOp) (t t' : TypeId) (x y : Operand) (h : aOp E s σ (compOp E.P (.binOp op t x y t')) K) :
    VS E σ w K ((do eqGuard op t x y (a.eval x) (a.eval y); binOp op t (a.eval x) (a.eval y) : Sem Value).run E.P w) := by
  have he : ∀ neg, (neg = true ↔ op = .neq) → (op = .eql ∨ op = .neq) → aOp E s σ (compBin E.P op t x y) K → VS E σ w K ((do eqGuard op t x y (a.eval x) (a.eval y); binOp op t (a.eval x) (a.eval y) : Sem Value).run E.P w) := by
    intro neg hneg ho h
    have hres : negIf neg = eqRes op := by
      funext b
      rcases ho with rfl | rfl
      · cases neg
        · rfl
        · simp at hneg
      · cases neg
        · simp at hneg
        · rfl
    have h2 : compBin E.P op t x y = (match E.P.underlying t with
      | some (.int _) => .bin op (opd x) (opd y)
      | some .bool => .eq .bool neg (opd x) (opd y)
      | some .string => .eq .str neg (opd x) (opd y)
      | some (.pointer e) => match E.P.info? e with
        | some i => if i.size = 0 then .bad else .eq .ptr neg (opd x) (opd y)
        | none => .bad
      | some (.interface _) => .eq (.iface (isConstOpd x || isConstOpd y)) neg (opd x) (opd y)
      | some (.slice _) => if nilSlice y then .isnil neg (opd x) else .bad
      | some (.struct fs) => match flatKinds E.P fs.toList 0 with
        | some l => if E.P.stoodInHeld t = true then .bad else .eqst l neg (opd x) (opd y)
        | none => .bad
      | some (.func ..) => .eq .func neg (opd x) (opd y)
      | _ => .bad) := by
      rcases ho with rfl | rfl
      · cases neg
        · rfl
        · simp at hneg
      · cases neg
        · simp at hneg
        · rfl
    rw [h2] at h
    clear h2
    split at h
    · exact snd_bin hs hH op t x y h
    · rename_i hu
      exact snd_eq hs hH t op .bool x y ho hu (by rw [← hres]; exact h)
    · rename_i hu
      exact snd_eq hs hH t op .str x y ho hu (by rw [← hres]; exact h)
    · rename_i e hu
      split at h
      · rename_i i hi
        split at h
        · exact h.elim
        · rename_i hsz
          exact snd_eq hs hH t op .ptr x y ho ⟨e, i, hu, hi, hsz⟩ (by rw [← hres]; exact h)
      · exact h.elim
    · rename_i ms hu
      exact snd_eq hs hH t op (.iface (isConstOpd x || isConstOpd y)) x y ho ⟨ms, hu, rfl⟩ (by rw [← hres]; exact h)
    · rename_i e hu
      split at h
      · rename_i hn
        refine snd_isnil hs hH t e op x y ho hu hn ?_
        simp only [aOp] at h
        have h0 : (!neg) = eqRes op true := by rw [← hres]; cases neg <;> rfl
        have h1 : neg = eqRes op false := by rw [← hres]; cases neg <;> rfl
        rw [← h0, ← h1]
        exact h
      · exact h.elim
    · rename_i fs hu
      split at h
      · rename_i l hk
        split at h
        · exact h.elim
        · rename_i hp
          refine snd_eqst hs hH t op x y ho hu hk (by simpa using hp) ?_
          rw [← hres]; exact h
      · exact h.elim
    · rename_i p r v hu
      exact snd_eq hs hH t op .func x y ho ⟨p, r, v, hu⟩ (by rw [← hres]; exact h)
    · exact h.elim
  have ha : (op ≠ .eql ∧ op ≠ .neq) → VS E σ w K ((do eqGuard op t x y (a.eval x) (a.eval y); binOp op t (a.eval x) (a.eval y) : Sem Value).run E.P w) := by
    intro hne
    have h2 : compBin E.P op t x y = (match E.P.underlying t with
      | some (.int _) | some .string => .bin op (opd x) (opd y)
      | _ => .bad) := by cases op <;> first | rfl | simp at hne
    have h : aOp E s σ (compBin E.P op t x y) K := h
    rw [h2] at h
    split at h
    · exact snd_bin hs hH op t x y h
    · exact snd_bin hs hH op t x y h
    · exact h.elim
  by_cases h1 : op = .eql
  · exact he false (by simp [h1]) (.inl h1) h
  · by_cases h2 : op = .neq
    · exact he true (by simp [h2]) (.inr h2) h
    · exact ha ⟨h1, h2⟩

theorem snd_field (hs : RelS E.A σ w a.tmps s) (hH : HRel E σ w) (t : TypeId) (x : Operand) (f : Nat) (h : aOp E s σ (compOp E.P (.fieldAddr t x f)) K) :
    VS E σ w K ((Instr.fieldAt t (a.eval x) f).run E.P w) := by
  simp only [compOp] at h
  split at h
  · rename_i fl hf
    split at h
    · rename_i i hi
      cases hn : Nat.blt 0 i.size with
      | false => rw [hn] at h; exact h.elim
      | true =>
        rw [hn] at h
        simp only [aOp, cond_true] at h
        have hsz : i.size ≠ 0 := by simp at hn; omega
        obtain ⟨fs, hu, hfs⟩ : ∃ fs, E.P.underlying t = some (.struct fs) ∧ fs[f]? = some fl := by
          unfold fieldOf at hf
          split at hf
          · rename_i fs hu; exact ⟨fs, hu, hf⟩
          · cases hf
        have hr := hs.ev x
        have key : ∀ b o, (Instr.fieldAt t (.pointer (some ⟨b, o, none⟩)) f).run E.P w = .ok (.pointer (some ⟨b, o + fl.offset, none⟩)) w := by
          intro b o
          simp [Instr.fieldAt, run_und hu, hfs, Instr.sureAddr, fieldPlace, run_siz hi, hsz]
        split at h
        · rename_i b sz j off e1
          rw [e1] at hr
          generalize a.eval x = ev at hr ⊢
          cases hr with
          | ptr =>
            refine VS.here (key b (j * sz + off)) hH h ?_
            rw [Nat.add_assoc]; exact .ptr b sz j (off + fl.offset)
        · rename_i xv off e1
          rw [e1] at hr
          generalize a.eval x = ev at hr ⊢
          cases hr with
          | re b p off x vs hb hσ hc hr =>
            refine VS.here (key b (p + off)) hH h ?_
            rw [Nat.add_assoc]; exact .re b p (off + fl.offset) xv vs hb hσ hc hr
        · exact h.elim
    · exact h.elim
  · exact h.elim

/-- A part of a value that is at hand. -/
theorem part_val {P : Program} {A : Nat → Addr} {t : TypeId} {ag : Bool} {n off : Nat} {cs : Array Value} {as : List AV} {r : AV} (hl : lay P t = some (ag, n)) (hs : cs.size = as.length)
    (hr : ∀ (j : Nat) (x : Value) (y : AV), cs[j]? = some x → as[j]? = some y → Rep A σ w x y) (hp : part ag n as off = some r) :
    ∃ v, (Go.part t cs off).run P w = .ok v w ∧ Rep A σ w v r := by
  obtain ⟨h1, h2⟩ := lay_some (P := P) (w := w) hl
  cases ag with
  | true =>
    simp only [part] at hp
    split at hp
    · simp only [Option.some.injEq] at hp
      subst hp
      refine ⟨.agg (cs.extract off (off + n)), by simp [Go.part, h1, h2], ?_⟩
      refine .agg _ _ (by simp; omega) fun j x y hx hy => ?_
      have hj : j < n := by
        rcases Nat.lt_or_ge j n with h | h
        · exact h
        · rw [List.getElem?_eq_none (by simp; omega)] at hy; cases hy
      rw [List.getElem?_take_of_lt hj, List.getElem?_drop] at hy
      rw [Array.getElem?_extract] at hx
      split at hx
      · exact hr _ _ _ hx hy
      · cases hx
    · cases hp
  | false =>
    simp only [part] at hp
    have hlt : off < cs.size := by rw [hs]; exact (List.getElem?_eq_some_iff.1 hp).1
    refine ⟨cs[off], by simp [Go.part, h1, hlt], hr off _ _ (Array.getElem?_eq_getElem hlt) hp⟩

theorem snd_fld (hs : RelS E.A σ w a.tmps s) (hH : HRel E σ w) (t : TypeId) (x : Operand) (f : Nat) (h : aOp E s σ (compOp E.P (.field t x f)) K) :
    VS E σ w K ((Instr.field t (a.eval x) f).run E.P w) := by
  simp only [compOp] at h
  split at h
  · rename_i fl hf
    split at h
    · rename_i ag n hl
      simp only [aOp] at h
      obtain ⟨fs, hu, hfs⟩ : ∃ fs, E.P.underlying t = some (.struct fs) ∧ fs[f]? = some fl := by
        unfold fieldOf at hf
        split at hf
        · rename_i fs hu; exact ⟨fs, hu, hf⟩
        · cases hf
      have hr := hs.ev x
      split at h
      · rename_i as e1
        rw [e1] at hr
        obtain ⟨cs, e2, e3, e4⟩ := hr.agg_inv
        split at h
        · rename_i v hp
          obtain ⟨u, u1, u2⟩ := part_val hl e3 e4 hp
          rw [e2]
          exact VS.here (v := u) (by simp [Instr.field, run_und hu, hfs, asAgg, u1]) hH h u2
        · exact h.elim
      · exact h.elim
    · exact h.elim
  · exact h.elim

theorem snd_indexAddr (hs : RelS E.A σ w a.tmps s) (hH : HRel E σ w) (t : TypeId) (x i : Operand) (h : aOp E s σ (compOp E.P (.indexAddr t x i)) K) :
    VS E σ w K ((Instr.indexAt t (a.eval x) (a.eval i)).run E.P w) := by
  simp only [compOp] at h
  have hr := hs.ev x
  have hi := hs.ev i
  split at h
  · rename_i e hu
    split at h
    · rename_i ie hie
      simp only [aOp] at h
      split at h
      · rename_i k n e1
        rw [e1] at hi
        rw [hi.int_inv]
        split at h
        · rename_i sz' xs e2
          rw [e2] at hr
          obtain ⟨⟨rfl, h0⟩, xv, hx, h⟩ := h
          generalize a.eval x = ev at hr ⊢
          cases hr with
          | rd b p sz cap xs vs hb hσ hcap hsz hc hrr =>
            have hlt := (List.getElem?_eq_some_iff.1 hx).1
            refine VS.here (v := .pointer (some ⟨b, p + n.toNat * ie.size, none⟩)) ?_ hH h ?_
            · simp [Instr.indexAt, asIntOf, run_und hu, h0, show n < (xs.length : Int) by omega, run_siz hie]
            · have := Rep.re (A := E.A) (σ := σ) (w := w) b (p + n.toNat * ie.size) 0 xv (vs n.toNat) hb hσ (fun j y hy => hc _ _ j y hx hy) (fun j y hy => hrr _ _ j y hx hy)
              simpa using this
          | rd0 => simp at hx
        · rename_i b sz' j m e2
          rw [e2] at hr
          obtain ⟨⟨rfl, h0, h1⟩, h⟩ := h
          generalize a.eval x = ev at hr ⊢
          cases hr with
          | own b sz i n' cap c e f hb hc hn =>
            refine VS.here (v := .pointer (some ⟨b, j * ie.size + n.toNat * ie.size, none⟩)) ?_ hH h ?_
            · simp [Instr.indexAt, asIntOf, run_und hu, h0, h1, run_siz hie]
            · have := Rep.ptr (A := E.A) (σ := σ) (w := w) b ie.size (j + n.toNat) 0
              rw [Nat.add_zero, Nat.add_mul] at this
              exact this
          | own0 => simp at h1; omega
        · exact h.elim
      · exact h.elim
    · exact h.elim
  · rename_i len e hu
    split at h
    · rename_i ie hie
      simp only [aOp] at h
      split at h
      · rename_i k n e1
        rw [e1] at hi
        rw [hi.int_inv]
        split at h
        · rename_i b sz' j off e2
          rw [e2] at hr
          obtain ⟨⟨h0, h1⟩, h⟩ := h
          generalize a.eval x = ev at hr ⊢
          cases hr with
          | ptr =>
            refine VS.here (v := .pointer (some ⟨b, j * sz' + off + n.toNat * ie.size, none⟩)) ?_ hH h ?_
            · simp [Instr.indexAt, asIntOf, run_und hu, h0, h1, run_siz hie, Instr.sureAddr]
            · rw [Nat.add_assoc]; exact .ptr _ _ _ _
        · exact h.elim
      · exact h.elim
    · exact h.elim
  · exact h.elim

theorem snd_index (hs : RelS E.A σ w a.tmps s) (hH : HRel E σ w) (t : TypeId) (x i : Operand) (h : aOp E s σ (compOp E.P (.index t x i)) K) :
    VS E σ w K ((Instr.index t (a.eval x) (a.eval i)).run E.P w) := by
  simp only [compOp] at h
  have hr := hs.ev x
  have hi := hs.ev i
  split at h
  · rename_i hu
    simp only [aOp] at h
    split at h
    · rename_i l k n e1 e2
      rw [e1] at hr; rw [e2] at hi
      rw [hi.int_inv]
      obtain ⟨sv, e3, e4⟩ := hr.str_inv
      rw [e3]
      obtain ⟨h0, c, hc, h⟩ := h
      refine VS.here (v := .int .u8 c.toNat) ?_ hH h (.int _ _)
      have : sv[n.toNat]? = some c := by
        rw [← e4] at hc
        have hlt : n.toNat < sv.size := by have := (List.getElem?_eq_some_iff.1 hc).1; rw [Array.length_toList] at this; exact this
        rw [Array.getElem?_toList] at hc
        have h2 := (Array.getElem?_eq_some_iff.1 hc).2
        rw [getElem?_pos sv n.toNat hlt]
        exact congrArg some h2
      simp [Instr.index, asIntOf, run_und hu, h0, this]
    · exact h.elim
  · rename_i len e hu
    split at h
    · rename_i ag sz hl
      simp only [aOp] at h
      split at h
      · rename_i as k n e1 e2
        rw [e1] at hr; rw [e2] at hi
        rw [hi.int_inv]
        obtain ⟨cs, e3, e4, e5⟩ := hr.agg_inv
        obtain ⟨⟨h0, h1⟩, h⟩ := h
        split at h
        · rename_i v hp
          obtain ⟨u, u1, u2⟩ := part_val hl e4 e5 hp
          rw [e3]
          exact VS.here (v := u) (by simp [Instr.index, asIntOf, run_und hu, h0, h1, (lay_some (P := E.P) (w := w) hl).2, u1]) hH h u2
        · exact h.elim
      · exact h.elim
    · exact h.elim
  · exact h.elim
end
end Pat
end Go.Proofs.YthmcfphafofheaaDoor
