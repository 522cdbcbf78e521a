/- The abstract machine: each operation is sound (7). No statement of the seat is proved in this file. -/
import Derived.Test.YthmcfphafofheaaDoorPatJ
import Derived.Laws.BytesString
import Derived.Laws.BytesArg
namespace Go.Proofs.YthmcfphafofheaaDoor
namespace Pat
set_option linter.unusedVariables false
set_option linter.unusedSimpArgs false

section
variable {E : Env} {s : Slots} {σ : Hp} {K : AV → Hp → Prop} {w : World} {a : Act}

theorem getD_ofInt (bs : List UInt8) : (bs.map fun b => UInt8.ofNat ((b.toNat : Int)).toNat) = bs := by
  induction bs with
  | nil => rfl
  | cons b bs ih => simp

theorem snd_convert (hs : RelS E.A σ w a.tmps s) (hH : HRel E σ w) (src dst : TypeId) (x : Operand) (h : aOp E s σ (compOp E.P (.convert src dst x)) K) :
    VS E σ w K ((convert src dst (a.eval x)).run E.P w) := by
  simp only [compOp] at h
  have hr := hs.ev x
  split at h
  · rename_i k' k h1 h2
    simp only [aOp] at h
    split at h
    · rename_i q n e1
      rw [e1] at hr
      rw [hr.int_inv]
      exact VS.here (v := .int k (k.wrap n)) (by simp [convert, run_und h1, run_und h2, Conv.intToInt]) hH h (.int _ _)
    · exact h.elim
  · rename_i e h1 h2
    split at h
    · rename_i h3
      simp only [aOp] at h
      obtain ⟨hns, h⟩ := h
      generalize s.ev (opd x) = av at *
      split at h
      · rename_i l hv
        obtain ⟨bs, rfl, h⟩ := h
        obtain ⟨h4, cells, h5, h6⟩ := view_read (sz := 1) hH hr hv (fun y hy => by
          obtain ⟨b, _, rfl⟩ := List.mem_map.1 hy; rfl)
        have hstr : Rep E.A σ w (.string ⟨bs.toArray⟩) (.str bs) := by
          have := Rep.str (A := E.A) (σ := σ) (w := w) ⟨bs.toArray⟩
          simpa using this
        have hcells : cells = ((bs.map fun b => (b.toNat : Int)).map (Value.int .u8)).toArray := by
          apply Array.ext_getElem?
          intro i
          by_cases hi : i < bs.length
          · obtain ⟨v, v1, v2⟩ := h6.2 i (.int .u8 bs[i].toNat) 0 _ (by simp [hi]) rfl
            simp only [Nat.mul_one, Nat.add_zero] at v1
            rw [v1, v2.int_inv]; simp [hi]
          · rw [Array.getElem?_eq_none (by rw [h6.1]; simp; omega)]
            simp [List.getElem?_eq_none (show bs.length ≤ i by omega)]
        rw [List.length_map] at h5 h4
        have fin : ∀ (p : Addr) (n c : Nat), a.eval x = .slice (some p) n c → n = bs.length → VS E σ w K ((convert src dst (a.eval x)).run E.P w) := by
          intro p n c he hn
          rw [he] at h5 ⊢
          have hl : (loadCells p n).run E.P w = .ok ((bs.map fun b => (b.toNat : Int)).map (Value.int .u8)).toArray w := by
            rw [← hcells, hn]
            simpa [Builtin.firstCells] using h5
          refine VS.here (v := .string ⟨bs.toArray⟩) ?_ hH h hstr
          rw [run_convert_bytes_string w src dst e _ n c h1 h3 h2, run_bytesToString w p n c _ hl, foldl_push_bytes, List.map_map]
          have := getD_ofInt bs
          simp only [Function.comp_def, Int.toNat_natCast] at this ⊢
          rw [this]
          simp [ByteArray.empty, ByteArray.emptyWithCapacity]
          rfl
        have fin0 : ∀ (n c : Nat), a.eval x = .slice none n c → bs = [] → VS E σ w K ((convert src dst (a.eval x)).run E.P w) := by
          intro n c he hn
          rw [he]; subst hn
          exact VS.here (v := .string ⟨#[]⟩) (run_convert_bytes_nil w src e h1 h3 n c dst h2) hH h hstr
        have hnil : ∀ (c : Nat) (p : Option Addr), a.eval x = .slice p 0 c → bs.length = 0 → VS E σ w K ((convert src dst (a.eval x)).run E.P w) := by
          intro c p he hn
          cases p with
          | none => exact fin0 _ _ he (List.length_eq_zero_iff.1 hn)
          | some p => exact fin p _ _ he hn.symm
        generalize hev : a.eval x = ev at hr h4
        cases hr with
        | nils p => exact hev ▸ hnil _ p hev (by simpa [Builtin.lenOf] using h4.symm)
        | rd b p sz cap xs vs => exact hev ▸ fin _ _ _ hev (by simpa [Builtin.lenOf] using h4)
        | rd0 p cap sz => exact hev ▸ hnil _ p hev (by simpa [Builtin.lenOf] using h4.symm)
        | own b sz i n cap c e f => exact hev ▸ fin _ _ _ hev (by simpa [Builtin.lenOf] using h4)
        | own0 p b sz i => exact hev ▸ hnil _ p hev (by simpa [Builtin.lenOf] using h4.symm)
        | str s0 => exact hns.elim
        | _ => simp [view] at hv
      · exact h.elim
    · exact h.elim
  · exact h.elim

theorem snd_typeAssert (hs : RelS E.A σ w a.tmps s) (hH : HRel E σ w) (x : Operand) (t' t : TypeId) (ok : Bool) (h : aOp E s σ (compOp E.P (.typeAssert x t' t ok)) K) :
    VS E σ w K ((Instr.typeAssert (a.eval x) t' t ok).run E.P w) := by
  simp only [compOp] at h
  have hr := hs.ev x
  split at h
  · exact h.elim
  · rename_i d i hni hu hi
    cases hb : (ok && i.zero.isSome) with
    | false => rw [hb] at h; exact h.elim
    | true =>
      rw [hb] at h
      simp only [Bool.and_eq_true] at hb
      obtain ⟨rfl, hz⟩ := hb
      obtain ⟨z, hz⟩ := Option.isSome_iff_exists.1 hz
      have hzv : (zeroValue t).run E.P w = .ok z w := by simp [zeroValue, run_inf hi, hz]
      simp only [cond_true, aOp] at h
      have two : ∀ {v : Value} {y : AV} {b : Bool}, Rep E.A σ w v y → Rep E.A σ w (.tuple #[v, .bool b]) (.tuple [y, .bool b]) := by
        intro v y b hv
        refine .tuple _ _ rfl fun j p q hp hq => ?_
        match j, hp, hq with
        | 0, hp, hq => simp at hp hq; subst hp; subst hq; exact hv
        | 1, hp, hq => simp at hp hq; subst hp; subst hq; exact .bool _
      have hzr : Rep E.A σ w z (zeroAV i) := by unfold zeroAV; rw [hz]; exact rep_ofValue ..
      have hni' : ∀ ms, d ≠ .interface ms := fun ms e => by subst e; exact hni ms rfl
      split at h
      · rename_i t1 v1 e1
        rw [e1] at hr
        generalize a.eval x = ev at hr ⊢
        cases hr with
        | iface _ v _ hv =>
          by_cases he : t1 = t
          · refine VS.here (v := .tuple #[v, .bool true]) ?_ hH (h.1 he) (two hv)
            cases d <;> simp_all [Instr.typeAssert, run_und hu]
          · refine VS.here (v := .tuple #[z, .bool false]) ?_ hH (h.2 he) (two hzr)
            cases d <;> simp_all [Instr.typeAssert, run_und hu, hzv]
      · rename_i e1
        rw [e1] at hr
        generalize a.eval x = ev at hr ⊢
        cases hr with
        | nilIface =>
          refine VS.here (v := .tuple #[z, .bool false]) ?_ hH h (two hzr)
          cases d <;> simp_all [Instr.typeAssert, run_und hu, hzv]
      · exact h.elim
  · exact h.elim

theorem repArr (hs : RelS E.A σ w a.tmps s) (l : Array Operand) : ((l.map a.eval).size = ((opds l).map s.ev).length) ∧ ∀ (j : Nat) (x : Value) (y : AV), (l.map a.eval)[j]? = some x → ((opds l).map s.ev)[j]? = some y → Rep E.A σ w x y := by
  obtain ⟨h1, h2⟩ := hs.evs l
  exact ⟨by simpa using h1, fun j x y hx hy => h2 j x y (by rw [Array.getElem?_toList]; exact hx) hy⟩

theorem snd_len (hs : RelS E.A σ w a.tmps s) (hH : HRel E σ w) (t ty : TypeId) (x : Operand) (h : aOp E s σ (compBuiltin E.P .len #[t] #[x]) K) :
    VS E σ w K ((Builtin.len_ #[t] ty #[a.eval x]).run E.P w) := by
  have h : aOp E s σ (match E.P.underlying t with
    | some .string => .len .str (opd x)
    | some (.slice _) => .len .slice (opd x)
    | some (.map _ _) => .len .map (opd x)
    | _ => .bad) K := h
  have hr := hs.ev x
  split at h
  · rename_i hu
    simp only [aOp] at h
    split at h
    · rename_i l e1
      rw [e1] at hr
      obtain ⟨sv, e2, e3⟩ := hr.str_inv
      rw [e2]
      refine VS.here (v := .int .i64 l.length) ?_ hH h (.int _ _)
      have : sv.size = l.length := by rw [← e3, Array.length_toList]; rfl
      simp [Builtin.len_, run_und hu, goInt, this]
    · exact h.elim
  · rename_i e hu
    have hsl : ∀ (p : Option Addr) (n c : Nat), (Builtin.len_ #[t] ty #[.slice p n c]).run E.P w = .ok (.int .i64 n) w := by
      intro p n c; simp [Builtin.len_, run_und hu, goInt]
    simp only [aOp] at h
    split at h <;> rename_i e1 <;> first | exact h.elim | skip
    all_goals (rw [e1] at hr; generalize a.eval x = ev at hr ⊢)
    · cases hr with
      | rd => exact VS.here (hsl _ _ _) hH h (.int _ _)
      | rd0 => exact VS.here (hsl _ _ _) hH h (.int _ _)
    · cases hr with
      | nils => exact VS.here (hsl _ _ _) hH h (.int _ _)
    · cases hr with
      | own => exact VS.here (hsl _ _ _) hH h (.int _ _)
      | own0 => exact VS.here (hsl _ _ _) hH h (.int _ _)
  · rename_i k e hu
    simp only [aOp] at h
    split at h <;> rename_i e1 <;> first | exact h.elim | skip
    all_goals (rw [e1] at hr; generalize a.eval x = ev at hr ⊢)
    · cases hr with
      | nilmap => exact VS.here (v := .int .i64 0) (by simp [Builtin.len_, run_und hu, goInt]) hH h (.int _ _)
    · split at h
      · rename_i es hσ
        cases hr with
        | map =>
          obtain ⟨entries, clock, g1, g2, g3, g4⟩ := hH.blk _ _ hσ
          refine VS.here (v := .int .i64 entries.size) ?_ hH (by rw [g2]; exact h) (.int _ _)
          simp [Builtin.len_, run_und hu, goInt, getObj, Sem.run, g1]
      · exact h.elim
  · exact h.elim

theorem snd_min (hs : RelS E.A σ w a.tmps s) (hH : HRel E σ w) (tys : Array TypeId) (ty : TypeId) (x y : Operand) (h : aOp E s σ (.min (opd x) (opd y)) K) :
    VS E σ w K ((Builtin.min_ tys ty #[a.eval x, a.eval y]).run E.P w) := by
  simp only [aOp] at h
  have hx := hs.ev x
  have hy := hs.ev y
  split at h
  · rename_i k m k' n e1 e2
    rw [e1] at hx; rw [e2] at hy
    rw [hx.int_inv, hy.int_inv]
    exact VS.here (by simp [Builtin.min_, Builtin.min2]) hH h (.int _ _)
  · exact h.elim
theorem snd_max (hs : RelS E.A σ w a.tmps s) (hH : HRel E σ w) (tys : Array TypeId) (ty : TypeId) (x y : Operand) (h : aOp E s σ (.max (opd x) (opd y)) K) :
    VS E σ w K ((Builtin.max_ tys ty #[a.eval x, a.eval y]).run E.P w) := by
  simp only [aOp] at h
  have hx := hs.ev x
  have hy := hs.ev y
  split at h
  · rename_i k m k' n e1 e2
    rw [e1] at hx; rw [e2] at hy
    rw [hx.int_inv, hy.int_inv]
    exact VS.here (by simp [Builtin.max_, Builtin.max2]) hH h (.int _ _)
  · exact h.elim

theorem snd_append (hs : RelS E.A σ w a.tmps s) (hH : HRel E σ w) (t u ty : TypeId) (x y : Operand) (h : aOp E s σ (compBuiltin E.P .append #[t, u] #[x, y]) K) :
    VS E σ w K ((Builtin.append_ #[t, u] ty #[a.eval x, a.eval y]).run E.P w) := by
  have key : ∀ i d, elemOfSlice E.P t = some i → E.P.underlying u = some d → (d = .string ∨ ∃ e, d = .slice e) →
      aOp E s σ (bif Nat.blt 0 i.size && Nat.blt 0 i.bytes && i.zero.isSome && (match i.zero with | some z => z.cells.size == i.size | none => false) then .app i.size i.bytes (opd x) (opd y) else .bad) K →
      VS E σ w K ((Builtin.append_ #[t, u] ty #[a.eval x, a.eval y]).run E.P w) := by
    intro i d hel hu hd h
    obtain ⟨e, ht, hi⟩ : ∃ e, E.P.underlying t = some (.slice e) ∧ E.P.info? e = some i := by
      unfold elemOfSlice at hel
      split at hel
      · rename_i e hu; exact ⟨e, hu, hel⟩
      · cases hel
    cases hz : i.zero with
    | none => simp [hz] at h; exact h.elim
    | some z =>
      rw [hz] at h
      cases hb : (Nat.blt 0 i.size && Nat.blt 0 i.bytes && (some z).isSome && (z.cells.size == i.size)) with
      | false => simp only [hb, cond_false] at h; exact h.elim
      | true =>
        simp only [hb, cond_true] at h
        simp only [Bool.and_eq_true] at hb
        obtain ⟨⟨⟨b1, b2⟩, _⟩, b3⟩ := hb
        simp only [aOp] at h
        split at h
        · exact h.elim
        · rename_i ys hv
          obtain ⟨h1, h2, h3⟩ := h
          have hx := hs.ev x
          generalize s.ev (opd x) = xa at hx h3
          refine append_sound hH ht hi hz (by simpa using b3) (by simpa using b1) (by simpa using b2) hu hd hx (hs.ev y) hv h1 h2 ?_
          cases xa with
          | nils => cases ys with
            | nil => exact h3
            | cons y yr => exact h3
          | own b sz' j n =>
            simp only at h3 ⊢
            cases hσ : σ b with
            | none => rw [hσ] at h3; exact h3.elim
            | some blk =>
              cases blk with
              | row sz'' els => rw [hσ] at h3; exact h3
              | amap es => rw [hσ] at h3; exact h3.elim
          | _ => exact h3.elim
  have h : aOp E s σ (match elemOfSlice E.P t, E.P.underlying u with
    | some i, some (.slice _) | some i, some .string => bif Nat.blt 0 i.size && Nat.blt 0 i.bytes && i.zero.isSome && (match i.zero with | some z => z.cells.size == i.size | none => false) then .app i.size i.bytes (opd x) (opd y) else .bad
    | _, _ => .bad) K := h
  split at h
  · rename_i i e h1 h2; exact key i _ h1 h2 (.inr ⟨e, rfl⟩) h
  · rename_i i h1 h2; exact key i _ h1 h2 (.inl rfl) h
  · exact h.elim
end
end Pat
end Go.Proofs.YthmcfphafofheaaDoor
