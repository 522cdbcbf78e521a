/- The abstract machine: regions that draw their order. No statement of the seat is proved in this file. -/
import Derived.Test.YthmcfphafofheaaDoorPatN
import Derived.Orders
namespace Go.Proofs.YthmcfphafofheaaDoor
namespace Pat
set_option linter.unusedVariables false
set_option linter.unusedSimpArgs false

/-! What doesn't hang on the world -/
/-- It stops, whatever the world. -/
def SH {α : Type} (P : Program) (m : Sem α) : Prop := ∀ (w : World) (a : α) (w' : World), m.run P w ≠ .ok a w'
/-- It leaves the world alone and doesn't look at it. -/
def SW {α : Type} (P : Program) (m : Sem α) : Prop := ∀ (w : World) (a : α) (w' : World), m.run P w = .ok a w' → w' = w ∧ ∀ w2, m.run P w2 = .ok a w2
/-- It leaves the world alone. -/
def SQ {α : Type} (P : Program) (m : Sem α) : Prop := ∀ (w : World) (a : α) (w' : World), m.run P w = .ok a w' → w' = w

section
variable {α β : Type} {P : Program}
theorem run_bind_ok {m : Sem α} {f : α → Sem β} {w w' : World} {b : β} (h : (m >>= f).run P w = .ok b w') : ∃ a w1, m.run P w = .ok a w1 ∧ (f a).run P w1 = .ok b w' := by
  rw [Sem.run_bind] at h
  cases hm : m.run P w with
  | ok a w1 => rw [hm] at h; exact ⟨a, w1, rfl, h⟩
  | halt x w1 => rw [hm] at h; simp at h
theorem SH.b1 {m : Sem α} {f : α → Sem β} (h : SH P m) : SH P (m >>= f) := fun w b w' e => by
  obtain ⟨a, w1, h1, _⟩ := run_bind_ok e
  exact h w a w1 h1
theorem SH.b2 {m : Sem α} {f : α → Sem β} (h : ∀ a, SH P (f a)) : SH P (m >>= f) := fun w b w' e => by
  obtain ⟨a, w1, _, h2⟩ := run_bind_ok e
  exact h a w1 b w' h2
theorem SH.halt {h : Halt} : SH P (.halt h : Sem α) := fun w a w' e => by simp [Sem.run] at e
theorem SW.sh {m : Sem α} (h : SH P m) : SW P m := fun w a w' e => absurd e (h w a w')
theorem SW.b {m : Sem α} {f : α → Sem β} (h : SW P m) (hf : ∀ a, SW P (f a)) : SW P (m >>= f) := fun w b w' e => by
  obtain ⟨a, w1, h1, h2⟩ := run_bind_ok e
  obtain ⟨rfl, g⟩ := h w a w1 h1
  obtain ⟨rfl, k⟩ := hf a _ b w' h2
  exact ⟨rfl, fun w2 => by rw [Sem.run_bind, g w2]; exact k w2⟩
theorem SQ.b {m : Sem α} {f : α → Sem β} (h : SQ P m) (hf : ∀ a, SQ P (f a)) : SQ P (m >>= f) := fun w b w' e => by
  obtain ⟨a, w1, h1, h2⟩ := run_bind_ok e
  have := h w a w1 h1
  subst this
  exact hf a _ b w' h2
theorem SW.sq {m : Sem α} (h : SW P m) : SQ P m := fun w a w' e => (h w a w' e).1
theorem SW.p {a : α} : SW P (Pure.pure a : Sem α) := fun w b w' e => by
  simp only [Sem.run_pure, Result.ok.injEq] at e
  obtain ⟨rfl, rfl⟩ := e
  exact ⟨rfl, fun _ => by rw [Sem.run_pure]⟩
theorem SH.stuck {s : String} : SH P (Go.stuck s : Sem α) := SH.halt
theorem SH.unsupported {s} : SH P (Go.unsupported s : Sem α) := SH.halt
theorem SH.goPanic {s} : SH P (Go.goPanic s : Sem α) := SH.halt
theorem SW.stuck {s : String} : SW P (Go.stuck s : Sem α) := .sh .halt
theorem SW.unsupported {s} : SW P (Go.unsupported s : Sem α) := .sh .halt
theorem SW.program : SW P Go.program := fun w b w' e => by
  simp only [Go.program, Sem.run, Result.ok.injEq] at e ⊢
  obtain ⟨rfl, rfl⟩ := e
  exact ⟨rfl, fun _ => ⟨rfl, trivial⟩⟩
theorem SW.typeInfo {t} : SW P (Go.typeInfo t) := SW.b .program fun p => by split <;> first | exact .p | exact .stuck
theorem SW.underlying {t} : SW P (Go.underlying t) := SW.b .program fun p => by split <;> first | exact .p | exact .stuck
theorem SW.sizeOf {t} : SW P (Go.sizeOf t) := SW.b .typeInfo fun p => .p
theorem SW.zeroValue {t} : SW P (Go.zeroValue t) := SW.b .typeInfo fun p => by split <;> first | exact .p | exact .unsupported
theorem SW.isAgg {t} : SW P (Go.isAgg t) := SW.b .underlying fun p => by split <;> exact .p
theorem SW.part {t cs o} : SW P (Go.part t cs o) := SW.b .isAgg fun p => by
  split
  · exact SW.b .sizeOf fun _ => .p
  · split <;> first | exact .p | exact .stuck
theorem SH.runtimePanic {e} : SH P (Go.runtimePanic e : Sem α) := by
  unfold Go.runtimePanic
  refine SH.b2 fun p => ?_
  dsimp only
  split <;> first | exact .goPanic | exact SH.b2 fun _ => .goPanic | exact SH.b2 fun _ => SH.b2 fun _ => .goPanic | exact SH.b2 fun _ => SH.b2 fun _ => SH.b2 fun _ => .goPanic
theorem SH.boundsPanic {k x y c} : SH P (Go.boundsPanic k x y c : Sem α) := by
  unfold Go.boundsPanic
  dsimp only
  split <;> exact SH.b2 fun _ => .runtimePanic
theorem SW.asIntOf {v} : SW P (Go.asIntOf v) := by
  unfold Go.asIntOf
  split <;> first | exact .p | exact .stuck | exact .unsupported
theorem SW.asBool {v} : SW P (Go.asBool v) := by
  unfold Go.asBool
  split <;> first | exact .p | exact .stuck
theorem SW.asAgg {v} : SW P (Go.asAgg v) := by
  unfold Go.asAgg
  split <;> first | exact .p | exact .stuck
theorem SW.asAddr {v} : SW P (Go.asAddr v) := by
  unfold Go.asAddr
  split <;> first | exact .p | exact .stuck | exact .sh .runtimePanic
theorem SW.sureAddr {v} : SW P (Go.Instr.sureAddr v) := by
  unfold Go.Instr.sureAddr
  split <;> first | exact .p | exact .stuck
theorem SW.indexAt {t x i} : SW P (Instr.indexAt t x i) := by
  unfold Instr.indexAt
  refine SW.b .asIntOf fun ⟨k, i⟩ => ?_
  dsimp only
  repeat' first | exact .p | exact .stuck | exact .unsupported | exact .sh .boundsPanic | exact .sh .runtimePanic | exact .underlying | exact .sizeOf | exact .sureAddr | exact .asIntOf | exact .asBool | exact .asAgg | exact .part | exact .isAgg | exact .zeroValue | exact .typeInfo | (refine SW.b ?_ fun _ => ?_) | split
theorem SW.sliceBound {v n c} : SW P (Instr.sliceBound v n c) := by
  unfold Instr.sliceBound
  refine SW.b .asIntOf fun ⟨k, i⟩ => ?_
  dsimp only
  split
  · exact .p
  · exact .sh .boundsPanic
theorem SW.sliceBounds {b n c l h m} : SW P (Instr.sliceBounds b n c l h m) := by
  unfold Instr.sliceBounds
  cases m <;> cases h <;> cases l <;> dsimp only
  all_goals
    repeat' first | exact .p | exact .stuck | exact .sliceBound | (refine SW.b ?_ fun _ => ?_)
theorem SW.slice {t x l h m} : SW P (Instr.slice t x l h m) := by
  unfold Instr.slice
  refine SW.b .underlying fun d => ?_
  split
  · split
    · exact .stuck
    · refine SW.b .sliceBounds fun x => ?_
      obtain ⟨l, h, m⟩ := x
      exact .p
  · exact SW.b .sliceBounds fun _ => SW.b .sizeOf fun _ => .p
  · refine SW.b (.asAddr) fun _ => SW.b .underlying fun _ => ?_
    split
    · exact SW.b .sliceBounds fun _ => SW.b .sizeOf fun _ => .p
    · exact .stuck
  · exact .stuck
theorem SW.sliceAt {t x l h m} : SW P (Instr.sliceAt t x l h m) := by
  unfold Instr.sliceAt
  refine SW.b .underlying fun d => ?_
  split
  · exact SW.b .sureAddr fun _ => SW.b .sliceBounds fun _ => SW.b .sizeOf fun _ => .p
  · exact .slice
theorem SW.index {t x i} : SW P (Instr.index t x i) := by
  unfold Instr.index
  refine SW.b .asIntOf fun ⟨k, i⟩ => ?_
  dsimp only
  repeat' first | exact .p | exact .stuck | exact .unsupported | exact .sh .boundsPanic | exact .sh .runtimePanic | exact .underlying | exact .sizeOf | exact .sureAddr | exact .asIntOf | exact .asBool | exact .asAgg | exact .part | exact .isAgg | exact .zeroValue | exact .typeInfo | (refine SW.b ?_ fun _ => ?_) | split
theorem SW.field {t x i} : SW P (Instr.field t x i) := by
  unfold Instr.field
  repeat' first | exact .p | exact .stuck | exact .unsupported | exact .sh .boundsPanic | exact .sh .runtimePanic | exact .underlying | exact .sizeOf | exact .sureAddr | exact .asIntOf | exact .asBool | exact .asAgg | exact .part | exact .isAgg | exact .zeroValue | exact .typeInfo | (refine SW.b ?_ fun _ => ?_) | split
theorem SW.extract {t x} : SW P (Instr.extract t x) := by
  unfold Instr.extract
  repeat' first | exact .p | exact .stuck | exact .unsupported | exact .sh .boundsPanic | exact .sh .runtimePanic | exact .underlying | exact .sizeOf | exact .sureAddr | exact .asIntOf | exact .asBool | exact .asAgg | exact .part | exact .isAgg | exact .zeroValue | exact .typeInfo | (refine SW.b ?_ fun _ => ?_) | split
theorem SW.makeInterface {t x} : SW P (Instr.makeInterface t x) := by
  unfold Instr.makeInterface
  repeat' first | exact .p | exact .stuck | exact .unsupported | exact .sh .boundsPanic | exact .sh .runtimePanic | exact .underlying | exact .sizeOf | exact .sureAddr | exact .asIntOf | exact .asBool | exact .asAgg | exact .part | exact .isAgg | exact .zeroValue | exact .typeInfo | (refine SW.b ?_ fun _ => ?_) | split
theorem SW.congr {m m' : Sem α} (h : ∀ w, m.run P w = m'.run P w) (h' : SW P m') : SW P m := fun w a w' e => by
  rw [h] at e
  obtain ⟨h1, h2⟩ := h' w a w' e
  exact ⟨h1, fun w2 => by rw [h]; exact h2 w2⟩
theorem SW.fieldAt {t v n f i} (hf : fieldOf P t n = some f) (hi : P.info? f.type = some i) (hz : i.size ≠ 0) : SW P (Instr.fieldAt t v n) := by
  simp only [fieldOf] at hf
  split at hf
  · rename_i fs hu
    refine SW.congr (m' := do let a ← Go.Instr.sureAddr v; Pure.pure (.pointer (some (a.add f.offset)))) (fun w => ?_) (.b .sureAddr fun _ => .p)
    have hs : ∀ w, (Go.sizeOf f.type).run P w = .ok i.size w := fun w => by
      simp only [Go.sizeOf, Go.typeInfo, Sem.run_bind, run_program, Result.andThen_ok, hi, Sem.run_pure]
    unfold Instr.fieldAt
    simp only [Go.underlying, Sem.run_bind, run_program, Result.andThen_ok, hu, Sem.run_pure, hf]
    cases Sem.run P (Go.Instr.sureAddr v) w with
    | ok a w1 => simp only [Result.andThen_ok, Go.fieldPlace, Sem.run_bind, hs, hz, if_false, Sem.run_pure]
    | halt x w1 => rfl
  · cases hf
theorem SW.len {ts t as} (hm : ∀ u k e, ts[0]? = some u → P.underlying u ≠ some (.map k e)) (hc : ∀ u k e, ts[0]? = some u → P.underlying u ≠ some (.chan k e)) : SW P (Builtin.len_ ts t as) := by
  unfold Builtin.len_
  split
  · rename_i t' x h1
    have h3 : ts[0]? = some t' := (Prod.mk.inj h1).1
    cases hu : P.underlying t' with
    | none => exact .sh (.b1 fun w a w' e => by simp [Go.underlying, run_program, hu, Go.stuck, Sem.run] at e)
    | some d =>
      refine SW.congr (m' := match d, x with
        | .string, .string s => Pure.pure (goInt s.size)
        | .array n _, _ => Pure.pure (goInt n)
        | .pointer arr, _ => do
          let .array n _ ← Go.underlying arr | Go.stuck "len: pointer to array expected"
          Pure.pure (goInt n)
        | .slice _, .slice _ n _ => Pure.pure (goInt n)
        | _, _ => Go.stuck "len: string, array, pointer to array, slice, map or channel expected") (fun w => ?_) ?_
      · simp only [Go.underlying, Sem.run_bind, run_program, Result.andThen_ok, hu, Sem.run_pure]
        cases d <;> first
          | exact absurd hu (hm t' _ _ h3)
          | exact absurd hu (hc t' _ _ h3)
          | (cases x <;> rfl)
      · split <;> first | exact .p | exact .stuck | skip
        refine SW.b .underlying fun d => ?_
        split <;> first | exact .p | exact .stuck
  · exact .stuck
end

/-- These operations don't hang on the world. -/
def AOp.calm : AOp → Bool
  | .mov _ | .pick _ _ _ | .bin _ _ _ | .eq .str _ _ _ | .not _ | .neg _ | .fadr _ _ | .iadr _ _ _ | .aadr _ _ _ _ | .idxs _ _ | .idxa _ _ _ _ _ | .fld _ _ _ _
  | .slc _ _ _ _ _ | .slcs _ _ _ | .conv _ _ | .mkif _ _ | .mkfn _ _ _ | .ext _ _ | .len .str _ | .len .slice _ | .nilc _ => true
  | _ => false
def AOp.read : AOp → Bool
  | .load _ _ _ => true
  | _ => false
section
variable {E : Env} {s : Slots} {σ : Hp} {K : AV → Hp → Prop} {w : World} {a : Act}
/-- And it hands back a value. -/
def SV (P : Program) (m : Sem Next) : Prop := SW P m ∧ ∀ (w : World) (n : Next) (w' : World), m.run P w = .ok n w' → ∃ v, n = .value v
theorem SV.p {P : Program} {v : Value} : SV P (Pure.pure (.value v) : Sem Next) := ⟨.p, fun w n w' e => by
  simp only [Sem.run_pure, Result.ok.injEq] at e
  exact ⟨v, e.1.symm⟩⟩
theorem SV.b {α : Type} {P : Program} {m : Sem α} {f : α → Sem Next} (h : SW P m) (hf : ∀ a, SV P (f a)) : SV P (m >>= f) := ⟨.b h fun a => (hf a).1, fun w n w' e => by
  obtain ⟨a, w1, _, h2⟩ := run_bind_ok e
  exact (hf a).2 _ _ _ h2⟩
theorem SV.v {P : Program} {m : Sem Value} (h : SW P m) : SV P (do Pure.pure (.value (← m)) : Sem Next) := SV.b h fun _ => .p
theorem compBin_cases (P : Program) (op : BinOp) (t : TypeId) (x y : Operand) : compBin P op t x y = .bin op (opd x) (opd y) ∨ (∃ k neg, compBin P op t x y = .eq k neg (opd x) (opd y)) ∨
    (∃ ks neg, compBin P op t x y = .eqst ks neg (opd x) (opd y)) ∨ (∃ neg, compBin P op t x y = .isnil neg (opd x)) ∨ compBin P op t x y = .bad := by
  unfold compBin
  cases op <;> dsimp only <;> (repeat' split) <;> simp
theorem cond_read {b : Bool} {x y : AOp} (h : (bif b then x else y).read = true) : x.read = true ∨ y.read = true := by
  cases b
  · exact .inr h
  · exact .inl h
theorem not_read {P : Program} {o : Op} (h : (compOp P o).read = true) : ∃ t y, o = .load t y := by
  cases o with
  | load t y => exact ⟨t, y, rfl⟩
  | binOp op t x y t' => rcases compBin_cases P op t x y with e | ⟨k, neg, e⟩ | ⟨ks, neg, e⟩ | ⟨neg, e⟩ | e <;> (simp only [compOp, e] at h; cases h)
  | unOp op t x => cases op <;> cases h
  | makeMap t r => cases r <;> cases h
  | call c =>
    obtain ⟨callee, args, argTypes⟩ := c
    cases callee with
    | value f => cases h
    | invoke r n => cases h
    | builtin b =>
      exfalso
      revert h
      unfold compOp compBuiltin
      dsimp only
      repeat' split
      all_goals intro h
      all_goals first
        | (cases h; done)
        | (rcases cond_read h with h | h <;> cases h; done)
  | _ =>
    exfalso
    revert h
    unfold compOp
    dsimp only
    repeat' split
    all_goals intro h
    all_goals first
      | (cases h; done)
      | (rcases cond_read h with h | h <;> cases h; done)
theorem SW.int (op : BinOp) (t : TypeId) (k k' : IntKind) (m n : Int) {P : Program} : SW P (binOp op t (.int k m) (.int k' n)) := by
  cases op <;> simp only [binOp, Op.shift, Op.intArith, Op.intDiv, Op.intBits, Op.intCmp] <;> (repeat' first | exact .p | exact .stuck | exact .sh .runtimePanic | split)
theorem SW.str (op : BinOp) (t : TypeId) (x y : ByteArray) {P : Program} : SW P (binOp op t (.string x) (.string y)) := by
  cases op <;> simp only [binOp, Op.stringOp] <;> (repeat' first | exact .p | exact .stuck | exact .unsupported | exact .sh .runtimePanic | split)
theorem SW.unit {P : Program} {m : Sem Unit} (h : ∀ w, m.run P w = .ok () w) : SW P m := .congr (m' := Pure.pure ()) (fun w => by rw [h, Sem.run_pure]) .p
theorem cond_calm {b : Bool} {x y : AOp} (h : (bif b then x else y).calm = true) : x.calm = true ∨ y.calm = true := by
  cases b
  · exact .inr h
  · exact .inl h
theorem calm_builtin {P : Program} {b : Builtin} {tys : Array TypeId} {args : Array Operand} (h : (compBuiltin P b tys args).calm = true) :
    b = .len ∧ ∃ x t, args = #[x] ∧ tys = #[t] ∧ (∀ k e, P.underlying t ≠ some (.map k e)) ∧ (∀ k e, P.underlying t ≠ some (.chan k e)) := by
  unfold compBuiltin at h
  split at h
  · rename_i x t hx ht
    refine ⟨rfl, x, t, arr1 hx, arr1 ht, fun k e hu => ?_, fun k e hu => ?_⟩ <;> rw [hu] at h <;> cases h
  · cases h
  · cases h
  · split at h
    · rcases cond_calm h with h | h <;> cases h
    · rcases cond_calm h with h | h <;> cases h
    · cases h
  · split at h
    · split at h <;> cases h
    · cases h
  · cases h
theorem calm_sw (hs : RelS E.A σ w a.tmps s) (o : Oper) (hc : (compOp E.P o.op).calm = true) (h : aOp E s σ (compOp E.P o.op) K) : SV E.P (execOp a.eval o) := by
  unfold execOp
  generalize o.op = op at hc h ⊢
  cases op with
  | move x => exact .p
  | assign x => exact .p
  | pick c x y => exact .b .asBool fun _ => .p
  | nilCheck x =>
    simp only [compOp, aOp] at h
    have hx := hs.ev x
    dsimp only
    split at h
    · rename_i e1
      rw [e1] at hx
      generalize a.eval x = ev at hx ⊢
      cases hx with
      | ptr => exact .p
    · rename_i e1
      rw [e1] at hx
      generalize a.eval x = ev at hx ⊢
      cases hx with
      | re b p off xv vs hb hσ hc hr => exact .p
    · rename_i e1
      rw [e1] at hx
      generalize a.eval x = ev at hx ⊢
      cases hx with
      | func _ first cap af ac hf hc rf rc => exact .p
    · exact h.elim
  | binOp op t x y t' =>
    have hx := hs.ev x
    have hy := hs.ev y
    have hi : ∀ k m k' n, a.eval x = .int k m → a.eval y = .int k' n → SV E.P (do Pure.pure (Next.value (← (do eqGuard op t x y (a.eval x) (a.eval y); binOp op t (a.eval x) (a.eval y) : Sem Value))) : Sem Next) := by
      intro k m k' n e1 e2
      rw [e1, e2]
      exact .v (.b (.unit fun w => run_guard_int op t x y k k' m n) fun _ => .int op t k k' m n)
    have hstr : ∀ m n, a.eval x = .string m → a.eval y = .string n → SV E.P (do Pure.pure (Next.value (← (do eqGuard op t x y (a.eval x) (a.eval y); binOp op t (a.eval x) (a.eval y) : Sem Value))) : Sem Next) := by
      intro m n e1 e2
      rw [e1, e2]
      exact .v (.b (.unit fun w => run_guard_str op t x y m n) fun _ => .str op t m n)
    simp only [compOp] at hc h
    rcases compBin_cases E.P op t x y with e | ⟨k, neg, e⟩ | ⟨ks, neg, e⟩ | ⟨neg, e⟩ | e <;> rw [e] at hc h
    · simp only [aOp, aBin] at h
      split at h
      · rename_i k m k' n e1 e2
        rw [e1] at hx; rw [e2] at hy
        exact hi _ _ _ _ hx.int_inv hy.int_inv
      · rename_i l m e1 e2
        rw [e1] at hx; rw [e2] at hy
        obtain ⟨sx, e3, e4⟩ := hx.str_inv
        obtain ⟨sy, e5, e6⟩ := hy.str_inv
        exact hstr _ _ e3 e5
      · exact h.elim
    · cases k with
      | str =>
        simp only [aOp, aEq] at h
        split at h
        · rename_i l m e1 e2
          rw [e1] at hx; rw [e2] at hy
          obtain ⟨sx, e3, e4⟩ := hx.str_inv
          obtain ⟨sy, e5, e6⟩ := hy.str_inv
          exact hstr _ _ e3 e5
        · exact h.elim
      | _ => cases hc
    · cases hc
    · cases hc
    · cases hc
  | unOp op t x =>
    refine .v ?_
    unfold Op.unary
    repeat' first | exact .p | exact .stuck | exact .unsupported | split
    all_goals simp only [Op.intArith, Op.intBits]
    all_goals exact .p
  | convert src dst x =>
    have hx := hs.ev x
    simp only [compOp] at hc h
    split at hc
    · rename_i u1 u2 h1 h2
      simp only [h1, h2, aOp] at h
      split at h
      · rename_i k m e1
        rw [e1] at hx
        refine .v (.congr (m' := Pure.pure (.int u2 (u2.wrap m))) (fun w => ?_) .p)
        unfold Go.convert
        rw [hx.int_inv]
        simp only [Go.underlying, Sem.run_bind, run_program, Result.andThen_ok, h1, h2, Sem.run_pure, Conv.intToInt]
      · exact h.elim
    · split at hc <;> cases hc
    · cases hc
  | makeInterface t x => exact .v .makeInterface
  | makeFunc fn first cap => exact .v .p
  | slice t x lo hi mx => exact .v .sliceAt
  | fieldAddr t x f =>
    simp only [compOp] at hc
    split at hc
    · rename_i f' hf
      split at hc
      · rename_i i hi
        cases hz : Nat.blt 0 i.size with
        | true =>
          refine .v (.fieldAt hf hi fun e => ?_)
          rw [e] at hz; cases hz
        | false => rw [hz] at hc; cases hc
      · cases hc
    · cases hc
  | field t x f => exact .v .field
  | indexAddr t x i => exact .v .indexAt
  | index t x i => exact .v .index
  | extract t i => exact .v .extract
  | call c =>
    obtain ⟨callee, args, argTypes⟩ := c
    cases callee with
    | value f => cases hc
    | invoke r n => cases hc
    | builtin b =>
      obtain ⟨rfl, x, t, rfl, rfl, h1, h2⟩ := calm_builtin hc
      have hts : ∀ {Q : TypeId → Prop}, Q t → ∀ u, (#[t] : Array TypeId)[0]? = some u → Q u := fun hq u e => by
        have : t = u := by simpa using e
        exact this ▸ hq
      exact .v (.len (fun u k e hu => hts (Q := fun u => ∀ k e, E.P.underlying u ≠ some (.map k e)) h1 u hu k e) (fun u k e hu => hts (Q := fun u => ∀ k e, E.P.underlying u ≠ some (.chan k e)) h2 u hu k e))
  | makeMap t r => cases r <;> cases hc
  | _ =>
    exfalso
    revert hc
    unfold compOp
    dsimp only
    repeat' split
    all_goals intro hc
    all_goals first
      | (cases hc; done)
      | (rcases cond_calm hc with hc | hc <;> cases hc; done)

theorem sq_load {P : Program} {t : TypeId} {v : Value} : SQ P (Instr.loadAt t v) := by
  have hl : ∀ a, SQ P (Go.load a) := fun a w x w' e => by
    simp only [Go.load, Sem.run] at e
    split at e
    · simp only [Sem.run, Result.ok.injEq] at e; exact e.2.symm
    · split at e
      · simp only [Sem.run, Result.ok.injEq] at e; exact e.2.symm
      · cases e
  have hc : ∀ (a : Addr) (n i : Nat) (acc : Array Value), SQ P (Go.loadCellsFrom a i n acc) := by
    intro a n
    induction n with
    | zero => intro i acc; exact SW.p.sq
    | succ n ih => intro i acc; exact .b (hl _) fun v => ih _ _
  refine .b SW.sureAddr.sq fun a => .b SW.isAgg.sq fun b => ?_
  split
  · exact .b SW.sizeOf.sq fun n => .b (hc _ _ _ _) fun _ => SW.p.sq
  · exact hl a
/-- What an operation that is calm, or only reads, does. -/
theorem quiet_sound (hs : RelS E.A σ w a.tmps s) (hH : HRel E σ w) (o : Oper) (ao : AOp) (hc : compOp E.P o.op = ao.strip) (hq : ao.calm = true ∨ ao.read = true) (h : aOp E s σ ao K) :
    ∃ v, (execOp a.eval o).run E.P w = .ok (.value v) w ∧ (ao.calm = true → ∀ w', (execOp a.eval o).run E.P w' = .ok (.value v) w') ∧ ∃ x σ', K x σ' ∧ HRel E σ' w ∧ Rep E.A σ' w v x ∧ Trans σ w σ' w := by
  have hus := op_sound' hs hH o ao hc h
  have hst : ao.strip = ao := by cases ao <;> first | rfl | (rcases hq with hq | hq <;> cases hq)
  rw [hst] at hc
  have hkeep : ∀ n w', (execOp a.eval o).run E.P w = .ok n w' → w' = w := by
    intro n w' e
    rcases hq with hq | hq
    · rw [← hc] at hq h
      exact ((calm_sw hs o hq h).1 w n w' e).1
    · cases ao with
      | load ag k x =>
        have := not_read (P := E.P) (o := o.op) (by rw [hc]; rfl)
        obtain ⟨t, y, ho⟩ := this
        unfold execOp at e
        rw [ho] at e
        exact (SQ.b sq_load fun _ => SW.p.sq) _ _ _ e
      | _ => cases hq
  unfold US Upon at hus
  cases hr : (execOp a.eval o).run E.P w with
  | halt x w' => rw [hr] at hus; exact hus.elim
  | ok n w' =>
    have := hkeep n w' hr
    subst this
    rw [hr] at hus
    cases n with
    | value v =>
      obtain ⟨x, σ', h1, h2, h3, h4⟩ := hus
      refine ⟨v, rfl, fun hq2 => ?_, x, σ', h1, h2, h3, h4⟩
      rw [← hc] at hq2 h
      exact ((calm_sw hs o hq2 h).1 w' _ w' hr).2
    | _ =>
      exfalso
      have hv : ∃ v, (execOp a.eval o).run E.P w' = .ok (.value v) w' := by
        rcases hq with hq | hq
        · rw [← hc] at hq h
          obtain ⟨v, hv⟩ := (calm_sw hs o hq h).2 _ _ _ hr
          exact ⟨v, by rw [hr, hv]⟩
        · obtain ⟨t, y, ho⟩ := not_read (P := E.P) (o := o.op) (by rw [hc]; exact hq)
          have hr' := hr
          unfold execOp at hr'
          rw [ho] at hr'
          obtain ⟨v, w1, _, e2⟩ := run_bind_ok hr'
          simp only [Sem.run_pure, Result.ok.injEq] at e2
          exact ⟨v, by rw [hr, ← e2.1]⟩
      obtain ⟨v, hv⟩ := hv
      rw [hr] at hv
      simp at hv
end
end Pat
end Go.Proofs.YthmcfphafofheaaDoor
