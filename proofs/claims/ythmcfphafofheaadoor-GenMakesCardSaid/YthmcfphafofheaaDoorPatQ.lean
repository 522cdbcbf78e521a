/- The abstract machine: the rules by which code is looked at, step by step. No statement of the seat is proved in this file. -/
import Derived.Test.YthmcfphafofheaaDoorPatP
import Derived.IntWalk
namespace Go.Proofs.YthmcfphafofheaaDoor
namespace Pat
set_option linter.unusedVariables false
set_option linter.unusedSimpArgs false

/-- What waits behind a piece of code. -/
inductive Fr where
  | code (c : ACode)
  | blk (id : Nat)
  | tree (t : DT)
def kont (E : Env) (N : Nat) (Q : Exit → Slots → Hp → Prop) : List Fr → Exit → Slots → Hp → Prop
  | [], e, s, σ => Q e s σ
  | .code c :: fs, .normal, s, σ => aCode E N c (kont E N Q fs) s σ
  | .code _ :: fs, e, s, σ => kont E N Q fs e s σ
  | .blk id :: fs, .exit i, s, σ => if i = id then kont E N Q fs .normal s σ else kont E N Q fs (.exit i) s σ
  | .blk _ :: fs, e, s, σ => kont E N Q fs e s σ
  | .tree t :: fs, .normal, s, σ => aTree E t s σ (kont E N Q fs .normal)
  | .tree _ :: fs, e, s, σ => kont E N Q fs e s σ
/-- Code c, then what waits. -/
def GoC (E : Env) (N : Nat) (Q : Exit → Slots → Hp → Prop) (c : ACode) (fs : List Fr) (s : Slots) (σ : Hp) : Prop := aCode E N c (kont E N Q fs) s σ
/-- Operations, then what waits. -/
def GoO (E : Env) (N : Nat) (Q : Exit → Slots → Hp → Prop) (l : List AOper) (fs : List Fr) (s : Slots) (σ : Hp) : Prop := aOps E l s σ (kont E N Q fs .normal)
/-- Leaving, with what waits. -/
def GoX (E : Env) (N : Nat) (Q : Exit → Slots → Hp → Prop) (e : Exit) (fs : List Fr) (s : Slots) (σ : Hp) : Prop := kont E N Q fs e s σ
/-- A tree of orders, then what waits. -/
def GoT (E : Env) (N : Nat) (Q : Exit → Slots → Hp → Prop) (t : DT) (fs : List Fr) (s : Slots) (σ : Hp) : Prop := aTree E t s σ (kont E N Q fs .normal)
/-- A choice. -/
def GoB (E : Env) (N : Nat) (Q : Exit → Slots → Hp → Prop) (v : AV) (x y : ACode) (fs : List Fr) (s : Slots) (σ : Hp) : Prop :=
  match v with
  | .bool b => (b = true → GoC E N Q x fs s σ) ∧ (b = false → GoC E N Q y fs s σ)
  | _ => False
/-- A guarded operation. -/
def GoG (E : Env) (N : Nat) (Q : Exit → Slots → Hp → Prop) (v : AV) (want : Bool) (d : Option Nat) (o : AOp) (l : List AOper) (fs : List Fr) (s : Slots) (σ : Hp) : Prop :=
  match v with
  | .bool b => (b = want → GoO E N Q (⟨d, o, none⟩ :: l) fs s σ) ∧ (b = !want → GoO E N Q l fs (s.put d (.tuple [])) σ)
  | .tuple [] => GoO E N Q l fs (s.put d (.tuple [])) σ
  | _ => False
/-- A value for a slot, then what waits. -/
def GoV (E : Env) (N : Nat) (Q : Exit → Slots → Hp → Prop) (d : Option Nat) (l : List AOper) (fs : List Fr) (s : Slots) (v : AV) (σ : Hp) : Prop := GoO E N Q l fs (s.put d v) σ

section
variable {E : Env} {N : Nat} {Q : Exit → Slots → Hp → Prop} {fs : List Fr} {s : Slots} {σ : Hp} {l : List AOper} {d : Option Nat}
theorem go_start {c : ACode} (h : GoC E N Q c [] s σ) : aCode E N c Q s σ := h
theorem go_seq (a b : ACode) : GoC E N Q (.seq a b) fs s σ = GoC E N Q a (.code b :: fs) s σ := by
  unfold GoC
  rw [aCode]
  congr 1
  funext e s σ
  cases e <;> rfl
theorem go_ops : GoC E N Q (.ops l) fs s σ = GoO E N Q l fs s σ := rfl
theorem go_skip : GoC E N Q .skip fs s σ = GoX E N Q .normal fs s σ := rfl
theorem go_cond (v : AOpd) (x y : ACode) : GoC E N Q (.cond v x y) fs s σ = GoB E N Q (s.ev v) x y fs s σ := rfl
theorem go_exit (id : Nat) : GoC E N Q (.exit id) fs s σ = GoX E N Q (.exit id) fs s σ := rfl
theorem go_ret : GoC E N Q .ret fs s σ = GoX E N Q .ret fs s σ := rfl
theorem go_nil : GoO E N Q [] fs s σ = GoX E N Q .normal fs s σ := rfl
theorem gox_code (c : ACode) : GoX E N Q .normal (.code c :: fs) s σ = GoC E N Q c fs s σ := rfl
theorem gox_code_exit (id : Nat) (c : ACode) : GoX E N Q (.exit id) (.code c :: fs) s σ = GoX E N Q (.exit id) fs s σ := rfl
theorem gox_code_ret (c : ACode) : GoX E N Q .ret (.code c :: fs) s σ = GoX E N Q .ret fs s σ := rfl
theorem gox_blk (id : Nat) : GoX E N Q .normal (.blk id :: fs) s σ = GoX E N Q .normal fs s σ := rfl
theorem gox_blk_exit (i id : Nat) : GoX E N Q (.exit i) (.blk id :: fs) s σ = if i = id then GoX E N Q .normal fs s σ else GoX E N Q (.exit i) fs s σ := rfl
theorem gox_blk_ret (id : Nat) : GoX E N Q .ret (.blk id :: fs) s σ = GoX E N Q .ret fs s σ := rfl
theorem gox_tree (t : DT) : GoX E N Q .normal (.tree t :: fs) s σ = GoT E N Q t fs s σ := rfl
theorem got_done : GoT E N Q .done fs s σ = GoX E N Q .normal fs s σ := rfl
theorem got_take (o : AOper) (t : DT) : GoT E N Q (.take o t) fs s σ = GoO E N Q [o] (.tree t :: fs) s σ := rfl
theorem got_more (o : AOper) (t t' : DT) : GoT E N Q (.more o t t') fs s σ = (GoO E N Q [o] (.tree t :: fs) s σ ∧ GoT E N Q t' fs s σ) := rfl
theorem got_stop : GoT E N Q .stop fs s σ = True := rfl
theorem go_draw {ops : Array Oper} {t : IT} {lit : DT} (hm : E.P.follows .mixedOrders = true) (hns : Region.noSelect ops = true) (hend : t.isEnd = false) (hok : t.ok ops l ops.size (Array.replicate ops.size false) = true) (hlit : t.dt l = lit)
    (h : GoT E N Q lit fs s σ) : GoC E N Q (.draw ops l) fs s σ := sCode.draw hm hns hend hok hlit h
theorem gox_end (e : Exit) : GoX E N Q e [] s σ = Q e s σ := rfl
theorem go_block {id : Nat} {c : ACode} (h : GoC E N Q c (.blk id :: fs) s σ) : GoC E N Q (.block id c) fs s σ := by
  refine sCode.block ((code_sound N c _ s σ h).mono fun e s σ hk => ?_)
  cases e <;> exact hk
theorem go_mark {c : ACode} (h : GoC E N Q c fs s σ) : GoC E N Q (.mark c) fs s σ := sCode.mark (code_sound N c _ s σ h)
/-- A choice whose way is known. -/
theorem gob_true (x y : ACode) : GoB E N Q (.bool true) x y fs s σ = GoC E N Q x fs s σ := by simp [GoB]
theorem gob_false (x y : ACode) : GoB E N Q (.bool false) x y fs s σ = GoC E N Q y fs s σ := by simp [GoB]
theorem gog_tt (o : AOp) : GoG E N Q (.bool true) true d o l fs s σ = GoO E N Q (⟨d, o, none⟩ :: l) fs s σ := by simp [GoG]
theorem gog_ff (o : AOp) : GoG E N Q (.bool false) false d o l fs s σ = GoO E N Q (⟨d, o, none⟩ :: l) fs s σ := by simp [GoG]
theorem gog_tf (o : AOp) : GoG E N Q (.bool true) false d o l fs s σ = GoO E N Q l fs (s.put d (.tuple [])) σ := by simp [GoG]
theorem gog_ft (o : AOp) : GoG E N Q (.bool false) true d o l fs s σ = GoO E N Q l fs (s.put d (.tuple [])) σ := by simp [GoG]
theorem gog_un (o : AOp) (want : Bool) : GoG E N Q (.tuple []) want d o l fs s σ = GoO E N Q l fs (s.put d (.tuple [])) σ := rfl
theorem go_guard (o : AOp) (g : Nat) (want : Bool) : GoO E N Q (⟨d, o, some (g, want)⟩ :: l) fs s σ = GoG E N Q (s g) want d o l fs s σ := rfl
/-! One rule an operation -/
/-- An operation that hangs on its operands' values: the rules below. -/
def Go1 (E : Env) (N : Nat) (Q : Exit → Slots → Hp → Prop) (o : AOp) (x : AV) (d : Option Nat) (l : List AOper) (fs : List Fr) (s : Slots) (σ : Hp) : Prop :=
  aOp E (fun _ => x) σ o fun v σ' => GoO E N Q l fs (s.put d v) σ'
def Go2 (E : Env) (N : Nat) (Q : Exit → Slots → Hp → Prop) (o : AOp) (x y : AV) (d : Option Nat) (l : List AOper) (fs : List Fr) (s : Slots) (σ : Hp) : Prop :=
  aOp E (fun t => match t with | 0 => x | _ => y) σ o fun v σ' => GoO E N Q l fs (s.put d v) σ'
theorem go_mov (x : AOpd) : GoO E N Q (⟨d, .mov x, none⟩ :: l) fs s σ = GoO E N Q l fs (s.put d (s.ev x)) σ := rfl
theorem go_pick (c a b : AOpd) : GoO E N Q (⟨d, .pick c a b, none⟩ :: l) fs s σ = Go1 E N Q (.pick (.t 0) (.c (s.ev a)) (.c (s.ev b))) (s.ev c) d l fs s σ := rfl
theorem go1_pick_true (a b : AV) : Go1 E N Q (.pick (.t 0) (.c a) (.c b)) (.bool true) d l fs s σ = GoO E N Q l fs (s.put d a) σ := rfl
theorem go1_pick_false (a b : AV) : Go1 E N Q (.pick (.t 0) (.c a) (.c b)) (.bool false) d l fs s σ = GoO E N Q l fs (s.put d b) σ := rfl
theorem go_load (ag : Bool) (n : Nat) (a : AOpd) : GoO E N Q (⟨d, .load ag n a, none⟩ :: l) fs s σ = Go1 E N Q (.load ag n (.t 0)) (s.ev a) d l fs s σ := rfl
def GoPart (E : Env) (N : Nat) (Q : Exit → Slots → Hp → Prop) (v : Option AV) (d : Option Nat) (l : List AOper) (fs : List Fr) (s : Slots) (σ : Hp) : Prop :=
  match v with
  | some v => GoO E N Q l fs (s.put d v) σ
  | none => False
theorem go_part_some (v : AV) : GoPart E N Q (some v) d l fs s σ = GoO E N Q l fs (s.put d v) σ := rfl
theorem go1_load_re (ag : Bool) (n : Nat) (x : AV) (off : Nat) : Go1 E N Q (.load ag n (.t 0)) (.re x off) d l fs s σ = GoPart E N Q (part ag n x.cells off) d l fs s σ := rfl
theorem go_bin (op : BinOp) (x y : AOpd) : GoO E N Q (⟨d, .bin op x y, none⟩ :: l) fs s σ = Go2 E N Q (.bin op (.t 0) (.t 1)) (s.ev x) (s.ev y) d l fs s σ := rfl
theorem go2_add (k : IntKind) (a b : Int) : Go2 E N Q (.bin .add (.t 0) (.t 1)) (.int k a) (.int k b) d l fs s σ = GoO E N Q l fs (s.put d (.int k (k.wrap (a + b)))) σ := by simp [Go1, Go2, aOp, aBin, aEq, binInt, binStr, Slots.ev]
theorem go2_sub (k : IntKind) (a b : Int) : Go2 E N Q (.bin .sub (.t 0) (.t 1)) (.int k a) (.int k b) d l fs s σ = GoO E N Q l fs (s.put d (.int k (k.wrap (a - b)))) σ := by simp [Go1, Go2, aOp, aBin, aEq, binInt, binStr, Slots.ev]
theorem go2_mul (k : IntKind) (a b : Int) : Go2 E N Q (.bin .mul (.t 0) (.t 1)) (.int k a) (.int k b) d l fs s σ = GoO E N Q l fs (s.put d (.int k (k.wrap (a * b)))) σ := by simp [Go1, Go2, aOp, aBin, aEq, binInt, binStr, Slots.ev]
theorem go2_quo (k : IntKind) (a b : Int) : Go2 E N Q (.bin .quo (.t 0) (.t 1)) (.int k a) (.int k b) d l fs s σ = (b ≠ 0 ∧ GoO E N Q l fs (s.put d (.int k (k.wrap (a.tdiv b)))) σ) := by simp [Go1, Go2, aOp, aBin, aEq, binInt, binStr, Slots.ev]
theorem go2_rem (k : IntKind) (a b : Int) : Go2 E N Q (.bin .rem (.t 0) (.t 1)) (.int k a) (.int k b) d l fs s σ = (b ≠ 0 ∧ GoO E N Q l fs (s.put d (.int k (a.tmod b))) σ) := by simp [Go1, Go2, aOp, aBin, aEq, binInt, binStr, Slots.ev]
theorem go2_and (k : IntKind) (a b : Int) : Go2 E N Q (.bin .and (.t 0) (.t 1)) (.int k a) (.int k b) d l fs s σ = GoO E N Q l fs (s.put d (.int k (k.wrap (BitVec.ofInt k.bits a &&& BitVec.ofInt k.bits b).toNat))) σ := by simp [Go1, Go2, aOp, aBin, aEq, binInt, binStr, Slots.ev]
theorem go2_or (k : IntKind) (a b : Int) : Go2 E N Q (.bin .or (.t 0) (.t 1)) (.int k a) (.int k b) d l fs s σ = GoO E N Q l fs (s.put d (.int k (k.wrap (BitVec.ofInt k.bits a ||| BitVec.ofInt k.bits b).toNat))) σ := by simp [Go1, Go2, aOp, aBin, aEq, binInt, binStr, Slots.ev]
theorem go2_xor (k : IntKind) (a b : Int) : Go2 E N Q (.bin .xor (.t 0) (.t 1)) (.int k a) (.int k b) d l fs s σ = GoO E N Q l fs (s.put d (.int k (k.wrap (BitVec.ofInt k.bits a ^^^ BitVec.ofInt k.bits b).toNat))) σ := by simp [Go1, Go2, aOp, aBin, aEq, binInt, binStr, Slots.ev]
theorem go2_lss (k : IntKind) (a b : Int) : Go2 E N Q (.bin .lss (.t 0) (.t 1)) (.int k a) (.int k b) d l fs s σ = GoO E N Q l fs (s.put d (.bool (decide (a < b)))) σ := by simp [Go1, Go2, aOp, aBin, aEq, binInt, binStr, Slots.ev]
theorem go2_leq (k : IntKind) (a b : Int) : Go2 E N Q (.bin .leq (.t 0) (.t 1)) (.int k a) (.int k b) d l fs s σ = GoO E N Q l fs (s.put d (.bool (decide (a ≤ b)))) σ := by simp [Go1, Go2, aOp, aBin, aEq, binInt, binStr, Slots.ev]
theorem go2_gtr (k : IntKind) (a b : Int) : Go2 E N Q (.bin .gtr (.t 0) (.t 1)) (.int k a) (.int k b) d l fs s σ = GoO E N Q l fs (s.put d (.bool (decide (b < a)))) σ := by simp [Go1, Go2, aOp, aBin, aEq, binInt, binStr, Slots.ev]
theorem go2_geq (k : IntKind) (a b : Int) : Go2 E N Q (.bin .geq (.t 0) (.t 1)) (.int k a) (.int k b) d l fs s σ = GoO E N Q l fs (s.put d (.bool (decide (b ≤ a)))) σ := by simp [Go1, Go2, aOp, aBin, aEq, binInt, binStr, Slots.ev]
theorem go2_eql (k : IntKind) (a b : Int) : Go2 E N Q (.bin .eql (.t 0) (.t 1)) (.int k a) (.int k b) d l fs s σ = GoO E N Q l fs (s.put d (.bool (decide (a = b)))) σ := by simp [Go1, Go2, aOp, aBin, aEq, binInt, binStr, Slots.ev]; rfl
theorem go2_neq (k : IntKind) (a b : Int) : Go2 E N Q (.bin .neq (.t 0) (.t 1)) (.int k a) (.int k b) d l fs s σ = GoO E N Q l fs (s.put d (.bool (!decide (a = b)))) σ := by simp [Go1, Go2, aOp, aBin, aEq, binInt, binStr, Slots.ev]; rfl
theorem go2_cat (a b : List UInt8) : Go2 E N Q (.bin .add (.t 0) (.t 1)) (.str a) (.str b) d l fs s σ = (a.length + b.length ≤ 9223372036854775807 ∧ GoO E N Q l fs (s.put d (.str (a ++ b))) σ) := rfl
theorem go2_slss (a b : List UInt8) : Go2 E N Q (.bin .lss (.t 0) (.t 1)) (.str a) (.str b) d l fs s σ = GoO E N Q l fs (s.put d (.bool (Op.bytesLess a b))) σ := rfl
theorem go2_sleq (a b : List UInt8) : Go2 E N Q (.bin .leq (.t 0) (.t 1)) (.str a) (.str b) d l fs s σ = GoO E N Q l fs (s.put d (.bool ((Op.bytesLess a b || a == b)))) σ := rfl
theorem go2_sgtr (a b : List UInt8) : Go2 E N Q (.bin .gtr (.t 0) (.t 1)) (.str a) (.str b) d l fs s σ = GoO E N Q l fs (s.put d (.bool (!(Op.bytesLess a b || a == b)))) σ := rfl
theorem go2_sgeq (a b : List UInt8) : Go2 E N Q (.bin .geq (.t 0) (.t 1)) (.str a) (.str b) d l fs s σ = GoO E N Q l fs (s.put d (.bool (!Op.bytesLess a b))) σ := rfl
theorem go_eq (k : EqK) (neg : Bool) (x y : AOpd) : GoO E N Q (⟨d, .eq k neg x y, none⟩ :: l) fs s σ = Go2 E N Q (.eq k neg (.t 0) (.t 1)) (s.ev x) (s.ev y) d l fs s σ := rfl
theorem go2_eqb (neg a b : Bool) : Go2 E N Q (.eq .bool neg (.t 0) (.t 1)) (.bool a) (.bool b) d l fs s σ = GoO E N Q l fs (s.put d (.bool (negIf neg (a == b)))) σ := rfl
theorem go2_eqs (neg : Bool) (a b : List UInt8) : Go2 E N Q (.eq .str neg (.t 0) (.t 1)) (.str a) (.str b) d l fs s σ = GoO E N Q l fs (s.put d (.bool (negIf neg (decide (a = b))))) σ := by
  have h : (a == b) = decide (a = b) := by { rw [Bool.eq_iff_iff]; simp }
  simp [Go2, aOp, aEq, Slots.ev, h]
theorem go2_eqp0 (neg : Bool) : Go2 E N Q (.eq .ptr neg (.t 0) (.t 1)) .nilp .nilp d l fs s σ = GoO E N Q l fs (s.put d (.bool (negIf neg true))) σ := rfl
theorem go2_eqp1 (neg : Bool) (b sz i off : Nat) : Go2 E N Q (.eq .ptr neg (.t 0) (.t 1)) (.ptr b sz i off) .nilp d l fs s σ = GoO E N Q l fs (s.put d (.bool (negIf neg false))) σ := rfl
theorem go2_eqp2 (neg : Bool) (x : AV) (off : Nat) : Go2 E N Q (.eq .ptr neg (.t 0) (.t 1)) (.re x off) .nilp d l fs s σ = GoO E N Q l fs (s.put d (.bool (negIf neg false))) σ := rfl
theorem go2_eqi0 (neg : Bool) : Go2 E N Q (.eq (.iface true) neg (.t 0) (.t 1)) .nilIface .nilIface d l fs s σ = GoO E N Q l fs (s.put d (.bool (negIf neg true))) σ := by simp [Go2, aOp, aEq, Slots.ev]
theorem go2_eqi1 (neg lit : Bool) (t : TypeId) (v : AV) : Go2 E N Q (.eq (.iface lit) neg (.t 0) (.t 1)) (.iface t v) .nilIface d l fs s σ = GoO E N Q l fs (s.put d (.bool (negIf neg false))) σ := rfl
theorem go2_eqi2 (neg lit : Bool) (t : TypeId) (v : AV) : Go2 E N Q (.eq (.iface lit) neg (.t 0) (.t 1)) .nilIface (.iface t v) d l fs s σ = GoO E N Q l fs (s.put d (.bool (negIf neg false))) σ := rfl
theorem go2_eqi3 (neg lit : Bool) (t t' : TypeId) (g g' : Nat) : Go2 E N Q (.eq (.iface lit) neg (.t 0) (.t 1)) (.iface t (.sptr g)) (.iface t' (.sptr g')) d l fs s σ = ((E.G g = some t ∧ E.G g' = some t') ∧ GoO E N Q l fs (s.put d (.bool (negIf neg (g == g')))) σ) := rfl
theorem go2_eqf0 (neg : Bool) : Go2 E N Q (.eq .func neg (.t 0) (.t 1)) .nilFunc .nilFunc d l fs s σ = GoO E N Q l fs (s.put d (.bool (negIf neg true))) σ := rfl
theorem go2_eqf1 (neg : Bool) (f : Fn) (a b : List AV) : Go2 E N Q (.eq .func neg (.t 0) (.t 1)) (.func f a b) .nilFunc d l fs s σ = GoO E N Q l fs (s.put d (.bool (negIf neg false))) σ := rfl
theorem go_eqst (ks : List FK) (neg : Bool) (x y : AOpd) : GoO E N Q (⟨d, .eqst ks neg x y, none⟩ :: l) fs s σ = Go2 E N Q (.eqst ks neg (.t 0) (.t 1)) (s.ev x) (s.ev y) d l fs s σ := rfl
def GoEq (E : Env) (N : Nat) (Q : Exit → Slots → Hp → Prop) (neg : Bool) (v : Option Bool) (d : Option Nat) (l : List AOper) (fs : List Fr) (s : Slots) (σ : Hp) : Prop :=
  match v with
  | some b => GoO E N Q l fs (s.put d (.bool (negIf neg b))) σ
  | none => False
theorem go2_eqst (ks : List FK) (neg : Bool) (xs ys : List AV) : Go2 E N Q (.eqst ks neg (.t 0) (.t 1)) (.agg xs) (.agg ys) d l fs s σ = GoEq E N Q neg (eqCells ks xs ys) d l fs s σ := rfl
theorem go_eqst_some (neg b : Bool) : GoEq E N Q neg (some b) d l fs s σ = GoO E N Q l fs (s.put d (.bool (negIf neg b))) σ := rfl
theorem go_isnil (neg : Bool) (x : AOpd) : GoO E N Q (⟨d, .isnil neg x, none⟩ :: l) fs s σ = Go1 E N Q (.isnil neg (.t 0)) (s.ev x) d l fs s σ := rfl
theorem go1_isnil_nils (neg : Bool) : Go1 E N Q (.isnil neg (.t 0)) .nils d l fs s σ = (GoO E N Q l fs (s.put d (.bool true)) σ ∧ GoO E N Q l fs (s.put d (.bool false)) σ) := rfl
theorem go1_isnil_rd (neg : Bool) (sz : Nat) (xs : List AV) : Go1 E N Q (.isnil neg (.t 0)) (.rd sz xs) d l fs s σ = ((xs = [] → GoO E N Q l fs (s.put d (.bool !neg)) σ) ∧ GoO E N Q l fs (s.put d (.bool neg)) σ) := rfl
theorem go1_isnil_own (neg : Bool) (b sz i n : Nat) : Go1 E N Q (.isnil neg (.t 0)) (.own b sz i n) d l fs s σ = ((n = 0 → GoO E N Q l fs (s.put d (.bool !neg)) σ) ∧ GoO E N Q l fs (s.put d (.bool neg)) σ) := rfl
theorem go_not (x : AOpd) : GoO E N Q (⟨d, .not x, none⟩ :: l) fs s σ = Go1 E N Q (.not (.t 0)) (s.ev x) d l fs s σ := rfl
theorem go1_not (b : Bool) : Go1 E N Q (.not (.t 0)) (.bool b) d l fs s σ = GoO E N Q l fs (s.put d (.bool !b)) σ := rfl
theorem go_neg (x : AOpd) : GoO E N Q (⟨d, .neg x, none⟩ :: l) fs s σ = Go1 E N Q (.neg (.t 0)) (s.ev x) d l fs s σ := rfl
theorem go1_neg (k : IntKind) (a : Int) : Go1 E N Q (.neg (.t 0)) (.int k a) d l fs s σ = GoO E N Q l fs (s.put d (.int k (k.wrap (0 - a)))) σ := rfl
theorem go_fadr (o : Nat) (x : AOpd) : GoO E N Q (⟨d, .fadr o x, none⟩ :: l) fs s σ = Go1 E N Q (.fadr o (.t 0)) (s.ev x) d l fs s σ := rfl
theorem go1_fadr_ptr (o b sz i off : Nat) : Go1 E N Q (.fadr o (.t 0)) (.ptr b sz i off) d l fs s σ = GoO E N Q l fs (s.put d (.ptr b sz i (off + o))) σ := rfl
theorem go1_fadr_re (o : Nat) (x : AV) (off : Nat) : Go1 E N Q (.fadr o (.t 0)) (.re x off) d l fs s σ = GoO E N Q l fs (s.put d (.re x (off + o))) σ := rfl
theorem go_iadr (sz : Nat) (x i : AOpd) : GoO E N Q (⟨d, .iadr sz x i, none⟩ :: l) fs s σ = Go2 E N Q (.iadr sz (.t 0) (.t 1)) (s.ev x) (s.ev i) d l fs s σ := rfl
def GoAt (E : Env) (N : Nat) (Q : Exit → Slots → Hp → Prop) (v : Option AV) (d : Option Nat) (l : List AOper) (fs : List Fr) (s : Slots) (σ : Hp) : Prop :=
  match v with
  | some x => GoO E N Q l fs (s.put d (.re x 0)) σ
  | none => False
theorem go2_iadr_rd (sz : Nat) (xs : List AV) (k : IntKind) (n : Int) : Go2 E N Q (.iadr sz (.t 0) (.t 1)) (.rd sz xs) (.int k n) d l fs s σ = GoAt E N Q (if 0 ≤ n then xs[n.toNat]? else none) d l fs s σ := by by_cases h : 0 ≤ n <;> simp [Go2, aOp, Slots.ev, GoAt, h] <;> cases xs[n.toNat]? <;> simp
theorem go_at_some (x : AV) : GoAt E N Q (some x) d l fs s σ = GoO E N Q l fs (s.put d (.re x 0)) σ := rfl
theorem go2_iadr_own (sz b j n : Nat) (k : IntKind) (i : Int) : Go2 E N Q (.iadr sz (.t 0) (.t 1)) (.own b sz j n) (.int k i) d l fs s σ = ((0 ≤ i ∧ i < n) ∧ GoO E N Q l fs (s.put d (.ptr b sz (j + i.toNat) 0)) σ) := by simp [Go2, aOp, Slots.ev]
theorem go_aadr (n sz : Nat) (x i : AOpd) : GoO E N Q (⟨d, .aadr n sz x i, none⟩ :: l) fs s σ = Go2 E N Q (.aadr n sz (.t 0) (.t 1)) (s.ev x) (s.ev i) d l fs s σ := rfl
theorem go2_aadr (n sz b sz' j off : Nat) (k : IntKind) (i : Int) : Go2 E N Q (.aadr n sz (.t 0) (.t 1)) (.ptr b sz' j off) (.int k i) d l fs s σ = ((0 ≤ i ∧ i < n) ∧ GoO E N Q l fs (s.put d (.ptr b sz' j (off + i.toNat * sz))) σ) := rfl
theorem go_idxs (x i : AOpd) : GoO E N Q (⟨d, .idxs x i, none⟩ :: l) fs s σ = Go2 E N Q (.idxs (.t 0) (.t 1)) (s.ev x) (s.ev i) d l fs s σ := rfl
def GoByte (E : Env) (N : Nat) (Q : Exit → Slots → Hp → Prop) (v : Option UInt8) (d : Option Nat) (l : List AOper) (fs : List Fr) (s : Slots) (σ : Hp) : Prop :=
  match v with
  | some c => GoO E N Q l fs (s.put d (.int .u8 c.toNat)) σ
  | none => False
theorem go2_idxs (xs : List UInt8) (k : IntKind) (n : Int) : Go2 E N Q (.idxs (.t 0) (.t 1)) (.str xs) (.int k n) d l fs s σ = GoByte E N Q (if 0 ≤ n then xs[n.toNat]? else none) d l fs s σ := by by_cases h : 0 ≤ n <;> simp [Go2, aOp, Slots.ev, GoByte, h] <;> cases xs[n.toNat]? <;> simp
theorem go_byte_some (c : UInt8) : GoByte E N Q (some c) d l fs s σ = GoO E N Q l fs (s.put d (.int .u8 c.toNat)) σ := rfl
theorem go_idxa (n : Nat) (ag : Bool) (sz : Nat) (x i : AOpd) : GoO E N Q (⟨d, .idxa n ag sz x i, none⟩ :: l) fs s σ = Go2 E N Q (.idxa n ag sz (.t 0) (.t 1)) (s.ev x) (s.ev i) d l fs s σ := rfl
theorem go2_idxa (n : Nat) (ag : Bool) (sz : Nat) (cs : List AV) (k : IntKind) (i : Int) : Go2 E N Q (.idxa n ag sz (.t 0) (.t 1)) (.agg cs) (.int k i) d l fs s σ = ((0 ≤ i ∧ i < n) ∧ GoPart E N Q (part ag sz cs (i.toNat * sz)) d l fs s σ) := rfl
theorem go_fld (off : Nat) (ag : Bool) (n : Nat) (x : AOpd) : GoO E N Q (⟨d, .fld off ag n x, none⟩ :: l) fs s σ = Go1 E N Q (.fld off ag n (.t 0)) (s.ev x) d l fs s σ := rfl
theorem go1_fld (off : Nat) (ag : Bool) (n : Nat) (cs : List AV) : Go1 E N Q (.fld off ag n (.t 0)) (.agg cs) d l fs s σ = GoPart E N Q (part ag n cs off) d l fs s σ := rfl
def GoSlc (E : Env) (N : Nat) (Q : Exit → Slots → Hp → Prop) (sz : Nat) (x : AV) (lo hi : Option AV) (d : Option Nat) (l : List AOper) (fs : List Fr) (s : Slots) (σ : Hp) : Prop :=
  aOp E (fun t => match t with | 0 => x | 1 => lo.getD .any | _ => hi.getD .any) σ (.slc sz (.t 0) (lo.map fun _ => .t 1) (hi.map fun _ => .t 2) none) fun v σ' => GoO E N Q l fs (s.put d v) σ'
def GoSlcs (E : Env) (N : Nat) (Q : Exit → Slots → Hp → Prop) (x : AV) (lo hi : Option AV) (d : Option Nat) (l : List AOper) (fs : List Fr) (s : Slots) (σ : Hp) : Prop :=
  aOp E (fun t => match t with | 0 => x | 1 => lo.getD .any | _ => hi.getD .any) σ (.slcs (.t 0) (lo.map fun _ => .t 1) (hi.map fun _ => .t 2)) fun v σ' => GoO E N Q l fs (s.put d v) σ'
theorem go_slc (sz : Nat) (x : AOpd) (lo hi : Option AOpd) : GoO E N Q (⟨d, .slc sz x lo hi none, none⟩ :: l) fs s σ = GoSlc E N Q sz (s.ev x) (lo.map s.ev) (hi.map s.ev) d l fs s σ := by cases lo <;> cases hi <;> rfl
theorem go_slc_rd_ff (sz : Nat) (xs : List AV) (kl : IntKind) (a : Int) (kh : IntKind) (b : Int)  : GoSlc E N Q sz (.rd sz xs) (some (.int kl a)) (some (.int kh b)) d l fs s σ = ((0 ≤ a ∧ a ≤ b ∧ b ≤ xs.length) ∧ GoO E N Q l fs (s.put d (.rd sz ((xs.drop (a : Int).toNat).take ((b : Int).toNat - (a : Int).toNat)))) σ) := by simp [GoSlc, aOp, Slots.ev]
theorem go_slc_own_ff (sz b' i n : Nat) (kl : IntKind) (a : Int) (kh : IntKind) (b : Int)  : GoSlc E N Q sz (.own b' sz i n) (some (.int kl a)) (some (.int kh b)) d l fs s σ = (∃ els, σ b' = some (.row sz els) ∧ (0 < sz ∧ 0 ≤ a ∧ a ≤ b ∧ i + b ≤ els.length) ∧ GoO E N Q l fs (s.put d (.own b' sz (i + (a : Int).toNat) ((b : Int).toNat - (a : Int).toNat))) σ) := by simp [GoSlc, aOp, Slots.ev]
theorem go_slc_nils_ff (sz : Nat) (kl : IntKind) (a : Int) (kh : IntKind) (b : Int)  : GoSlc E N Q sz .nils (some (.int kl a)) (some (.int kh b)) d l fs s σ = (((a : Int) = 0 ∧ (b : Int) = 0) ∧ GoO E N Q l fs (s.put d .nils) σ) := by simp [GoSlc, aOp, Slots.ev]
theorem go_slcs_ff (xs : List UInt8) (kl : IntKind) (a : Int) (kh : IntKind) (b : Int)  : GoSlcs E N Q (.str xs) (some (.int kl a)) (some (.int kh b)) d l fs s σ = ((0 ≤ a ∧ a ≤ b ∧ b ≤ xs.length) ∧ GoO E N Q l fs (s.put d (.str ((xs.drop (a : Int).toNat).take ((b : Int).toNat - (a : Int).toNat)))) σ) := by simp [GoSlcs, aOp, Slots.ev]
theorem go_slc_rd_fn (sz : Nat) (xs : List AV) (kl : IntKind) (a : Int)  : GoSlc E N Q sz (.rd sz xs) (some (.int kl a)) none d l fs s σ = ((0 ≤ a ∧ a ≤ (xs.length : Int) ∧ (xs.length : Int) ≤ xs.length) ∧ GoO E N Q l fs (s.put d (.rd sz ((xs.drop (a : Int).toNat).take (((xs.length : Int) : Int).toNat - (a : Int).toNat)))) σ) := by simp [GoSlc, aOp, Slots.ev]
theorem go_slc_own_fn (sz b' i n : Nat) (kl : IntKind) (a : Int)  : GoSlc E N Q sz (.own b' sz i n) (some (.int kl a)) none d l fs s σ = (∃ els, σ b' = some (.row sz els) ∧ (0 < sz ∧ 0 ≤ a ∧ a ≤ (n : Int) ∧ i + (n : Int) ≤ els.length) ∧ GoO E N Q l fs (s.put d (.own b' sz (i + (a : Int).toNat) (((n : Int) : Int).toNat - (a : Int).toNat))) σ) := by simp [GoSlc, aOp, Slots.ev]
theorem go_slc_nils_fn (sz : Nat) (kl : IntKind) (a : Int)  : GoSlc E N Q sz .nils (some (.int kl a)) none d l fs s σ = (((a : Int) = 0 ∧ (0 : Int) = 0) ∧ GoO E N Q l fs (s.put d .nils) σ) := by simp [GoSlc, aOp, Slots.ev]
theorem go_slcs_fn (xs : List UInt8) (kl : IntKind) (a : Int)  : GoSlcs E N Q (.str xs) (some (.int kl a)) none d l fs s σ = ((0 ≤ a ∧ a ≤ (xs.length : Int) ∧ (xs.length : Int) ≤ xs.length) ∧ GoO E N Q l fs (s.put d (.str ((xs.drop (a : Int).toNat).take (((xs.length : Int) : Int).toNat - (a : Int).toNat)))) σ) := by simp [GoSlcs, aOp, Slots.ev]
theorem go_slc_rd_nf (sz : Nat) (xs : List AV) (kh : IntKind) (b : Int)  : GoSlc E N Q sz (.rd sz xs) none (some (.int kh b)) d l fs s σ = ((0 ≤ 0 ∧ 0 ≤ b ∧ b ≤ xs.length) ∧ GoO E N Q l fs (s.put d (.rd sz ((xs.drop (0 : Int).toNat).take ((b : Int).toNat - (0 : Int).toNat)))) σ) := by simp [GoSlc, aOp, Slots.ev]
theorem go_slc_own_nf (sz b' i n : Nat) (kh : IntKind) (b : Int)  : GoSlc E N Q sz (.own b' sz i n) none (some (.int kh b)) d l fs s σ = (∃ els, σ b' = some (.row sz els) ∧ (0 < sz ∧ 0 ≤ 0 ∧ 0 ≤ b ∧ i + b ≤ els.length) ∧ GoO E N Q l fs (s.put d (.own b' sz (i + (0 : Int).toNat) ((b : Int).toNat - (0 : Int).toNat))) σ) := by simp [GoSlc, aOp, Slots.ev]
theorem go_slc_nils_nf (sz : Nat) (kh : IntKind) (b : Int)  : GoSlc E N Q sz .nils none (some (.int kh b)) d l fs s σ = (((0 : Int) = 0 ∧ (b : Int) = 0) ∧ GoO E N Q l fs (s.put d .nils) σ) := by simp [GoSlc, aOp, Slots.ev]
theorem go_slcs_nf (xs : List UInt8) (kh : IntKind) (b : Int)  : GoSlcs E N Q (.str xs) none (some (.int kh b)) d l fs s σ = ((0 ≤ 0 ∧ 0 ≤ b ∧ b ≤ xs.length) ∧ GoO E N Q l fs (s.put d (.str ((xs.drop (0 : Int).toNat).take ((b : Int).toNat - (0 : Int).toNat)))) σ) := by simp [GoSlcs, aOp, Slots.ev]
theorem go_slc_rd_nn (sz : Nat) (xs : List AV)  : GoSlc E N Q sz (.rd sz xs) none none d l fs s σ = ((0 ≤ 0 ∧ 0 ≤ (xs.length : Int) ∧ (xs.length : Int) ≤ xs.length) ∧ GoO E N Q l fs (s.put d (.rd sz ((xs.drop (0 : Int).toNat).take (((xs.length : Int) : Int).toNat - (0 : Int).toNat)))) σ) := by simp [GoSlc, aOp, Slots.ev]
theorem go_slc_own_nn (sz b' i n : Nat)  : GoSlc E N Q sz (.own b' sz i n) none none d l fs s σ = (∃ els, σ b' = some (.row sz els) ∧ (0 < sz ∧ 0 ≤ 0 ∧ 0 ≤ (n : Int) ∧ i + (n : Int) ≤ els.length) ∧ GoO E N Q l fs (s.put d (.own b' sz (i + (0 : Int).toNat) (((n : Int) : Int).toNat - (0 : Int).toNat))) σ) := by simp [GoSlc, aOp, Slots.ev]
theorem go_slc_nils_nn (sz : Nat)  : GoSlc E N Q sz .nils none none d l fs s σ = (((0 : Int) = 0 ∧ (0 : Int) = 0) ∧ GoO E N Q l fs (s.put d .nils) σ) := by simp [GoSlc, aOp, Slots.ev]
theorem go_slcs_nn (xs : List UInt8)  : GoSlcs E N Q (.str xs) none none d l fs s σ = ((0 ≤ 0 ∧ 0 ≤ (xs.length : Int) ∧ (xs.length : Int) ≤ xs.length) ∧ GoO E N Q l fs (s.put d (.str ((xs.drop (0 : Int).toNat).take (((xs.length : Int) : Int).toNat - (0 : Int).toNat)))) σ) := by simp [GoSlcs, aOp, Slots.ev]
theorem go_slcs (x : AOpd) (lo hi : Option AOpd) : GoO E N Q (⟨d, .slcs x lo hi, none⟩ :: l) fs s σ = GoSlcs E N Q (s.ev x) (lo.map s.ev) (hi.map s.ev) d l fs s σ := by cases lo <;> cases hi <;> rfl
-- PART2
def GoLd2 (E : Env) (N : Nat) (Q : Exit → Slots → Hp → Prop) (x : Option AV) (ag : Bool) (n off : Nat) (d : Option Nat) (l : List AOper) (fs : List Fr) (s : Slots) (σ : Hp) : Prop :=
  match x with
  | some x => GoPart E N Q (part ag n x.cells off) d l fs s σ
  | none => False
def GoLd (E : Env) (N : Nat) (Q : Exit → Slots → Hp → Prop) (r : Option ABlk) (ag : Bool) (n sz j off : Nat) (d : Option Nat) (l : List AOper) (fs : List Fr) (s : Slots) (σ : Hp) : Prop :=
  match r with
  | some (.row sz' els) => sz' = sz ∧ GoLd2 E N Q els[j]? ag n off d l fs s σ
  | _ => False
theorem go1_load_ptr (ag : Bool) (n b sz j off : Nat) : Go1 E N Q (.load ag n (.t 0)) (.ptr b sz j off) d l fs s σ = GoLd E N Q (σ b) ag n sz j off d l fs s σ := by
  simp only [Go1, aOp, Slots.ev, GoLd]
  cases h : σ b with
  | none => simp
  | some r => cases r with
    | amap => simp
    | row sz' els => 
      simp only [GoLd2]
      cases els[j]? with
      | none => simp
      | some x => simp only [Option.some.injEq, exists_eq_left', GoPart]; rfl
theorem go_ld_row (ag : Bool) (n sz j off : Nat) (els : List AV) : GoLd E N Q (some (.row sz els)) ag n sz j off d l fs s σ = GoLd2 E N Q els[j]? ag n off d l fs s σ := by
  simp [GoLd]
theorem go_ld2_some (ag : Bool) (n off : Nat) (x : AV) : GoLd2 E N Q (some x) ag n off d l fs s σ = GoPart E N Q (part ag n x.cells off) d l fs s σ := rfl
def GoGl (E : Env) (N : Nat) (Q : Exit → Slots → Hp → Prop) (t : Option TypeId) (g : Nat) (d : Option Nat) (l : List AOper) (fs : List Fr) (s : Slots) (σ : Hp) : Prop :=
  match t with
  | some t => GoO E N Q l fs (s.put d (.iface t (.sptr g))) σ
  | none => False
theorem go1_load_gptr (n g : Nat) : Go1 E N Q (.load false n (.t 0)) (.gptr g) d l fs s σ = GoGl E N Q (E.G g) g d l fs s σ := by
  simp only [Go1, aOp, Slots.ev, GoGl]; cases E.G g <;> simp
theorem go_gl_some (t : TypeId) (g : Nat) : GoGl E N Q (some t) g d l fs s σ = GoO E N Q l fs (s.put d (.iface t (.sptr g))) σ := rfl
theorem go_store (n : Nat) (a v : AOpd) : GoO E N Q (⟨d, .store n a v, none⟩ :: l) fs s σ = Go2 E N Q (.store n (.t 0) (.t 1)) (s.ev a) (s.ev v) d l fs s σ := rfl
def GoSt2 (E : Env) (N : Nat) (Q : Exit → Slots → Hp → Prop) (x : Option AV) (n b sz j off : Nat) (v : AV) (els : List AV) (d : Option Nat) (l : List AOper) (fs : List Fr) (s : Slots) (σ : Hp) : Prop :=
  match x with
  | some x => (v.cells.length = n ∧ (∀ y ∈ v.cells, y.scalar = true) ∧ off + n ≤ x.cells.length) ∧ GoO E N Q l fs (s.put d .any) (σ.upd b (.row sz (els.set j (x.splice off v.cells))))
  | none => False
def GoSt (E : Env) (N : Nat) (Q : Exit → Slots → Hp → Prop) (r : Option ABlk) (n b sz j off : Nat) (v : AV) (d : Option Nat) (l : List AOper) (fs : List Fr) (s : Slots) (σ : Hp) : Prop :=
  match r with
  | some (.row sz' els) => sz' = sz ∧ GoSt2 E N Q els[j]? n b sz j off v els d l fs s σ
  | _ => False
theorem go2_store (n b sz j off : Nat) (v : AV) : Go2 E N Q (.store n (.t 0) (.t 1)) (.ptr b sz j off) v d l fs s σ = GoSt E N Q (σ b) n b sz j off v d l fs s σ := by
  simp only [Go2, aOp, Slots.ev, GoSt]
  cases h : σ b with
  | none => simp
  | some r => cases r with
    | amap => simp
    | row sz' els => 
      simp only [GoSt2]
      cases els[j]? with
      | none => simp
      | some x => simp only [Option.some.injEq, exists_eq_left', eq_iff_iff]; constructor <;> (intro h; simp_all)
theorem go_st_row (n b sz j off : Nat) (v : AV) (els : List AV) : GoSt E N Q (some (.row sz els)) n b sz j off v d l fs s σ = GoSt2 E N Q els[j]? n b sz j off v els d l fs s σ := by
  simp [GoSt]
theorem go_st2_some (n b sz j off : Nat) (v x : AV) (els : List AV) : GoSt2 E N Q (some x) n b sz j off v els d l fs s σ = ((v.cells.length = n ∧ (∀ y ∈ v.cells, y.scalar = true) ∧ off + n ≤ x.cells.length) ∧ GoO E N Q l fs (s.put d .any) (σ.upd b (.row sz (els.set j (x.splice off v.cells))))) := rfl
theorem go_alloc (sz : Nat) (z : AV) : GoO E N Q (⟨d, .alloc sz z, none⟩ :: l) fs s σ = (∀ b, σ b = none → GoO E N Q l fs (s.put d (.ptr b sz 0 0)) (σ.upd b (.row sz [z]))) := rfl
theorem go_box (sz : Nat) (x : AOpd) : GoO E N Q (⟨d, .box sz x, none⟩ :: l) fs s σ = ((s.ev x).cells.length = sz ∧ (s.ev x).known = true ∧ ∀ b, σ b = none → GoO E N Q l fs (s.put d (.ptr b sz 0 0)) (σ.upd b (.row sz [s.ev x]))) := rfl
theorem go_boxf (sz : Nat) (x : AOpd) : GoO E N Q (⟨d, .boxf sz x, none⟩ :: l) fs s σ = ((s.ev x).cells.length = sz ∧ (s.ev x).known = true ∧ GoO E N Q l fs (s.put d (.re (s.ev x) 0)) σ) := rfl
theorem go_build (z : List AV) (ps : List (Nat × Nat × AOpd)) : GoO E N Q (⟨d, .build z ps, none⟩ :: l) fs s σ = (partsOk z.length (ps.map fun p => (p.1, p.2.1, s.ev p.2.2)) = true ∧ GoO E N Q l fs (s.put d (.agg (fillA z (ps.map fun p => (p.1, (s.ev p.2.2).cells))))) σ) := rfl
theorem go_bslice0 (sz : Nat) (ag : Bool) (z : List AV) (ps : List (Nat × AOpd)) : GoO E N Q (⟨d, .bslice sz ag z 0 ps, none⟩ :: l) fs s σ = GoO E N Q l fs (s.put d .nils) σ := rfl
def GoBsl (E : Env) (N : Nat) (Q : Exit → Slots → Hp → Prop) (sz : Nat) (ag : Bool) (z : List AV) (n : Nat) (vs : List (Nat × AV)) (d : Option Nat) (l : List AOper) (fs : List Fr) (s : Slots) (σ : Hp) : Prop :=
  (partsOk ((n + 1) * sz) (vs.map fun p => (p.1 * sz, sz, p.2)) = true ∧ (ag = true ∨ sz = 1 ∧ (fillA ((List.replicate (n + 1) z).flatten) (vs.map fun p => (p.1 * sz, p.2.cells))).all AV.cell = true)) ∧
    ∀ b, σ b = none → GoO E N Q l fs (s.put d (.own b sz 0 (n + 1))) (σ.upd b (.row sz (elems ag sz (fillA ((List.replicate (n + 1) z).flatten) (vs.map fun p => (p.1 * sz, p.2.cells))) (n + 1))))
theorem go_bslice (sz : Nat) (ag : Bool) (z : List AV) (n : Nat) (ps : List (Nat × AOpd)) : GoO E N Q (⟨d, .bslice sz ag z (n + 1) ps, none⟩ :: l) fs s σ = GoBsl E N Q sz ag z n (ps.map fun p => (p.1, s.ev p.2)) d l fs s σ := by
  simp only [GoBsl, GoO, aOps, aOp, List.map_map]; rfl
/-- It is one cell, of which something is known. -/
def AV.one : AV → Bool
  | .agg _ | .any => false
  | _ => true
theorem go_bsl1 (z v : AV) (h : v.one = true) : GoBsl E N Q 1 false [z] 0 [(0, v)] d l fs s σ = ∀ b, σ b = none → GoO E N Q l fs (s.put d (.own b 1 0 1)) (σ.upd b (.row 1 [v])) := by
  have h1 : v.cells = [v] := by cases v <;> first | rfl | cases h
  have h2 : v.known = true := by cases v <;> first | rfl | cases h
  have h3 : v.cell = true := by cases v <;> first | rfl | cases h
  simp [GoBsl, partsOk, h1, h2, h3, fillA, elems, List.replicate]
theorem go_bsln (sz : Nat) (z cs : List AV) (h : cs.length = sz) (hz : z.length = sz) : GoBsl E N Q sz true z 0 [(0, .agg cs)] d l fs s σ = ∀ b, σ b = none → GoO E N Q l fs (s.put d (.own b sz 0 1)) (σ.upd b (.row sz [.agg cs])) := by
  subst h
  have hd : z.drop cs.length = [] := List.drop_of_length_le (by omega)
  simp [GoBsl, partsOk, AV.known, AV.cells, fillA, elems, List.replicate, hd]
theorem go_blit0 (sz : Nat) (ag : Bool) (z : List AV) (ps : List (Nat × AOpd)) : GoO E N Q (⟨d, .blit sz ag z 0 ps, none⟩ :: l) fs s σ = GoO E N Q l fs (s.put d .nils) σ := rfl
def GoBlit (E : Env) (N : Nat) (Q : Exit → Slots → Hp → Prop) (sz : Nat) (ag : Bool) (z : List AV) (n : Nat) (vs : List (Nat × AV)) (d : Option Nat) (l : List AOper) (fs : List Fr) (s : Slots) (σ : Hp) : Prop :=
  (partsOk ((n + 1) * sz) (vs.map fun p => (p.1 * sz, sz, p.2)) = true ∧ (ag = true ∨ sz = 1 ∧ (fillA ((List.replicate (n + 1) z).flatten) (vs.map fun p => (p.1 * sz, p.2.cells))).all AV.cell = true)) ∧
    GoO E N Q l fs (s.put d (.rd sz (elems ag sz (fillA ((List.replicate (n + 1) z).flatten) (vs.map fun p => (p.1 * sz, p.2.cells))) (n + 1)))) σ
theorem go_blit (sz : Nat) (ag : Bool) (z : List AV) (n : Nat) (ps : List (Nat × AOpd)) : GoO E N Q (⟨d, .blit sz ag z (n + 1) ps, none⟩ :: l) fs s σ = GoBlit E N Q sz ag z n (ps.map fun p => (p.1, s.ev p.2)) d l fs s σ := by
  simp only [GoBlit, GoO, aOps, aOp, List.map_map]; rfl
theorem go_blit1 (z v : AV) (h : v.one = true) : GoBlit E N Q 1 false [z] 0 [(0, v)] d l fs s σ = GoO E N Q l fs (s.put d (.rd 1 [v])) σ := by
  have h1 : v.cells = [v] := by cases v <;> first | rfl | cases h
  have h2 : v.known = true := by cases v <;> first | rfl | cases h
  have h3 : v.cell = true := by cases v <;> first | rfl | cases h
  simp [GoBlit, partsOk, h1, h2, h3, fillA, elems, List.replicate]
theorem go_blitn (sz : Nat) (z cs : List AV) (h : cs.length = sz) (hz : z.length = sz) : GoBlit E N Q sz true z 0 [(0, .agg cs)] d l fs s σ = GoO E N Q l fs (s.put d (.rd sz [.agg cs])) σ := by
  subst h
  have hd : z.drop cs.length = [] := List.drop_of_length_le (by omega)
  simp [GoBlit, partsOk, AV.known, AV.cells, fillA, elems, List.replicate, hd]
theorem go_mksl (sz bytes : Nat) (z : AV) (x c : AOpd) : GoO E N Q (⟨d, .mksl sz bytes z x c, none⟩ :: l) fs s σ = Go2 E N Q (.mksl sz bytes z (.t 0) (.t 1)) (s.ev x) (s.ev c) d l fs s σ := rfl
theorem go2_mksl (sz bytes : Nat) (z : AV) (k k' : IntKind) (n c : Int) : Go2 E N Q (.mksl sz bytes z (.t 0) (.t 1)) (.int k n) (.int k' c) d l fs s σ = ((0 ≤ n ∧ n ≤ c ∧ c * bytes ≤ 140737488355328 ∧ c ≤ 140737488355328) ∧ ∀ b, σ b = none → GoO E N Q l fs (s.put d (.own b sz 0 n.toNat)) (σ.upd b (.row sz (List.replicate n.toNat z)))) := rfl
theorem go_conv (k : IntKind) (x : AOpd) : GoO E N Q (⟨d, .conv k x, none⟩ :: l) fs s σ = Go1 E N Q (.conv k (.t 0)) (s.ev x) d l fs s σ := rfl
theorem go1_conv (k k' : IntKind) (n : Int) : Go1 E N Q (.conv k (.t 0)) (.int k' n) d l fs s σ = GoO E N Q l fs (s.put d (.int k (k.wrap n))) σ := rfl
theorem go_b2s (x : AOpd) : GoO E N Q (⟨d, .b2s x, none⟩ :: l) fs s σ = Go1 E N Q (.b2s (.t 0)) (s.ev x) d l fs s σ := rfl
def GoTxt (E : Env) (N : Nat) (Q : Exit → Slots → Hp → Prop) (v : Option (List AV)) (d : Option Nat) (l : List AOper) (fs : List Fr) (s : Slots) (σ : Hp) : Prop :=
  match v with
  | some l' => ∃ bs : List UInt8, l' = bs.map (fun b => .int .u8 b.toNat) ∧ GoO E N Q l fs (s.put d (.str bs)) σ
  | none => False
theorem go1_b2s_nils  : Go1 E N Q (.b2s (.t 0)) .nils d l fs s σ = GoO E N Q l fs (s.put d (.str [])) σ := by
  simp only [Go1, aOp, Slots.ev, view, true_and, eq_iff_iff]
  constructor
  · rintro ⟨bs, h1, h2⟩; cases bs <;> first | exact h2 | cases h1
  · exact fun h => ⟨[], rfl, h⟩
theorem go1_b2s_rd (sz : Nat) (xs : List AV) : Go1 E N Q (.b2s (.t 0)) (.rd sz xs) d l fs s σ = GoTxt E N Q (some xs) d l fs s σ := by
  simp [Go1, aOp, Slots.ev, view, GoTxt]
theorem go1_b2s_own (b sz i n : Nat) : Go1 E N Q (.b2s (.t 0)) (.own b sz i n) d l fs s σ = GoTxt E N Q (view σ (.own b sz i n)) d l fs s σ := by
  simp only [Go1, aOp, Slots.ev, GoTxt, true_and]; cases view σ (.own b sz i n) <;> rfl
theorem go_txt_some (bs : List UInt8) : GoTxt E N Q (some (bs.map fun b => .int .u8 b.toNat)) d l fs s σ = GoO E N Q l fs (s.put d (.str bs)) σ := by
  simp only [GoTxt, eq_iff_iff]
  constructor
  · rintro ⟨bs', h1, h2⟩
    have : bs = bs' := by
      have := congrArg (List.map fun a => match a with | AV.int _ n => UInt8.ofNat n.toNat | _ => 0) h1
      simpa [Function.comp_def] using this
    exact this ▸ h2
  · exact fun h => ⟨bs, rfl, h⟩
theorem go_mkif (t : TypeId) (x : AOpd) : GoO E N Q (⟨d, .mkif t x, none⟩ :: l) fs s σ = GoO E N Q l fs (s.put d (.iface t (s.ev x))) σ := rfl
theorem go_tass (t : TypeId) (z : AV) (ok : Bool) (x : AOpd) : GoO E N Q (⟨d, .tass t z ok x, none⟩ :: l) fs s σ = Go1 E N Q (.tass t z ok (.t 0)) (s.ev x) d l fs s σ := rfl
theorem go1_tass_iface (t t' : TypeId) (z v : AV) (ok : Bool) : Go1 E N Q (.tass t z ok (.t 0)) (.iface t' v) d l fs s σ = ((t' = t → GoO E N Q l fs (s.put d (.tuple [v, .bool true])) σ) ∧ (t' ≠ t → GoO E N Q l fs (s.put d (.tuple [z, .bool false])) σ)) := rfl
theorem go1_tass_nil (t : TypeId) (z : AV) (ok : Bool) : Go1 E N Q (.tass t z ok (.t 0)) .nilIface d l fs s σ = GoO E N Q l fs (s.put d (.tuple [z, .bool false])) σ := rfl
theorem go_mkfn (fn : Fn) (a b : List AOpd) : GoO E N Q (⟨d, .mkfn fn a b, none⟩ :: l) fs s σ = GoO E N Q l fs (s.put d (.func fn (a.map s.ev) (b.map s.ev))) σ := rfl
theorem go_ext (i : Nat) (x : AOpd) : GoO E N Q (⟨d, .ext i x, none⟩ :: l) fs s σ = Go1 E N Q (.ext i (.t 0)) (s.ev x) d l fs s σ := rfl
theorem go1_ext (i : Nat) (vs : List AV) : Go1 E N Q (.ext i (.t 0)) (.tuple vs) d l fs s σ = GoPart E N Q vs[i]? d l fs s σ := rfl
theorem go_len (k : LK) (x : AOpd) : GoO E N Q (⟨d, .len k x, none⟩ :: l) fs s σ = Go1 E N Q (.len k (.t 0)) (s.ev x) d l fs s σ := by
  cases k <;> rfl
theorem go1_len_rd (sz : Nat) (xs : List AV) : Go1 E N Q (.len .slice (.t 0)) (.rd sz xs) d l fs s σ = GoO E N Q l fs (s.put d (.int .i64 xs.length)) σ := rfl
theorem go1_len_nils  : Go1 E N Q (.len .slice (.t 0)) .nils d l fs s σ = GoO E N Q l fs (s.put d (.int .i64 0)) σ := rfl
theorem go1_len_own (b sz i n : Nat) : Go1 E N Q (.len .slice (.t 0)) (.own b sz i n) d l fs s σ = GoO E N Q l fs (s.put d (.int .i64 n)) σ := rfl
theorem go1_len_str (xs : List UInt8) : Go1 E N Q (.len .str (.t 0)) (.str xs) d l fs s σ = GoO E N Q l fs (s.put d (.int .i64 xs.length)) σ := rfl
theorem go1_len_nilmap  : Go1 E N Q (.len .map (.t 0)) .nilmap d l fs s σ = GoO E N Q l fs (s.put d (.int .i64 0)) σ := rfl
def GoMLen (E : Env) (N : Nat) (Q : Exit → Slots → Hp → Prop) (r : Option ABlk) (d : Option Nat) (l : List AOper) (fs : List Fr) (s : Slots) (σ : Hp) : Prop :=
  match r with
  | some (.amap es) => GoO E N Q l fs (s.put d (.int .i64 es.length)) σ
  | _ => False
theorem go1_len_map (b : Nat) : Go1 E N Q (.len .map (.t 0)) (.map b) d l fs s σ = GoMLen E N Q (σ b) d l fs s σ := by
  simp only [Go1, aOp, Slots.ev, GoMLen]; rcases σ b with _ | r <;> first | rfl | (cases r <;> rfl)
theorem go_mlen (es : List (List UInt8 × AV)) : GoMLen E N Q (some (.amap es)) d l fs s σ = GoO E N Q l fs (s.put d (.int .i64 es.length)) σ := rfl
theorem go_min (x y : AOpd) : GoO E N Q (⟨d, .min x y, none⟩ :: l) fs s σ = Go2 E N Q (.min (.t 0) (.t 1)) (s.ev x) (s.ev y) d l fs s σ := rfl
theorem go2_min (k k' : IntKind) (a b : Int) : Go2 E N Q (.min (.t 0) (.t 1)) (.int k a) (.int k' b) d l fs s σ = GoO E N Q l fs (s.put d (.int k (if b < a then b else a))) σ := rfl
theorem go_max (x y : AOpd) : GoO E N Q (⟨d, .max x y, none⟩ :: l) fs s σ = Go2 E N Q (.max (.t 0) (.t 1)) (s.ev x) (s.ev y) d l fs s σ := rfl
theorem go2_max (k k' : IntKind) (a b : Int) : Go2 E N Q (.max (.t 0) (.t 1)) (.int k a) (.int k' b) d l fs s σ = GoO E N Q l fs (s.put d (.int k (if b > a then b else a))) σ := rfl
theorem go_app (sz bytes : Nat) (x y : AOpd) : GoO E N Q (⟨d, .app sz bytes x y, none⟩ :: l) fs s σ = Go2 E N Q (.app sz bytes (.t 0) (.t 1)) (s.ev x) (s.ev y) d l fs s σ := rfl
def GoApp (E : Env) (N : Nat) (Q : Exit → Slots → Hp → Prop) (sz bytes : Nat) (x : AV) (v : Option (List AV)) (d : Option Nat) (l : List AOper) (fs : List Fr) (s : Slots) (σ : Hp) : Prop :=
  match v with
  | none => False
  | some ys => (∀ y ∈ ys, y.cells.length = sz) ∧ (∀ y ∈ ys, ∀ c ∈ y.cells, c.scalar = true) ∧
    match x with
    | .nils => match ys with
      | [] => GoO E N Q l fs (s.put d .nils) σ
      | _ => ys.length * bytes ≤ 140737488355328 ∧ ∀ b, σ b = none → GoO E N Q l fs (s.put d (.own b sz 0 ys.length)) (σ.upd b (.row sz ys))
    | .own b sz' i n => match σ b with
      | some (.row sz'' els) => (sz' = sz ∧ sz'' = sz ∧ i + n ≤ els.length) ∧
        ((n + ys.length) * bytes ≤ 140737488355328 ∨ i + n + ys.length ≤ els.length) ∧
        (i + n + ys.length ≤ els.length → GoO E N Q l fs (s.put d (.own b sz i (n + ys.length))) (σ.upd b (.row sz (els.take (i + n) ++ ys ++ els.drop (i + n + ys.length))))) ∧
        (els.length < i + n + ys.length → ∀ b' i' els', (b' = b ∧ i' = i ∧ els' = els.take (i + n) ++ ys) ∨ (σ b' = none ∧ i' = 0 ∧ els' = (els.drop i).take n ++ ys) →
          GoO E N Q l fs (s.put d (.own b' sz i' (n + ys.length))) ((σ.del b).upd b' (.row sz els')) ∨ GoO E N Q l fs (s.put d (.own b' sz i' (n + ys.length))) (σ.upd b' (.row sz els')))
      | _ => False
    | _ => False
theorem go2_app (sz bytes : Nat) (x y : AV) : Go2 E N Q (.app sz bytes (.t 0) (.t 1)) x y d l fs s σ = GoApp E N Q sz bytes x (view σ y) d l fs s σ := rfl
/-- A call: see go_callI. -/
def GoCall (E : Env) (N : Nat) (Q : Exit → Slots → Hp → Prop) (f : FuncId) (args : List AV) (d : Option Nat) (l : List AOper) (fs : List Fr) (s : Slots) (σ : Hp) : Prop :=
  ACalls E f args σ fun v σ' => GoO E N Q l fs (s.put d v) σ'
def GoCallV (E : Env) (N : Nat) (Q : Exit → Slots → Hp → Prop) (f : AV) (args : List AV) (d : Option Nat) (l : List AOper) (fs : List Fr) (s : Slots) (σ : Hp) : Prop :=
  match f with
  | .func (.func f) first cap => GoCall E N Q f (first ++ args ++ cap) d l fs s σ
  | _ => False
theorem go_callI {f : FuncId} {args : List AV} (h : ACalls E f args σ fun v σ' => GoO E N Q l fs (s.put d v) σ') : GoCall E N Q f args d l fs s σ := h
theorem go_call (f : AOpd) (args : List AOpd) : GoO E N Q (⟨d, .call f args, none⟩ :: l) fs s σ = GoCallV E N Q (s.ev f) (args.map s.ev) d l fs s σ := by
  simp only [GoO, aOps, aOp]; rcases s.ev f with _ | _ | _ | _ | _ | _ | _ | _ | _ | _ | _ | _ | _ | _ | ⟨fn, a, b⟩ | _ | _ | _ | _ | _ <;> first | rfl | (cases fn <;> rfl)
theorem go_callv (f : FuncId) (a b args : List AV) : GoCallV E N Q (.func (.func f) a b) args d l fs s σ = GoCall E N Q f (a ++ args ++ b) d l fs s σ := rfl
theorem go_nilc (x : AOpd) : GoO E N Q (⟨d, .nilc x, none⟩ :: l) fs s σ = Go1 E N Q (.nilc (.t 0)) (s.ev x) d l fs s σ := rfl
theorem go1_nilc_ptr (b sz i off : Nat) : Go1 E N Q (.nilc (.t 0)) (.ptr b sz i off) d l fs s σ = GoO E N Q l fs (s.put d (.ptr b sz i off)) σ := rfl
theorem go1_nilc_re (x : AV) (off : Nat) : Go1 E N Q (.nilc (.t 0)) (.re x off) d l fs s σ = GoO E N Q l fs (s.put d (.re x off)) σ := rfl
theorem go1_nilc_func (f : FuncId) (a b : List AV) : Go1 E N Q (.nilc (.t 0)) (.func (.func f) a b) d l fs s σ = GoO E N Q l fs (s.put d (.func (.func f) a b)) σ := rfl
theorem go_mkmap  : GoO E N Q (⟨d, .mkmap, none⟩ :: l) fs s σ = (∀ b, σ b = none → GoO E N Q l fs (s.put d (.map b)) (σ.upd b (.amap []))) := rfl
theorem go_lkup (ok : Bool) (z : AV) (x k : AOpd) : GoO E N Q (⟨d, .lkup ok z x k, none⟩ :: l) fs s σ = Go2 E N Q (.lkup ok z (.t 0) (.t 1)) (s.ev x) (s.ev k) d l fs s σ := rfl
theorem go2_lkup_nil (ok : Bool) (z : AV) (k : List UInt8) : Go2 E N Q (.lkup ok z (.t 0) (.t 1)) .nilmap (.str k) d l fs s σ = GoO E N Q l fs (s.put d (okd ok z false)) σ := rfl
def GoLk (E : Env) (N : Nat) (Q : Exit → Slots → Hp → Prop) (r : Option ABlk) (ok : Bool) (z : AV) (k : List UInt8) (d : Option Nat) (l : List AOper) (fs : List Fr) (s : Slots) (σ : Hp) : Prop :=
  match r with
  | some (.amap es) => GoO E N Q l fs (s.put d (match es.lookup k with | some v => okd ok v true | none => okd ok z false)) σ
  | _ => False
theorem go2_lkup (ok : Bool) (z : AV) (b : Nat) (k : List UInt8) : Go2 E N Q (.lkup ok z (.t 0) (.t 1)) (.map b) (.str k) d l fs s σ = GoLk E N Q (σ b) ok z k d l fs s σ := by
  simp only [Go2, aOp, Slots.ev, GoLk]; rcases σ b with _ | r <;> first | rfl | (cases r <;> rfl)
theorem go_lk (ok : Bool) (z : AV) (k : List UInt8) (es : List (List UInt8 × AV)) : GoLk E N Q (some (.amap es)) ok z k d l fs s σ = GoO E N Q l fs (s.put d (match es.lookup k with | some v => okd ok v true | none => okd ok z false)) σ := rfl
def GoMu (E : Env) (N : Nat) (Q : Exit → Slots → Hp → Prop) (r : Option ABlk) (b : Nat) (k : List UInt8) (v : AV) (d : Option Nat) (l : List AOper) (fs : List Fr) (s : Slots) (σ : Hp) : Prop :=
  match r with
  | some (.amap es) => GoO E N Q l fs (s.put d .any) (σ.upd b (.amap (if (es.lookup k).isSome then es.map (fun e => if e.1 == k then (k, v) else e) else es ++ [(k, v)])))
  | _ => False
theorem go_mupd (m k : AOpd) (v : AOpd) : GoO E N Q (⟨d, .mupd m k v, none⟩ :: l) fs s σ = Go2 E N Q (.mupd (.t 0) (.t 1) (.c (s.ev v))) (s.ev m) (s.ev k) d l fs s σ := rfl
theorem go2_mupd (b : Nat) (k : List UInt8) (v : AV) : Go2 E N Q (.mupd (.t 0) (.t 1) (.c v)) (.map b) (.str k) d l fs s σ = GoMu E N Q (σ b) b k v d l fs s σ := by
  simp only [Go2, aOp, Slots.ev, GoMu]; rcases σ b with _ | r <;> first | rfl | (cases r <;> rfl)
theorem go_mu (b : Nat) (k : List UInt8) (v : AV) (es : List (List UInt8 × AV)) : GoMu E N Q (some (.amap es)) b k v d l fs s σ = GoO E N Q l fs (s.put d .any) (σ.upd b (.amap (if (es.lookup k).isSome then es.map (fun e => if e.1 == k then (k, v) else e) else es ++ [(k, v)]))) := rfl
def GoMd (E : Env) (N : Nat) (Q : Exit → Slots → Hp → Prop) (r : Option ABlk) (b : Nat) (k : List UInt8) (d : Option Nat) (l : List AOper) (fs : List Fr) (s : Slots) (σ : Hp) : Prop :=
  match r with
  | some (.amap es) => GoO E N Q l fs (s.put d .any) (σ.upd b (.amap (es.filter fun e => e.1 != k)))
  | _ => False
theorem go_mdel (m k : AOpd) : GoO E N Q (⟨d, .mdel m k, none⟩ :: l) fs s σ = Go2 E N Q (.mdel (.t 0) (.t 1)) (s.ev m) (s.ev k) d l fs s σ := rfl
theorem go2_mdel (b : Nat) (k : List UInt8) : Go2 E N Q (.mdel (.t 0) (.t 1)) (.map b) (.str k) d l fs s σ = GoMd E N Q (σ b) b k d l fs s σ := by
  simp only [Go2, aOp, Slots.ev, GoMd]; rcases σ b with _ | r <;> first | rfl | (cases r <;> rfl)
theorem go_md (b : Nat) (k : List UInt8) (es : List (List UInt8 × AV)) : GoMd E N Q (some (.amap es)) b k d l fs s σ = GoO E N Q l fs (s.put d .any) (σ.upd b (.amap (es.filter fun e => e.1 != k))) := rfl
theorem put_some (d : Nat) (v : AV) : s.put (some d) v = s.set d v := rfl
theorem put_none (v : AV) : s.put none v = s := rfl
theorem ev_t (n : Nat) : s.ev (.t n) = s n := rfl
theorem ev_c (v : AV) : s.ev (.c v) = v := rfl
theorem set_at (d t : Nat) (v : AV) : s.set d v t = if t = d then v else s t := rfl
theorem init_at (l : List AV) (t : Nat) : Slots.init l t = l.getD t .any := rfl
theorem hav_at (W : Wr) (t : Nat) : s.hav W t = if W.has t = true then .any else s t := rfl
theorem sets_cons (d : Nat) (v : AV) (ds : List Nat) (vs : List AV) : s.sets (d :: ds) (v :: vs) = (s.set d v).sets ds vs := rfl
theorem sets_nil (vs : List AV) : s.sets [] vs = s := by cases vs <;> rfl
theorem upd_at (b i : Nat) (x : ABlk) : σ.upd b x i = if i = b then some x else σ i := rfl
theorem del_at (b i : Nat) : σ.del b i = if i = b then none else σ i := rfl
theorem i64_id (n : Int) (h1 : -9223372036854775808 ≤ n) (h2 : n ≤ 9223372036854775807) : IntKind.i64.wrap n = n := IntWalk.i64_in n ⟨h1, h2⟩

end
end Pat
end Go.Proofs.YthmcfphafofheaaDoor
