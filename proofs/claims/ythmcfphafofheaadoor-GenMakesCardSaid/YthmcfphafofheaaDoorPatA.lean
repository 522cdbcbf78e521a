/- The abstract machine: its values, heaps, code and evaluation. No statement of the seat is proved in this file. -/
import Derived.Calls
import Derived.Laws.Sem
namespace Go.Proofs.YthmcfphafofheaaDoor
namespace Pat
set_option linter.unusedVariables false

/-- An abstract value. -/
inductive AV where
  | any
  | bool (b : Bool)
  | int (k : IntKind) (n : Int)
  | str (s : List UInt8)
  | nilp
  | ptr (b sz i off : Nat)
  | re (x : AV) (off : Nat)
  | gptr (g : Nat)
  | sptr (g : Nat)
  | nils
  | rd (sz : Nat) (xs : List AV)
  | own (b sz i n : Nat)
  | nilmap
  | map (b : Nat)
  | func (fn : Fn) (first captured : List AV)
  | nilFunc
  | nilIface
  | iface (t : TypeId) (v : AV)
  | agg (cs : List AV)
  | tuple (vs : List AV)
  deriving Inhabited, Repr

def AV.cells : AV → List AV
  | .agg cs => cs
  | v => [v]
/-- A value of one cell, of which something is known. -/
def AV.scalar : AV → Bool
  | .agg _ | .tuple _ | .any => false
  | _ => true
def AV.known : AV → Bool
  | .any => false
  | _ => true
/-- It can be one cell. -/
def AV.cell : AV → Bool
  | .agg _ => false
  | _ => true
/-- The value with some of its cells replaced. -/
def AV.splice (x : AV) (off : Nat) (cs : List AV) : AV :=
  match x with
  | .agg as => .agg (as.take off ++ cs ++ as.drop (off + cs.length))
  | _ => match cs with | [c] => c | _ => .any

def AV.ofScalar : Value → AV
  | .bool b => .bool b
  | .int k n => .int k n
  | .string s => .str s.data.toList
  | .pointer none => .nilp
  | .slice _ 0 0 => .nils
  | .map none => .nilmap
  | .nilFunc => .nilFunc
  | .nilIface => .nilIface
  | _ => .any
def AV.ofValue : Value → AV
  | .agg cs => .agg (cs.toList.map AV.ofScalar)
  | .tuple cs => .tuple (cs.toList.map AV.ofScalar)
  | v => AV.ofScalar v

inductive ABlk where
  | row (sz : Nat) (els : List AV)
  | amap (es : List (List UInt8 × AV))

/-- An abstract heap: the blocks that are owned. -/
abbrev Hp := Nat → Option ABlk
def Hp.upd (σ : Hp) (b : Nat) (x : ABlk) : Hp := fun i => if i = b then some x else σ i
def Hp.del (σ : Hp) (b : Nat) : Hp := fun i => if i = b then none else σ i

/-- The values of a frame's temporaries. -/
abbrev Slots := Nat → AV
def Slots.set (s : Slots) (d : Nat) (v : AV) : Slots := fun t => if t = d then v else s t
def Slots.put (s : Slots) (d : Option Nat) (v : AV) : Slots :=
  match d with
  | some d => s.set d v
  | none => s
def Slots.init (l : List AV) : Slots := fun t => l.getD t .any
/-- All that a piece of code may write is forgotten. -/
structure Wr where
  lo : Nat
  hi : Nat
  l : List Nat
  deriving Repr
def Wr.has (W : Wr) (t : Nat) : Bool := (Nat.ble W.lo t && Nat.blt t W.hi) || W.l.contains t
def Slots.hav (s : Slots) (W : Wr) : Slots := fun t => if W.has t = true then .any else s t
def Slots.sets (s : Slots) : List Nat → List AV → Slots
  | d :: ds, v :: vs => (s.set d v).sets ds vs
  | _, _ => s

/-- The environment: the program; which globals hold sentinels (of which type); where the sentinels lie. -/
structure Env where
  P : Program
  G : Nat → Option TypeId
  A : Nat → Addr
  ok : ∀ g t, G g = some t → ∃ i e j, P.info? t = some i ∧ i.comparable = true ∧ P.underlying t = some (.pointer e) ∧ P.info? e = some j ∧ j.size ≠ 0

/-! The code, with all that hangs on types worked out -/
inductive AOpd where
  | t (n : Nat)
  | c (v : AV)
  deriving Inhabited, Repr
deriving instance Repr for BinOp
inductive LK where
  | str | slice | map
  deriving Inhabited, Repr
inductive FK where
  | i | s | b
  deriving Inhabited, Repr
inductive EqK where
  | bool | str | ptr | iface (lit : Bool) | func
  deriving Inhabited, Repr
inductive AOp where
  | mov (x : AOpd)
  | pick (c a b : AOpd)
  | load (ag : Bool) (n : Nat) (a : AOpd)
  | store (n : Nat) (a v : AOpd)
  | bin (op : BinOp) (x y : AOpd)
  | eq (k : EqK) (neg : Bool) (x y : AOpd)
  | eqst (ks : List FK) (neg : Bool) (x y : AOpd)
  | isnil (neg : Bool) (x : AOpd)
  | not (x : AOpd)
  | neg (x : AOpd)
  | fadr (off : Nat) (x : AOpd)
  | iadr (sz : Nat) (x i : AOpd)
  | aadr (n sz : Nat) (x i : AOpd)
  | idxs (x i : AOpd)
  | idxa (n : Nat) (ag : Bool) (sz : Nat) (x i : AOpd)
  | fld (off : Nat) (ag : Bool) (n : Nat) (x : AOpd)
  | slc (sz : Nat) (x : AOpd) (lo hi mx : Option AOpd)
  | slcs (x : AOpd) (lo hi : Option AOpd)
  | slca (n sz : Nat) (x : AOpd)
  | alloc (sz : Nat) (zero : AV)
  | box (sz : Nat) (x : AOpd)
  | build (zero : List AV) (parts : List (Nat × Nat × AOpd))
  | bslice (sz : Nat) (ag : Bool) (zero : List AV) (n : Nat) (parts : List (Nat × AOpd))
  | blit (sz : Nat) (ag : Bool) (zero : List AV) (n : Nat) (parts : List (Nat × AOpd))
  | boxf (sz : Nat) (x : AOpd)
  | mksl (sz bytes : Nat) (zero : AV) (l c : AOpd)
  | conv (k : IntKind) (x : AOpd)
  | b2s (x : AOpd)
  | s2b (x : AOpd)
  | mkif (t : TypeId) (x : AOpd)
  | tass (t : TypeId) (zero : AV) (ok : Bool) (x : AOpd)
  | mkfn (fn : Fn) (first captured : List AOpd)
  | ext (i : Nat) (x : AOpd)
  | len (k : LK) (x : AOpd)
  | min (x y : AOpd)
  | max (x y : AOpd)
  | app (sz bytes : Nat) (x y : AOpd)
  | call (f : AOpd) (args : List AOpd)
  | nilc (x : AOpd)
  | mkmap
  | lkup (ok : Bool) (zero : AV) (x k : AOpd)
  | mupd (m k v : AOpd)
  | mdel (m k : AOpd)
  | bad
  deriving Inhabited, Repr

structure AOper where
  dst : Option Nat
  op : AOp
  guard : Option (Nat × Bool)
  deriving Inhabited, Repr

/-- Two operations may be told in two ways: what they make is owned, or is frozen at once. -/
def AOp.strip : AOp → AOp
  | .blit sz ag z n ps => .bslice sz ag z n ps
  | .boxf sz x => .box sz x
  | o => o
def AOper.strip (o : AOper) : AOper := { o with op := o.op.strip }
inductive ACode where
  | skip
  | ops (l : List AOper)
  | draw (ops : Array Oper) (l : List AOper)
  | seq (a b : ACode)
  | cond (c : AOpd) (thn els : ACode)
  | block (id : Nat) (body : ACode)
  | loop (body : ACode)
  | exit (id : Nat)
  | ret
  | mark (body : ACode)
  | bad
  deriving Inhabited

/-! From the program's code to it -/
def opd : Operand → AOpd
  | .tmp t => .t t
  | .const v => .c (AV.ofValue v)
  | .global g => .c (.gptr g)
  | .func f => .c (.func (.func f) [] [])
def opds (l : Array Operand) : List AOpd := l.toList.map opd

def isAggD : TypeDesc → Bool
  | .struct _ | .array _ _ => true
  | _ => false
def isAggV : Value → Bool
  | .agg _ => true
  | _ => false
/-- A type: has it many cells in one value? how many? -/
def lay (P : Program) (t : TypeId) : Option (Bool × Nat) :=
  match P.underlying t, P.info? t with
  | some d, some i => some (isAggD d, i.size)
  | _, _ => none
def fieldOf (P : Program) (t : TypeId) (f : Nat) : Option Field :=
  match P.underlying t with
  | some (.struct fs) => fs[f]?
  | _ => none
def elemOfSlice (P : Program) (t : TypeId) : Option TypeInfo :=
  match P.underlying t with
  | some (.slice e) => P.info? e
  | _ => none
/-- A struct whose fields are one cell each, of whole numbers, bools and strings: their kinds. -/
def flatKinds (P : Program) : List Field → Nat → Option (List FK)
  | [], _ => some []
  | f :: fs, k =>
    if f.offset = k ∧ f.name ≠ "_" then
      match P.underlying f.type, flatKinds P fs (k + 1) with
      | some (.int _), some l => some (.i :: l)
      | some .string, some l => some (.s :: l)
      | some .bool, some l => some (.b :: l)
      | _, _ => none
    else none
def zeroAV (i : TypeInfo) : AV := match i.zero with | some z => AV.ofValue z | none => .any
def partsOf (fs : Array Field) (P : Program) : List (Nat × Operand) → Option (List (Nat × Nat × AOpd))
  | [] => some []
  | (i, x) :: r =>
    match fs[i]? with
    | none => none
    | some f => match P.info? f.type, partsOf fs P r with
      | some fi, some l => some ((f.offset, fi.size, opd x) :: l)
      | _, _ => none

def compBuiltin (P : Program) (b : Builtin) (tys : Array TypeId) (args : Array Operand) : AOp :=
  match b, args.toList, tys.toList with
  | .len, [x], [t] => match P.underlying t with
    | some .string => .len .str (opd x)
    | some (.slice _) => .len .slice (opd x)
    | some (.map _ _) => .len .map (opd x)
    | _ => .bad
  | .min, [x, y], _ => .min (opd x) (opd y)
  | .max, [x, y], _ => .max (opd x) (opd y)
  | .append, [x, y], [t, u] => match elemOfSlice P t, P.underlying u with
    | some i, some (.slice _) | some i, some .string => bif Nat.blt 0 i.size && Nat.blt 0 i.bytes && i.zero.isSome && (match i.zero with | some z => z.cells.size == i.size | none => false) then .app i.size i.bytes (opd x) (opd y) else .bad
    | _, _ => .bad
  | .delete, [m, k], [t, _] => match P.underlying t with
    | some (.map kt _) => match P.underlying kt with
      | some .string => .mdel (opd m) (opd k)
      | _ => .bad
    | _ => .bad
  | _, _, _ => .bad

def isConstOpd : Operand → Bool
  | .const _ => true
  | _ => false
def nilSlice : Operand → Bool
  | .const (.slice none _ _) => true
  | _ => false

def compBin (P : Program) (op : BinOp) (t : TypeId) (x y : Operand) : AOp :=
  let e (neg : Bool) : AOp :=
    match P.underlying t with
    | some (.int _) => .bin op (opd x) (opd y)
    | some .bool => .eq .bool neg (opd x) (opd y)
    | some .string => .eq .str neg (opd x) (opd y)
    | some (.pointer e) => match P.info? e with
      | some i => if i.size = 0 then .bad else .eq .ptr neg (opd x) (opd y)
      | none => .bad
    | some (.interface _) => .eq (.iface (isConstOpd x || isConstOpd y)) neg (opd x) (opd y)
    | some (.slice _) => if nilSlice y then .isnil neg (opd x) else .bad
    | some (.struct fs) => match flatKinds P fs.toList 0 with
      | some l => if P.stoodInHeld t = true then .bad else .eqst l neg (opd x) (opd y)
      | none => .bad
    | some (.func ..) => .eq .func neg (opd x) (opd y)
    | _ => .bad
  match op with
  | .eql => e false
  | .neq => e true
  | _ => match P.underlying t with
    | some (.int _) | some .string => .bin op (opd x) (opd y)
    | _ => .bad

def compOp (P : Program) (o : Op) : AOp :=
  match o with
  | .move x | .assign x => .mov (opd x)
  | .pick c a b => .pick (opd c) (opd a) (opd b)
  | .load t a => match lay P t with | some (ag, n) => .load ag n (opd a) | none => .bad
  | .store t a v => match lay P t with | some (_, n) => bif Nat.blt 0 n then .store n (opd a) (opd v) else .bad | none => .bad
  | .binOp op t x y _ => compBin P op t x y
  | .unOp .not _ x => .not (opd x)
  | .unOp .neg _ x => .neg (opd x)
  | .fieldAddr t x f => match fieldOf P t f with
    | some f => match P.info? f.type with
      | some i => bif Nat.blt 0 i.size then .fadr f.offset (opd x) else .bad
      | none => .bad
    | none => .bad
  | .field t x f => match fieldOf P t f with
    | some f => match lay P f.type with
      | some (ag, n) => .fld f.offset ag n (opd x)
      | none => .bad
    | none => .bad
  | .indexAddr t x i => match P.underlying t with
    | some (.slice e) => match P.info? e with | some ie => .iadr ie.size (opd x) (opd i) | none => .bad
    | some (.array n e) => match P.info? e with | some ie => .aadr n ie.size (opd x) (opd i) | none => .bad
    | _ => .bad
  | .index t x i => match P.underlying t with
    | some .string => .idxs (opd x) (opd i)
    | some (.array n e) => match lay P e with | some (ag, sz) => .idxa n ag sz (opd x) (opd i) | none => .bad
    | _ => .bad
  | .slice t x lo hi mx => match P.underlying t with
    | some (.slice e) => match P.info? e with
      | some ie => .slc ie.size (opd x) (lo.map opd) (hi.map opd) (mx.map opd)
      | none => .bad
    | some .string => match mx with | none => .slcs (opd x) (lo.map opd) (hi.map opd) | some _ => .bad
    | some (.array n e) => match P.info? e, lo, hi, mx with
      | some ie, none, none, none => .slca n ie.size (opd x)
      | _, _, _, _ => .bad
    | _ => .bad
  | .alloc t => match P.info? t with
    | some i => match i.zero with | some z => .alloc z.cells.size (AV.ofValue z) | none => .bad
    | none => .bad
  | .box t x => match P.info? t with | some i => .box i.size (opd x) | none => .bad
  | .build t ps => match P.info? t, P.underlying t with
    | some i, some (.struct fs) => match i.zero, partsOf fs P ps.toList with
      | some z, some l => if fs.toList.all (fun f => (P.info? f.type).isSome) = true then .build (AV.ofValue z).cells l else .bad
      | _, _ => .bad
    | some i, some (.array _ e) => match i.zero, P.info? e with
      | some z, some ie => .build (AV.ofValue z).cells (ps.toList.map fun (j, x) => (j * ie.size, ie.size, opd x))
      | _, _ => .bad
    | _, _ => .bad
  | .buildSlice t n ps => match P.underlying t with
    | some (.slice e) => match lay P e, P.info? e with
      | some (ag, sz), some ie => match ie.zero with
        | some z => bif Nat.blt 0 sz && Nat.beq z.cells.size sz && Nat.blt (n * sz) 10000 && (ag == isAggV z) && (Nat.blt 0 n || Nat.beq ps.size 0) then .bslice sz ag (AV.ofValue z).cells n (ps.toList.map fun (j, x) => (j, opd x)) else .bad
        | none => .bad
      | _, _ => .bad
    | _ => .bad
  | .makeSlice t l c => match elemOfSlice P t with
    | some i => match i.zero with
      | some z => bif Nat.blt 0 i.size && Nat.beq z.cells.size i.size then .mksl i.size i.bytes (AV.ofValue z) (opd l) (opd c) else .bad
      | none => .bad
    | none => .bad
  | .convert src dst x => match P.underlying src, P.underlying dst with
    | some (.int _), some (.int k) => .conv k (opd x)
    | some (.slice e), some .string => match P.underlying e with | some (.int .u8) => .b2s (opd x) | _ => .bad
    | _, _ => .bad
  | .makeInterface t x => match P.underlying t with
    | some (.interface _) => .bad
    | some _ => .mkif t (opd x)
    | none => .bad
  | .typeAssert x _ t ok => match P.underlying t, P.info? t with
    | some (.interface _), _ => .bad
    | some _, some i => bif ok && i.zero.isSome then .tass t (zeroAV i) ok (opd x) else .bad
    | _, _ => .bad
  | .makeFunc fn first cap => .mkfn fn (opds first) (opds cap)
  | .extract x i => .ext i (opd x)
  | .nilCheck x => .nilc (opd x)
  | .makeMap t none => .mkmap
  | .lookup t x k ok => match P.underlying t with
    | some (.map kt e) => match P.underlying kt, P.info? e with
      | some .string, some i => match i.zero with | some _ => .lkup ok (zeroAV i) (opd x) (opd k) | none => .bad
      | _, _ => .bad
    | _ => .bad
  | .mapUpdate t m k v => match P.underlying t with
    | some (.map kt _) => match P.underlying kt with | some .string => .mupd (opd m) (opd k) (opd v) | _ => .bad
    | _ => .bad
  | .call c => match c.callee with
    | .value f => .call (opd f) (opds c.args)
    | .builtin b => compBuiltin P b c.argTypes c.args
    | _ => .bad
  | _ => .bad

/-- The temporaries that an operation reads and writes are there. -/
def fits (N : Nat) (ops : Array Oper) (o : Oper) : Bool :=
  (match o.dst with | some d => Nat.blt d N | none => true) &&
  (match o.guard with | some (j, _) => (match (ops[j]?).bind (·.dst) with | some d => Nat.blt d N | none => false) | none => true)
def compOper (P : Program) (ops : Array Oper) (o : Oper) : AOper :=
  { dst := o.dst, op := compOp P o.op, guard := o.guard.map fun (j, w) => (((ops[j]?).bind (·.dst)).getD 0, w) }
def comp (P : Program) (N : Nat) : Code → ACode
  | .skip => .skip
  | .region _ ops draw => bif ops.toList.all (fits N ops) then (bif draw then .draw ops (ops.toList.map (compOper P ops)) else .ops (ops.toList.map (compOper P ops))) else .bad
  | .seq a b => .seq (comp P N a) (comp P N b)
  | .cond c a b => .cond (opd c) (comp P N a) (comp P N b)
  | .block id c => .block id (comp P N c)
  | .loop c => .loop (comp P N c)
  | .exit id => .exit id
  | .ret => .ret
  | _ => .bad
def ACode.strip : ACode → ACode
  | .mark c => c.strip
  | .seq a b => .seq a.strip b.strip
  | .cond c a b => .cond c a.strip b.strip
  | .block id c => .block id c.strip
  | .loop c => .loop c.strip
  | .ops l => .ops (l.map AOper.strip)
  | .draw rg l => .draw rg (l.map AOper.strip)
  | c => c
/-- What a piece of code may write. -/
def AOper.wr (W : Wr) (o : AOper) : Bool := match o.dst with | some d => W.has d | none => true
def ACode.wr (W : Wr) : ACode → Bool
  | .ops l | .draw _ l => l.all (AOper.wr W)
  | .seq a b => a.wr W && b.wr W
  | .cond _ a b => a.wr W && b.wr W
  | .block _ c | .loop c | .mark c => c.wr W
  | _ => true
def ACode.wrP (T : Nat → Prop) : ACode → Prop
  | .ops l | .draw _ l => ∀ o ∈ l, ∀ d, o.dst = some d → T d
  | .seq a b => a.wrP T ∧ b.wrP T
  | .cond _ a b => a.wrP T ∧ b.wrP T
  | .block _ c | .loop c | .mark c => c.wrP T
  | _ => True
/-- What a function hands back. -/
inductive ARes where
  | t (n : Nat)
  | cell (n : Nat) (ag : Bool) (sz : Nat)
  | bad
  deriving Repr
def compRes (P : Program) : ResultVar → ARes
  | .tmp n => .t n
  | .cell n ty => match lay P ty with | some (ag, sz) => .cell n ag sz | none => .bad

/-! Evaluation -/
def okd (ok : Bool) (v : AV) (b : Bool) : AV := match ok with | true => .tuple [v, .bool b] | false => v
def negIf (neg b : Bool) : Bool := match neg with | true => !b | false => b
def Slots.ev (s : Slots) : AOpd → AV
  | .t n => s n
  | .c v => v

def part (ag : Bool) (n : Nat) (cs : List AV) (off : Nat) : Option AV :=
  match ag with
  | true => if off + n ≤ cs.length then some (.agg ((cs.drop off).take n)) else none
  | false => cs[off]?

/-- What is read as a slice. -/
def view (σ : Hp) : AV → Option (List AV)
  | .nils => some []
  | .rd _ xs => some xs
  | .own b sz i n => match σ b with
    | some (.row sz' els) => if sz' = sz ∧ i + n ≤ els.length then some ((els.drop i).take n) else none
    | _ => none
  | .str s => some (s.map fun b => .int .u8 b.toNat)
  | _ => none

def binInt (op : BinOp) (k : IntKind) (a b : Int) (K : AV → Prop) : Prop :=
  match op with
  | .add => K (.int k (k.wrap (a + b)))
  | .sub => K (.int k (k.wrap (a - b)))
  | .mul => K (.int k (k.wrap (a * b)))
  | .quo => b ≠ 0 ∧ K (.int k (k.wrap (a.tdiv b)))
  | .rem => b ≠ 0 ∧ K (.int k (a.tmod b))
  | .and => K (.int k (k.wrap (BitVec.ofInt k.bits a &&& BitVec.ofInt k.bits b).toNat))
  | .or => K (.int k (k.wrap (BitVec.ofInt k.bits a ||| BitVec.ofInt k.bits b).toNat))
  | .xor => K (.int k (k.wrap (BitVec.ofInt k.bits a ^^^ BitVec.ofInt k.bits b).toNat))
  | .eql => K (.bool (a == b))
  | .neq => K (.bool (a != b))
  | .lss => K (.bool (decide (a < b)))
  | .leq => K (.bool (decide (a ≤ b)))
  | .gtr => K (.bool (decide (a > b)))
  | .geq => K (.bool (decide (a ≥ b)))
  | _ => False
def binStr (op : BinOp) (a b : List UInt8) (K : AV → Prop) : Prop :=
  match op with
  | .add => a.length + b.length ≤ 9223372036854775807 ∧ K (.str (a ++ b))
  | .lss => K (.bool (Op.bytesLess a b))
  | .leq => K (.bool (Op.bytesLess a b || a == b))
  | .gtr => K (.bool !(Op.bytesLess a b || a == b))
  | .geq => K (.bool !Op.bytesLess a b)
  | _ => False
def aBin (op : BinOp) (x y : AV) (K : AV → Prop) : Prop :=
  match x, y with
  | .int k a, .int k' b => match op with
    | .shl => 0 ≤ b ∧ K (.int k (k.wrap (a * 2 ^ (Nat.min b.toNat k.bits))))
    | .shr => 0 ≤ b ∧ K (.int k (a.fdiv (2 ^ (Nat.min b.toNat k.bits))))
    | op => k = k' ∧ binInt op k a b K
  | .str a, .str b => binStr op a b K
  | _, _ => False
def aEq (E : Env) (k : EqK) (x y : AV) (K : Bool → Prop) : Prop :=
  match k with
  | .bool => match x, y with | .bool a, .bool b => K (a == b) | _, _ => False
  | .str => match x, y with | .str a, .str b => K (a == b) | _, _ => False
  | .ptr => match x, y with
    | .nilp, .nilp => K true
    | .nilp, .ptr .. | .ptr .., .nilp | .nilp, .re .. | .re .., .nilp => K false
    | .ptr b sz i off, .ptr b' sz' i' off' => b = b' ∧ K (i * sz + off == i' * sz' + off')
    | _, _ => False
  | .iface lit => match x, y with
    | .nilIface, .nilIface => lit = true ∧ K true
    | .nilIface, .iface .. | .iface .., .nilIface => K false
    | .iface t (.sptr g), .iface t' (.sptr g') => (E.G g = some t ∧ E.G g' = some t') ∧ K (g == g')
    | .iface t _, .iface t' _ => t ≠ t' ∧ K false
    | _, _ => False
  | .func => match x, y with
    | .nilFunc, .nilFunc => K true
    | .func .., .nilFunc | .nilFunc, .func .. => K false
    | _, _ => False
def eqCell : FK → AV → AV → Option Bool
  | .b, .bool a, .bool b => some (a == b)
  | .i, .int k a, .int k' b => if k = k' then some (a == b) else none
  | .s, .str a, .str b => some (a == b)
  | _, _, _ => none
def eqCells : List FK → List AV → List AV → Option Bool
  | [], [], [] => some true
  | k :: ks, x :: xs, y :: ys => match eqCell k x y, eqCells ks xs ys with
    | some a, some b => some (a && b)
    | _, _ => none
  | _, _, _ => none

def fillA (cells : List AV) : List (Nat × List AV) → List AV
  | [] => cells
  | (off, vs) :: r => fillA (cells.take off ++ vs ++ cells.drop (off + vs.length)) r
def partsOk (n : Nat) : List (Nat × Nat × AV) → Bool
  | [] => true
  | (off, sz, v) :: r => v.known && Nat.beq v.cells.length sz && Nat.ble (off + sz) n && partsOk n r
/-- Elements out of a row of cells. -/
def elems (ag : Bool) (sz : Nat) (cells : List AV) : Nat → List AV
  | 0 => []
  | n + 1 => (if ag then .agg (cells.take sz) else (cells.headD .any)) :: elems ag sz (cells.drop sz) n

/-- The call of a function, seen from outside: whatever world fits the abstract heap. -/
def Upon (E : Env) (HR : Hp → World → Prop) (RP : Hp → World → Value → AV → Prop) (TR : Hp → World → Hp → World → Prop)
    (σ : Hp) (w : World) (K : AV → Hp → Prop) (r : Result Next) : Prop :=
  match r with
  | .ok (.value v) w' => ∃ a σ', K a σ' ∧ HR σ' w' ∧ RP σ' w' v a ∧ TR σ w σ' w'
  | .ok .skip w' => ∃ a σ', K a σ' ∧ HR σ' w' ∧ RP σ' w' undef a ∧ TR σ w σ' w'
  | .ok (.enter f args) w' => Calls E.P f args w' fun e w'' => ∃ v a σ', e = .returned v ∧ K a σ' ∧ HR σ' w'' ∧ RP σ' w'' v a ∧ TR σ w σ' w''
  | _ => False

/-! What values and heaps an abstract one stands for -/
inductive Rep (A : Nat → Addr) (σ : Hp) (w : World) : Value → AV → Prop
  | any (v : Value) : Rep A σ w v .any
  | bool (b : Bool) : Rep A σ w (.bool b) (.bool b)
  | int (k : IntKind) (n : Int) : Rep A σ w (.int k n) (.int k n)
  | str (s : ByteArray) : Rep A σ w (.string s) (.str s.data.toList)
  | nilp : Rep A σ w (.pointer none) .nilp
  | ptr (b sz i off : Nat) : Rep A σ w (.pointer (some ⟨b, i * sz + off, none⟩)) (.ptr b sz i off)
  | re (b p off : Nat) (x : AV) (vs : Nat → Value) (hb : b < w.heap.size) (hσ : σ b = none)
      (hc : ∀ (j : Nat) (y : AV), x.cells[j]? = some y → w.cell? ⟨b, p + j, none⟩ = some (vs j))
      (hr : ∀ (j : Nat) (y : AV), x.cells[j]? = some y → Rep A σ w (vs j) y) : Rep A σ w (.pointer (some ⟨b, p + off, none⟩)) (.re x off)
  | gptr (g : Nat) : Rep A σ w (.pointer (some ⟨g, 0, none⟩)) (.gptr g)
  | sptr (g : Nat) : Rep A σ w (.pointer (some (A g))) (.sptr g)
  | nils (a : Option Addr) : Rep A σ w (.slice a 0 0) .nils
  | rd (b p sz cap : Nat) (xs : List AV) (vs : Nat → Nat → Value) (hb : b < w.heap.size) (hσ : σ b = none) (hcap : xs.length ≤ cap)
      (hs : ∀ x ∈ xs, x.cells.length = sz)
      (hc : ∀ (i : Nat) (x : AV) (j : Nat) (y : AV), xs[i]? = some x → x.cells[j]? = some y → w.cell? ⟨b, p + i * sz + j, none⟩ = some (vs i j))
      (hr : ∀ (i : Nat) (x : AV) (j : Nat) (y : AV), xs[i]? = some x → x.cells[j]? = some y → Rep A σ w (vs i j) y) : Rep A σ w (.slice (some ⟨b, p, none⟩) xs.length cap) (.rd sz xs)
  | rd0 (a : Option Addr) (cap sz : Nat) : Rep A σ w (.slice a 0 cap) (.rd sz [])
  | own (b sz i n cap : Nat) (c : Array Value) (e : TypeId) (f : Nat × Nat) (hb : w.heap[b]? = some (.cells c e f)) (hc : (i + cap) * sz = c.size) (hn : n ≤ cap) :
      Rep A σ w (.slice (some ⟨b, i * sz, none⟩) n cap) (.own b sz i n)
  | own0 (a : Option Addr) (b sz i : Nat) (c : Array Value) (e : TypeId) (f : Nat × Nat) (hb : w.heap[b]? = some (.cells c e f)) (hc : i * sz = c.size) :
      Rep A σ w (.slice a 0 0) (.own b sz i 0)
  | nilmap : Rep A σ w (.map none) .nilmap
  | map (b : Nat) : Rep A σ w (.map (some b)) (.map b)
  | func (fn : Fn) (first cap : Array Value) (af ac : List AV) (hf : first.size = af.length) (hc : cap.size = ac.length)
      (rf : ∀ (j : Nat) (x : Value) (y : AV), first[j]? = some x → af[j]? = some y → Rep A σ w x y) (rc : ∀ (j : Nat) (x : Value) (y : AV), cap[j]? = some x → ac[j]? = some y → Rep A σ w x y) :
      Rep A σ w (.func fn first cap) (.func fn af ac)
  | nilFunc : Rep A σ w .nilFunc .nilFunc
  | nilIface : Rep A σ w .nilIface .nilIface
  | iface (t : TypeId) (v : Value) (a : AV) (h : Rep A σ w v a) : Rep A σ w (.iface t v) (.iface t a)
  | agg (cs : Array Value) (as : List AV) (hl : cs.size = as.length) (h : ∀ (j : Nat) (x : Value) (y : AV), cs[j]? = some x → as[j]? = some y → Rep A σ w x y) : Rep A σ w (.agg cs) (.agg as)
  | tuple (cs : Array Value) (as : List AV) (hl : cs.size = as.length) (h : ∀ (j : Nat) (x : Value) (y : AV), cs[j]? = some x → as[j]? = some y → Rep A σ w x y) : Rep A σ w (.tuple cs) (.tuple as)

def RepL (A : Nat → Addr) (σ : Hp) (w : World) (vs : List Value) (as : List AV) : Prop :=
  vs.length = as.length ∧ ∀ (j : Nat) (x : Value) (y : AV), vs[j]? = some x → as[j]? = some y → Rep A σ w x y

def BlkRep (A : Nat → Addr) (σ : Hp) (w : World) (b : Nat) : ABlk → Prop
  | .row sz els => ∃ c e f, w.heap[b]? = some (.cells c e f) ∧ els.length * sz ≤ c.size ∧ (∀ o, o < c.size → w.frozen? ⟨b, o, none⟩ = false) ∧
      (∀ x ∈ els, x.cells.length = sz) ∧ ∀ (i : Nat) (x : AV) (j : Nat) (y : AV), els[i]? = some x → x.cells[j]? = some y → ∃ v, c[i * sz + j]? = some v ∧ Rep A σ w v y
  | .amap es => ∃ (entries : Array MapEntry) (clock : Nat), w.heap[b]? = some (.map entries clock) ∧ entries.size = es.length ∧ (es.map (·.1)).Nodup ∧
      ∀ (i : Nat) (x : MapEntry) (y : List UInt8 × AV), entries[i]? = some x → es[i]? = some y → Rep A σ w x.key (.str y.1) ∧ Rep A σ w x.val y.2

structure HRel (E : Env) (σ : Hp) (w : World) : Prop where
  blk : ∀ b x, σ b = some x → BlkRep E.A σ w b x
  glo : ∀ g t, E.G g = some t → σ g = none ∧ w.cell? ⟨g, 0, none⟩ = some (.iface t (.pointer (some (E.A g)))) ∧ σ (E.A g).block = none ∧
      ∃ c e, w.heap[(E.A g).block]? = some (.cells c e (0, 0)) ∧ 0 < c.size
  inj : ∀ g g' t t', E.G g = some t → E.G g' = some t' → g ≠ g' → E.A g ≠ E.A g'

structure Trans (σ : Hp) (w : World) (σ' : Hp) (w' : World) : Prop where
  size : w.heap.size ≤ w'.heap.size
  old : ∀ b, b < w.heap.size → σ b = none → w'.heap[b]? = w.heap[b]? ∧ σ' b = none
  shape : ∀ (b : Nat) (c : Array Value) (e : TypeId) (f : Nat × Nat), w.heap[b]? = some (.cells c e f) → ∃ (c' : Array Value) (f' : Nat × Nat), w'.heap[b]? = some (.cells c' e f') ∧ c'.size = c.size
  os : w'.os = w.os
  output : w'.output = w.output
  tape : w'.tape = w.tape

/-- A function's contract: called with such values, in such a heap, it returns, and K holds of what it returns and of the heap behind it. -/
structure ACalls (E : Env) (f : FuncId) (args : List AV) (σ : Hp) (K : AV → Hp → Prop) : Prop where
  out : ∀ (w : World) (vs : Array Value), HRel E σ w → RepL E.A σ w vs.toList args →
    Upon E (HRel E) (Rep E.A) Trans σ w K ((callFunc f vs).run E.P w)

/-! The operations -/
def aOp (E : Env) (s : Slots) (σ : Hp) (o : AOp) (K : AV → Hp → Prop) : Prop :=
  match o with
  | .mov x => K (s.ev x) σ
  | .pick c a b => match s.ev c with
    | .bool c => K (match c with | true => s.ev a | false => s.ev b) σ
    | _ => False
  | .load ag n a => match s.ev a with
    | .re x off => match part ag n x.cells off with | some v => K v σ | none => False
    | .ptr b sz j off => match σ b with
      | some (.row sz' els) => sz' = sz ∧ ∃ x, els[j]? = some x ∧ match part ag n x.cells off with | some v => K v σ | none => False
      | _ => False
    | .gptr g => match E.G g with | some t => ag = false ∧ K (.iface t (.sptr g)) σ | none => False
    | _ => False
  | .store n a v => match s.ev a with
    | .ptr b sz j off => match σ b with
      | some (.row sz' els) => (sz' = sz ∧ (s.ev v).cells.length = n ∧ (∀ y ∈ (s.ev v).cells, y.scalar = true)) ∧
        ∃ x, els[j]? = some x ∧ off + n ≤ x.cells.length ∧ K .any (σ.upd b (.row sz (els.set j (x.splice off (s.ev v).cells))))
      | _ => False
    | _ => False
  | .bin op x y => aBin op (s.ev x) (s.ev y) fun v => K v σ
  | .eq k neg x y => aEq E k (s.ev x) (s.ev y) fun b => K (.bool (negIf neg b)) σ
  | .eqst ks neg x y => match s.ev x, s.ev y with
    | .agg xs, .agg ys => match eqCells ks xs ys with
      | some b => K (.bool (negIf neg b)) σ
      | none => False
    | _, _ => False
  | .isnil neg x => match s.ev x with
    | .nils => K (.bool true) σ ∧ K (.bool false) σ
    | .rd _ xs => (xs = [] → K (.bool !neg) σ) ∧ K (.bool neg) σ
    | .own _ _ _ n => (n = 0 → K (.bool !neg) σ) ∧ K (.bool neg) σ
    | _ => False
  | .not x => match s.ev x with | .bool b => K (.bool !b) σ | _ => False
  | .neg x => match s.ev x with | .int k a => K (.int k (k.wrap (0 - a))) σ | _ => False
  | .fadr fo x => match s.ev x with
    | .ptr b sz i off => K (.ptr b sz i (off + fo)) σ
    | .re x off => K (.re x (off + fo)) σ
    | _ => False
  | .iadr sz x i => match s.ev i with
    | .int _ i => match s.ev x with
      | .rd sz' xs => (sz' = sz ∧ 0 ≤ i) ∧ ∃ x, xs[i.toNat]? = some x ∧ K (.re x 0) σ
      | .own b sz' j n => (sz' = sz ∧ 0 ≤ i ∧ i < n) ∧ K (.ptr b sz (j + i.toNat) 0) σ
      | _ => False
    | _ => False
  | .aadr n sz x i => match s.ev i with
    | .int _ i => match s.ev x with
      | .ptr b sz' j off => (0 ≤ i ∧ i < n) ∧ K (.ptr b sz' j (off + i.toNat * sz)) σ
      | _ => False
    | _ => False
  | .idxs x i => match s.ev x, s.ev i with
    | .str l, .int _ i => 0 ≤ i ∧ ∃ c, l[i.toNat]? = some c ∧ K (.int .u8 c.toNat) σ
    | _, _ => False
  | .idxa n ag sz x i => match s.ev x, s.ev i with
    | .agg cs, .int _ i => (0 ≤ i ∧ i < n) ∧ match part ag sz cs (i.toNat * sz) with | some v => K v σ | none => False
    | _, _ => False
  | .fld off ag n x => match s.ev x with
    | .agg cs => match part ag n cs off with | some v => K v σ | none => False
    | _ => False
  | .slc sz x lo hi none => match s.ev x with
    | .rd sz' xs => match (lo.map s.ev).getD (.int .i64 0), (hi.map s.ev).getD (.int .i64 xs.length) with
      | .int _ l, .int _ h => (sz' = sz ∧ 0 ≤ l ∧ l ≤ h ∧ h ≤ xs.length) ∧ K (.rd sz ((xs.drop l.toNat).take (h.toNat - l.toNat))) σ
      | _, _ => False
    | .own b sz' i n => match (lo.map s.ev).getD (.int .i64 0), (hi.map s.ev).getD (.int .i64 n) with
      | .int _ l, .int _ h => ∃ els, σ b = some (.row sz els) ∧ (sz' = sz ∧ 0 < sz ∧ 0 ≤ l ∧ l ≤ h ∧ i + h ≤ els.length) ∧ K (.own b sz (i + l.toNat) (h.toNat - l.toNat)) σ
      | _, _ => False
    | .nils => match (lo.map s.ev).getD (.int .i64 0), (hi.map s.ev).getD (.int .i64 0) with
      | .int _ l, .int _ h => (l = 0 ∧ h = 0) ∧ K .nils σ
      | _, _ => False
    | _ => False
  | .slcs x lo hi => match s.ev x with
    | .str l => match (lo.map s.ev).getD (.int .i64 0), (hi.map s.ev).getD (.int .i64 l.length) with
      | .int _ a, .int _ b => (0 ≤ a ∧ a ≤ b ∧ b ≤ l.length) ∧ K (.str ((l.drop a.toNat).take (b.toNat - a.toNat))) σ
      | _, _ => False
    | _ => False
  | .alloc sz zero => ∀ b, σ b = none → K (.ptr b sz 0 0) (σ.upd b (.row sz [zero]))
  | .box sz x => (s.ev x).cells.length = sz ∧ (s.ev x).known = true ∧ ∀ b, σ b = none → K (.ptr b sz 0 0) (σ.upd b (.row sz [s.ev x]))
  | .build zero ps => partsOk zero.length (ps.map fun (o, z, x) => (o, z, s.ev x)) = true ∧ K (.agg (fillA zero (ps.map fun (o, _, x) => (o, (s.ev x).cells)))) σ
  | .bslice sz ag zero n ps =>
    match n with
    | 0 => K .nils σ
    | n => (partsOk (n * sz) (ps.map fun (j, x) => (j * sz, sz, s.ev x)) = true ∧ (ag = true ∨ sz = 1 ∧ (fillA ((List.replicate n zero).flatten) (ps.map fun (j, x) => (j * sz, (s.ev x).cells))).all AV.cell = true)) ∧
      ∀ b, σ b = none → K (.own b sz 0 n) (σ.upd b (.row sz (elems ag sz (fillA ((List.replicate n zero).flatten) (ps.map fun (j, x) => (j * sz, (s.ev x).cells))) n)))
  | .blit sz ag zero n ps =>
    match n with
    | 0 => K .nils σ
    | n => (partsOk (n * sz) (ps.map fun (j, x) => (j * sz, sz, s.ev x)) = true ∧ (ag = true ∨ sz = 1 ∧ (fillA ((List.replicate n zero).flatten) (ps.map fun (j, x) => (j * sz, (s.ev x).cells))).all AV.cell = true)) ∧
      K (.rd sz (elems ag sz (fillA ((List.replicate n zero).flatten) (ps.map fun (j, x) => (j * sz, (s.ev x).cells))) n)) σ
  | .boxf sz x => (s.ev x).cells.length = sz ∧ (s.ev x).known = true ∧ K (.re (s.ev x) 0) σ
  | .mksl sz bytes zero l c => match s.ev l, s.ev c with
    | .int _ l, .int _ c => (0 ≤ l ∧ l ≤ c ∧ c * bytes ≤ 140737488355328 ∧ c ≤ 140737488355328) ∧ ∀ b, σ b = none → K (.own b sz 0 l.toNat) (σ.upd b (.row sz (List.replicate l.toNat zero)))
    | _, _ => False
  | .conv k x => match s.ev x with | .int _ n => K (.int k (k.wrap n)) σ | _ => False
  | .b2s x => (match s.ev x with | .str _ => False | _ => True) ∧ match view σ (s.ev x) with
    | some l => ∃ bs : List UInt8, l = bs.map (fun b => .int .u8 b.toNat) ∧ K (.str bs) σ
    | none => False
  | .mkif t x => K (.iface t (s.ev x)) σ
  | .tass t zero ok x => match s.ev x with
    | .iface t' v => (t' = t → K (.tuple [v, .bool true]) σ) ∧ (t' ≠ t → K (.tuple [zero, .bool false]) σ)
    | .nilIface => K (.tuple [zero, .bool false]) σ
    | _ => False
  | .mkfn fn first cap => K (.func fn (first.map s.ev) (cap.map s.ev)) σ
  | .ext i x => match s.ev x with
    | .tuple vs => match vs[i]? with | some v => K v σ | none => False
    | _ => False
  | .len .slice x => match s.ev x with
    | .rd _ xs => K (.int .i64 xs.length) σ
    | .nils => K (.int .i64 0) σ
    | .own _ _ _ n => K (.int .i64 n) σ
    | _ => False
  | .len .str x => match s.ev x with
    | .str l => K (.int .i64 l.length) σ
    | _ => False
  | .len .map x => match s.ev x with
    | .nilmap => K (.int .i64 0) σ
    | .map b => match σ b with
      | some (.amap es) => K (.int .i64 es.length) σ
      | _ => False
    | _ => False
  | .min x y => match s.ev x, s.ev y with
    | .int k a, .int _ b => K (.int k (if b < a then b else a)) σ
    | _, _ => False
  | .max x y => match s.ev x, s.ev y with
    | .int k a, .int _ b => K (.int k (if b > a then b else a)) σ
    | _, _ => False
  | .app sz bytes x y => match view σ (s.ev y) with
    | none => False
    | some ys => (∀ y ∈ ys, y.cells.length = sz) ∧ (∀ y ∈ ys, ∀ c ∈ y.cells, c.scalar = true) ∧
      match s.ev x with
      | .nils => match ys with
        | [] => K .nils σ
        | _ => ys.length * bytes ≤ 140737488355328 ∧ ∀ b, σ b = none → K (.own b sz 0 ys.length) (σ.upd b (.row sz ys))
      | .own b sz' i n => match σ b with
        | some (.row sz'' els) => (sz' = sz ∧ sz'' = sz ∧ i + n ≤ els.length) ∧
          ((n + ys.length) * bytes ≤ 140737488355328 ∨ i + n + ys.length ≤ els.length) ∧
          (i + n + ys.length ≤ els.length → K (.own b sz i (n + ys.length)) (σ.upd b (.row sz (els.take (i + n) ++ ys ++ els.drop (i + n + ys.length))))) ∧
          (els.length < i + n + ys.length → ∀ b' i' els', (b' = b ∧ i' = i ∧ els' = els.take (i + n) ++ ys) ∨ (σ b' = none ∧ i' = 0 ∧ els' = (els.drop i).take n ++ ys) →
            K (.own b' sz i' (n + ys.length)) ((σ.del b).upd b' (.row sz els')) ∨ K (.own b' sz i' (n + ys.length)) (σ.upd b' (.row sz els')))
        | _ => False
      | _ => False
  | .call f args => match s.ev f with
    | .func (.func f) first cap => ACalls E f (first ++ args.map s.ev ++ cap) σ K
    | _ => False
  | .nilc x => match s.ev x with
    | .ptr b sz i off => K (.ptr b sz i off) σ
    | .re x off => K (.re x off) σ
    | .func fn@(.func _) a b => K (.func fn a b) σ
    | _ => False
  | .mkmap => ∀ b, σ b = none → K (.map b) (σ.upd b (.amap []))
  | .lkup ok zero x k => match s.ev k with
    | .str k => match s.ev x with
      | .map b => match σ b with
        | some (.amap es) => K (match es.lookup k with
          | some v => okd ok v true
          | none => okd ok zero false) σ
        | _ => False
      | .nilmap => K (okd ok zero false) σ
      | _ => False
    | _ => False
  | .mupd m k v => match s.ev k, s.ev m with
    | .str k, .map b => match σ b with
      | some (.amap es) => K .any (σ.upd b (.amap (if (es.lookup k).isSome then es.map (fun e => if e.1 == k then (k, s.ev v) else e) else es ++ [(k, s.ev v)])))
      | _ => False
    | _, _ => False
  | .mdel m k => match s.ev k, s.ev m with
    | .str k, .map b => match σ b with
      | some (.amap es) => K .any (σ.upd b (.amap (es.filter fun e => e.1 != k)))
      | _ => False
    | _, _ => False
  | _ => False

def aOps (E : Env) : List AOper → Slots → Hp → (Slots → Hp → Prop) → Prop
  | [], s, σ, K => K s σ
  | o :: r, s, σ, K =>
    match o.guard with
    | none => aOp E s σ o.op fun v σ' => aOps E r (s.put o.dst v) σ' K
    | some (d, want) => match s d with
      | .bool b => (b = want → aOp E s σ o.op fun v σ' => aOps E r (s.put o.dst v) σ' K) ∧ (b = !want → aOps E r (s.put o.dst (.tuple [])) σ K)
      | .tuple [] => aOps E r (s.put o.dst (.tuple [])) σ K
      | _ => False

/-- Less is owned. -/
def Sub (σ' σ : Hp) : Prop := ∀ b x, σ' b = some x → σ b = some x
/-- Whatever is v in the heap σ is v' in the smaller heap σ'. -/
def Fz (E : Env) (σ σ' : Hp) (v v' : AV) : Prop := ∀ w x, HRel E σ w → Sub σ' σ → Rep E.A σ w x v → Rep E.A σ' w x v'
def FzL (E : Env) (σ σ' : Hp) : List AV → List AV → Prop
  | [], [] => True
  | v :: vs, v' :: vs' => Fz E σ σ' v v' ∧ FzL E σ σ' vs vs'
  | _, _ => False

def aRes (s : Slots) (σ : Hp) : ARes → Option AV
  | .t n => some (s n)
  | .cell n ag sz => match s n with
    | .ptr b sz' i off => match σ b with
      | some (.row sz'' els) => if sz' = sz'' then (match els[i]? with | some x => part ag sz x.cells off | none => none) else none
      | _ => none
    | _ => none
  | .bad => none
def aRess (s : Slots) (σ : Hp) : List ARes → Option (List AV)
  | [] => some []
  | r :: rs => match aRes s σ r, aRess s σ rs with
    | some v, some vs => some (v :: vs)
    | _, _ => none
def Ret (E : Env) (K : AV → Hp → Prop) (v : AV) (σ : Hp) : Prop := ∃ v' σ', Sub σ' σ ∧ Fz E σ σ' v v' ∧ K v' σ'
def aRet (E : Env) (rs : List ARes) (K : AV → Hp → Prop) (s : Slots) (σ : Hp) : Prop :=
  match aRess s σ rs with
  | some [v] => Ret E K v σ
  | some vs => Ret E K (.tuple vs) σ
  | none => False

def Keep (T : Nat → Prop) (a a' : Act) : Prop := ∀ t, ¬ T t → a'.tmps[t]? = a.tmps[t]?
/-- What is to be shown of a piece of code. -/
def Good (E : Env) (N : Nat) (T : Nat → Prop) (σ : Hp) (a : Act) (w : World) (Q : Exit → Slots → Hp → Prop) (e : Exit) (a' : Act) (w' : World) : Prop :=
  ∃ s' σ', Q e s' σ' ∧ (∀ t, Rep E.A σ' w' (a'.tmps.getD t undef) (s' t)) ∧ HRel E σ' w' ∧ a'.tmps.size = N ∧ Trans σ w σ' w' ∧ Keep T a a' ∧ a'.defers = a.defers

/-- A piece of code, from outside. -/
structure sCode (E : Env) (N : Nat) (c : ACode) (Q : Exit → Slots → Hp → Prop) (s : Slots) (σ : Hp) : Prop where
  out : ∀ (code : Code) (T : Nat → Prop) (a : Act) (w : World), comp E.P N code = c.strip → c.wrP T →
    (∀ t, Rep E.A σ w (a.tmps.getD t undef) (s t)) → HRel E σ w → a.tmps.size = N → code.wp E.P (Good E N T σ a w Q) a w

def aCode (E : Env) (N : Nat) : ACode → (Exit → Slots → Hp → Prop) → Slots → Hp → Prop
  | .skip, Q, s, σ => Q .normal s σ
  | .ops l, Q, s, σ => aOps E l s σ fun s σ => Q .normal s σ
  | .seq a b, Q, s, σ => aCode E N a (fun e s σ => match e with | .normal => aCode E N b Q s σ | e => Q e s σ) s σ
  | .cond c x y, Q, s, σ => match s.ev c with
    | .bool b => (b = true → aCode E N x Q s σ) ∧ (b = false → aCode E N y Q s σ)
    | _ => False
  | .exit id, Q, s, σ => Q (.exit id) s σ
  | .ret, Q, s, σ => Q .ret s σ
  | .bad, _, _, _ => False
  | c, Q, s, σ => sCode E N c Q s σ

end Pat
end Go.Proofs.YthmcfphafofheaaDoor
