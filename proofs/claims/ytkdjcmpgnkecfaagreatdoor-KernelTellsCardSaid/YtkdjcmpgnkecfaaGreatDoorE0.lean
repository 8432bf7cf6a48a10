/-
  The words of an evaluator of the model's code over abstract memory: trees, abstract values, memory. Definitions alone.
-/
import GoSem.Machine.Frame
noncomputable section
namespace Go.Ev

/-! ### trees by numbers -/
inductive Tr (α : Type) where
  | nil
  | node (l : Tr α) (v : Option α) (r : Tr α)
  deriving Inhabited

namespace Tr
variable {α : Type}
def get (t : Tr α) : Nat → Option α :=
  Tr.rec (motive := fun _ => Nat → Option α) (fun _ => none)
    (fun _ v _ ihl ihr k => Bool.rec (Bool.rec (ihr (Nat.sub (Nat.div k 2) 1)) (ihl (Nat.div k 2)) (Nat.beq (Nat.mod k 2) 1)) v (Nat.beq k 0)) t
def sing (d : Nat) : Nat → α → Tr α :=
  Nat.rec (motive := fun _ => Nat → α → Tr α) (fun _ _ => .nil)
    (fun _ ih k x => Bool.rec (Bool.rec (.node .nil none (ih (Nat.sub (Nat.div k 2) 1) x)) (.node (ih (Nat.div k 2) x) none .nil) (Nat.beq (Nat.mod k 2) 1)) (.node .nil (some x) .nil) (Nat.beq k 0)) d
def set (t : Tr α) : Nat → α → Tr α :=
  Tr.rec (motive := fun _ => Nat → α → Tr α) (fun k x => sing (Nat.add k 1) k x)
    (fun l v r ihl ihr k x => Bool.rec (Bool.rec (.node l v (ihr (Nat.sub (Nat.div k 2) 1) x)) (.node (ihl (Nat.div k 2) x) v r) (Nat.beq (Nat.mod k 2) 1)) (.node l (some x) r) (Nat.beq k 0)) t
def ofListFrom : List α → Nat → Tr α → Tr α
  | [], _, t => t
  | x :: xs, i, t => ofListFrom xs (i + 1) (t.set i x)
def ofList (l : List α) : Tr α := ofListFrom l 0 .nil
end Tr

/-! ### numbers -/
def leI : Int → Int → Bool
  | .ofNat m, .ofNat n => Nat.ble m n
  | .negSucc _, .ofNat _ => true
  | .ofNat _, .negSucc _ => false
  | .negSucc m, .negSucc n => Nat.ble n m
def ltI (a b : Int) : Bool := !leI b a
def eqI : Int → Int → Bool
  | .ofNat m, .ofNat n => Nat.beq m n
  | .negSucc m, .negSucc n => Nat.beq m n
  | _, _ => false
/-- below it a number that is not negative is as it stands -/
def limK : IntKind → Nat
  | .i8 => 128 | .i16 => 32768 | .i32 => 2147483648 | .i64 => 9223372036854775808
  | .u8 => 256 | .u16 => 65536 | .u32 => 4294967296 | .u64 => 18446744073709551616
def wrapA (k : IntKind) (n : Int) : Int :=
  match n with
  | .ofNat m => bif Nat.blt m (limK k) then .ofNat m else k.wrap (.ofNat m)
  | .negSucc m => k.wrap (.negSucc m)
def andS (k : IntKind) (a b : Int) : Int := k.wrap (BitVec.ofInt k.bits a &&& BitVec.ofInt k.bits b).toNat
def orS (k : IntKind) (a b : Int) : Int := k.wrap (BitVec.ofInt k.bits a ||| BitVec.ofInt k.bits b).toNat
def xorS (k : IntKind) (a b : Int) : Int := k.wrap (BitVec.ofInt k.bits a ^^^ BitVec.ofInt k.bits b).toNat
def andNotS (k : IntKind) (a b : Int) : Int := k.wrap (BitVec.ofInt k.bits a &&& ~~~ BitVec.ofInt k.bits b).toNat
def andA (k : IntKind) (a b : Int) : Int :=
  match a, b with
  | .ofNat m, .ofNat n => bif Nat.blt m (limK k) && Nat.blt n (limK k) then .ofNat (Nat.land m n) else andS k (.ofNat m) (.ofNat n)
  | a, b => andS k a b
def orA (k : IntKind) (a b : Int) : Int :=
  match a, b with
  | .ofNat m, .ofNat n => bif Nat.blt m (limK k) && Nat.blt n (limK k) then .ofNat (Nat.lor m n) else orS k (.ofNat m) (.ofNat n)
  | a, b => orS k a b
def eqK : IntKind → IntKind → Bool
  | .i8, .i8 | .i16, .i16 | .i32, .i32 | .i64, .i64 | .u8, .u8 | .u16, .u16 | .u32, .u32 | .u64, .u64 => true
  | _, _ => false
def byteAt (n off : Nat) : Nat := (n >>> (8 * off)) % 256

/-! ### values -/
inductive AV where
  | undef
  | bool (b : Bool)
  | int (k : IntKind) (n : Int)
  | sym (k : IntKind) (e : Nat)
  | str (len n : Nat)
  | nilPtr
  | ptr (id off : Nat)
  | nilSlice
  | slice (id off len cap esz : Nat) (exact : Bool)
  | nilMap
  | map (id : Nat)
  | nilFunc
  | func (f : FuncId) (first captured : List AV)
  | yield (id : Nat)
  | nilIface
  | iface (t : TypeId) (v : AV)
  | agg (cs : List AV)
  | tuple (vs : List AV)
  deriving Inhabited, Repr

mutual
def AV.beq : AV → AV → Bool
  | .undef, .undef => true
  | .bool a, .bool b => a == b
  | .int k a, .int j b => eqK k j && eqI a b
  | .sym k a, .sym j b => eqK k j && Nat.beq a b
  | .str l a, .str m b => Nat.beq l m && Nat.beq a b
  | .nilPtr, .nilPtr => true
  | .ptr a b, .ptr c d => Nat.beq a c && Nat.beq b d
  | .nilSlice, .nilSlice => true
  | .slice a b c d e f, .slice a' b' c' d' e' f' => Nat.beq a a' && Nat.beq b b' && Nat.beq c c' && Nat.beq d d' && Nat.beq e e' && f == f'
  | .nilMap, .nilMap => true
  | .map a, .map b => Nat.beq a b
  | .nilFunc, .nilFunc => true
  | .func f a b, .func g c d => Nat.beq f g && AV.beqL a c && AV.beqL b d
  | .yield a, .yield b => Nat.beq a b
  | .nilIface, .nilIface => true
  | .iface t v, .iface u w => Nat.beq t u && AV.beq v w
  | .agg a, .agg b => AV.beqL a b
  | .tuple a, .tuple b => AV.beqL a b
  | _, _ => false
def AV.beqL : List AV → List AV → Bool
  | [], [] => true
  | a :: as, b :: bs => AV.beq a b && AV.beqL as bs
  | _, _ => false
end

/-- What is asked of a type: its kind, cells, bytes, zero's cells; may two of it be held against each other, field by field?; of a struct each field's place and cells. -/
structure TyI where
  desc : TypeDesc
  size : Nat
  bytes : Nat
  zero : List AV
  plain : Bool
  parts : List (Nat × Nat)
  deriving Inhabited

inductive AObj where
  | dead
  | cells (size : Nat) (strish : Bool) (zero : List AV) (t : Tr AV)
  | bytes (size : Nat) (strish : Bool) (n : Nat)
  | ro (size : Nat) (t : Tr AV)
  | map (es : List (AV × AV × Nat)) (clock : Nat)
  | loop (st : LoopState) (pend : Option Code) (n : Nat) (regs : Tr AV) (params : Array Tmp) (assign body : Code) (defers : Nat)
  | deferred
  deriving Inhabited

structure AH where
  next : Nat
  tr : Tr AObj
  deriving Inhabited

def encode : List UInt8 → Nat
  | [] => 0
  | b :: bs => b.toNat + 256 * encode bs

def constS : Value → Option AV
  | .bool b => some (.bool b)
  | .int k n => some (.int k n)
  | .string s => some (.str s.data.toList.length (encode s.data.toList))
  | .pointer none => some .nilPtr
  | .slice none 0 0 => some .nilSlice
  | .map none => some .nilMap
  | .nilFunc => some .nilFunc
  | .nilIface => some .nilIface
  | .func (.func f) ⟨[]⟩ ⟨[]⟩ => some (.func f [] [])
  | _ => none
def constL : List Value → Option (List AV)
  | [] => some []
  | v :: vs => match constS v, constL vs with
    | some a, some l => some (a :: l)
    | _, _ => none
def constAV (v : Value) : Option AV :=
  match v with
  | .agg cs => match constL cs.toList with
    | some l => some (.agg l)
    | none => none
  | .tuple ⟨[]⟩ => some .undef
  | v => constS v

/-- A number that is known, or one that has a name. -/
inductive SI where
  | lit (n : Int)
  | var (e : Nat)
  deriving Inhabited, Repr

/-- What is known of named numbers: an operation of a kind on two numbers comes to a number, or to a bool; a number fits a kind. -/
inductive Fact where
  | num (op : BinOp) (k : IntKind) (x y r : SI)
  | test (op : BinOp) (k : IntKind) (x y : SI) (r : Bool)
  | fits (x : Nat) (k : IntKind)
  deriving Inhabited

structure Env where
  fn : FuncId → Option Func
  ty : TypeId → Option TyI
  facts : List Fact
  ng : Nat

def AV.cells : AV → List AV
  | .agg cs => cs
  | v => [v]

abbrev Regs := Tr AV
def Regs.get (r : Regs) (t : Nat) : AV := match Tr.get r t with
  | some v => v
  | none => .undef

def evalOperand (E : Env) (r : Regs) : Operand → Option AV
  | .tmp t => some (r.get t)
  | .const v => constAV v
  | .func f => some (.func f [] [])
  | .global g => bif Nat.blt g E.ng then some (.ptr g 0) else none

def evalOperands (E : Env) (r : Regs) : List Operand → Option (List AV)
  | [] => some []
  | x :: xs => match evalOperand E r x, evalOperands E r xs with
    | some v, some l => some (v :: l)
    | _, _ => none

/-! ### memory -/
def AH.put (h : AH) (id : Nat) (o : AObj) : AH := { h with tr := h.tr.set id o }
def AH.get (h : AH) (id : Nat) : AObj := match h.tr.get id with
  | some o => o
  | none => .dead
def AH.new (h : AH) (o : AObj) : AH := { next := h.next + 1, tr := h.tr.set h.next o }

/-- whole bytes of cells, if they are all bytes -/
def bytesOfCells : List AV → Option Nat
  | [] => some 0
  | .int .u8 (.ofNat b) :: cs => match bytesOfCells cs with
    | some n => bif Nat.blt b 256 then some (b + 256 * n) else none
    | none => none
  | _ => none

def isU8 : TypeDesc → Bool
  | .int .u8 => true
  | _ => false

/-- a block of cells, all known -/
def mkCells (d : TypeDesc) (cs : List AV) : AObj :=
  match isU8 d, bytesOfCells cs with
  | true, some n => .bytes cs.length false n
  | _, _ => .cells cs.length false [] (Tr.ofList cs)

def AObj.cell (o : AObj) (off : Nat) : Option AV :=
  match o with
  | .cells size _ zero t =>
    bif Nat.blt off size then match t.get off with
      | some v => some v
      | none => zero[off % zero.length]?
    else none
  | .bytes size _ n => bif Nat.blt off size then some (.int .u8 (.ofNat (byteAt n off))) else none
  | .ro size t => bif Nat.blt off size then t.get off else none
  | _ => none

def AObj.row : AObj → Option (Nat × Bool)
  | .cells size s _ _ => some (size, s)
  | .bytes size s _ => some (size, s)
  | _ => none

/-- may it be written, or die? -/
def AObj.live : AObj → Bool
  | .dead | .ro .. => false
  | _ => true

def readCell (h : AH) (id off : Nat) : Option AV := (h.get id).cell off

def AObj.read (o : AObj) (off : Nat) : Nat → Option (List AV)
  | 0 => some []
  | k + 1 => match o.cell off, o.read (off + 1) k with
    | some v, some l => some (v :: l)
    | _, _ => none

def readCells (h : AH) (id off k : Nat) : Option (List AV) := (h.get id).read off k

/-- may it stand in one cell? -/
def scal : AV → Bool
  | .agg _ | .tuple _ | .undef => false
  | _ => true

def AObj.write (o : AObj) (off : Nat) (v : AV) : Option AObj :=
  match o with
  | .cells size s zero t => bif Nat.blt off size && scal v then some (.cells size s zero (t.set off v)) else none
  | .bytes size s n =>
    match v with
    | .int .u8 (.ofNat b) => bif Nat.blt off size && Nat.blt b 256 then some (.bytes size s (n - (byteAt n off) <<< (8 * off) + b <<< (8 * off))) else none
    | _ => none
  | _ => none

def AObj.writes (o : AObj) (off : Nat) : List AV → Option AObj
  | [] => some o
  | v :: vs => match o.write off v with
    | some o => o.writes (off + 1) vs
    | none => none

def writeCells (h : AH) (id off : Nat) (vs : List AV) : Option AH :=
  match (h.get id).writes off vs with
  | some o => some (h.put id o)
  | none => none

/-- the bytes of a place as one number -/
def readNat (h : AH) (id off len : Nat) : Option Nat :=
  match h.get id with
  | .bytes size _ n => bif Nat.ble (off + len) size then some ((n >>> (8 * off)) % 2 ^ (8 * len)) else none
  | _ => none

def writeNat (h : AH) (id off len m : Nat) : Option AH :=
  match h.get id with
  | .bytes size s n =>
    bif Nat.ble (off + len) size then some (h.put id (.bytes size s (n - ((n >>> (8 * off)) % 2 ^ (8 * len)) <<< (8 * off) + m <<< (8 * off)))) else none
  | _ => none

def isAggD : TypeDesc → Bool
  | .struct _ | .array _ _ => true
  | _ => false

def loadT (E : Env) (h : AH) (t : TypeId) (id off : Nat) : Option AV :=
  match E.ty t with
  | some i => match isAggD i.desc with
    | true => match readCells h id off i.size with
      | some cs => some (.agg cs)
      | none => none
    | false => readCell h id off
  | none => none

def storeT (E : Env) (h : AH) (t : TypeId) (id off : Nat) (v : AV) : Option AH :=
  match E.ty t with
  | some i => bif Nat.beq v.cells.length i.size && !Nat.beq i.size 0 then writeCells h id off v.cells else none
  | none => none

def setRange : List AV → Nat → List AV → List AV
  | cs, _, [] => cs
  | cs, i, v :: vs => setRange (cs.set i v) (i + 1) vs

def fillA (place : Nat → Option (Nat × Nat)) (cells : List AV) : List (Nat × AV) → Option (List AV)
  | [] => some cells
  | (i, v) :: rest =>
    match place i with
    | none => none
    | some (off, size) =>
      bif Nat.beq v.cells.length size && Nat.ble (off + v.cells.length) cells.length then fillA place (setRange cells off v.cells) rest else none

def repl : Nat → List AV → List AV
  | 0, _ => []
  | n + 1, l => l ++ repl n l

def evalParts (E : Env) (r : Regs) : List (Nat × Operand) → Option (List (Nat × AV))
  | [] => some []
  | (i, x) :: xs => match evalOperand E r x, evalParts E r xs with
    | some v, some l => some ((i, v) :: l)
    | _, _ => none

def partA (E : Env) (t : TypeId) (cs : List AV) (off : Nat) : Option AV :=
  match E.ty t with
  | some i => match isAggD i.desc with
    | true => some (.agg ((cs.drop off).take i.size))
    | false => cs[off]?
  | none => none

end Go.Ev
