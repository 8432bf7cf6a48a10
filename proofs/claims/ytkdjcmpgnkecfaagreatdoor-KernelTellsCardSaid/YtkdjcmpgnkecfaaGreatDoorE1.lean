/-
  The operations of the evaluator over abstract memory. Definitions alone.
-/
import Derived.Test.YtkdjcmpgnkecfaaGreatDoorE0
noncomputable section
namespace Go.Ev

/-! ### named numbers -/
def SI.beq : SI → SI → Bool
  | .lit a, .lit b => eqI a b
  | .var a, .var b => Nat.beq a b
  | _, _ => false
def eqOp : BinOp → BinOp → Bool
  | .add, .add | .sub, .sub | .mul, .mul | .quo, .quo | .rem, .rem | .and, .and | .or, .or | .xor, .xor | .shl, .shl | .shr, .shr | .andNot, .andNot
  | .eql, .eql | .neq, .neq | .lss, .lss | .leq, .leq | .gtr, .gtr | .geq, .geq => true
  | _, _ => false
def SI.av (k : IntKind) : SI → AV
  | .lit n => .int k n
  | .var e => .sym k e
def factOf : List Fact → BinOp → IntKind → SI → SI → Option AV
  | [], _, _, _, _ => none
  | .num op k x y r :: fs, o, j, a, b => bif eqOp op o && eqK k j && x.beq a && y.beq b then some (r.av k) else factOf fs o j a b
  | .test op k x y r :: fs, o, j, a, b => bif eqOp op o && eqK k j && x.beq a && y.beq b then some (.bool r) else factOf fs o j a b
  | .fits _ _ :: fs, o, j, a, b => factOf fs o j a b
def fitsOf : List Fact → Nat → IntKind → Bool
  | [], _, _ => false
  | .fits x k :: fs, e, j => (Nat.beq x e && eqK k j) || fitsOf fs e j
  | _ :: fs, e, j => fitsOf fs e j
/-- two numbers of one kind held against each other by a fact -/
def eqFact (E : Env) (k : IntKind) (x y : SI) : Option Bool :=
  match factOf E.facts .eql k x y with
  | some (.bool b) => some b
  | _ => none

/-! ### equality -/
def eqFields (E : Env) (f : TypeId → AV → AV → Option Bool) : List Field → List AV → List AV → Option Bool
  | [], _, _ => some true
  | fd :: fs, xs, ys =>
    match partA E fd.type xs fd.offset, partA E fd.type ys fd.offset with
    | some a, some b =>
      match f fd.type a b with
      | some true => eqFields E f fs xs ys
      | some false => some false
      | none => none
    | _, _ => none

/-- may a block's address be held against another one's? -/
def AObj.quietAddr : AObj → Bool
  | .cells _ false _ _ => true
  | .bytes _ false _ => true
  | .ro .. => false
  | _ => false

def eqA (E : Env) (h : AH) : Nat → TypeId → AV → AV → Option Bool
  | 0, _, _, _ => none
  | d + 1, t, x, y =>
    match E.ty t with
    | none => none
    | some i =>
    match i.desc, x, y with
    | .bool, .bool a, .bool b => some (a == b)
    | .int _, .int k a, .int k' b => bif eqK k k' then some (eqI a b) else none
    | .int _, .sym k a, .int k' b => bif eqK k k' then eqFact E k (.var a) (.lit b) else none
    | .int _, .int k a, .sym k' b => bif eqK k k' then eqFact E k (.lit a) (.var b) else none
    | .int _, .sym k a, .sym k' b => bif eqK k k' then (bif Nat.beq a b then some true else eqFact E k (.var a) (.var b)) else none
    | .string, .str l a, .str l' b => some (Nat.beq l l' && Nat.beq a b)
    | .pointer _, .nilPtr, .nilPtr => some true
    | .pointer _, .nilPtr, .ptr _ _ => some false
    | .pointer _, .ptr _ _, .nilPtr => some false
    | .pointer e, .ptr a o, .ptr b p =>
      match E.ty e with
      | some ie => bif Nat.beq ie.size 0 then none else
        bif (h.get a).quietAddr && (h.get b).quietAddr then some (Nat.beq a b && Nat.beq o p) else none
      | none => none
    | .struct fs, .agg xs, .agg ys => bif i.plain then eqFields E (eqA E h d) fs.toList xs ys else none
    | .slice _, .nilSlice, .nilSlice => some true
    | .slice _, .nilSlice, .slice .. => some false
    | .slice _, .slice .., .nilSlice => some false
    | .map _ _, .nilMap, .nilMap => some true
    | .map _ _, .nilMap, .map _ => some false
    | .map _ _, .map _, .nilMap => some false
    | .func _ _ _, .nilFunc, .nilFunc => some true
    | .func _ _ _, .nilFunc, .func .. => some false
    | .func _ _ _, .func .., .nilFunc => some false
    | _, _, _ => none

/-! ### arithmetic -/
def strCat (l a l' b : Nat) : Option AV :=
  bif Nat.blt (l + l') 4611686018427387904 then some (.str (l + l') (a + b <<< (8 * l))) else none

def intBinA (op : BinOp) (k : IntKind) (a b : Int) : Option AV :=
  match op with
  | .add => some (.int k (wrapA k (a + b)))
  | .sub => some (.int k (wrapA k (a - b)))
  | .mul => some (.int k (wrapA k (a * b)))
  | .quo => bif eqI b 0 then none else some (.int k (wrapA k (a.tdiv b)))
  | .rem => bif eqI b 0 then none else some (.int k (a.tmod b))
  | .and => some (.int k (andA k a b))
  | .or => some (.int k (orA k a b))
  | .xor => some (.int k (xorS k a b))
  | .andNot => some (.int k (andNotS k a b))
  | .eql => some (.bool (eqI a b))
  | .neq => some (.bool (!eqI a b))
  | .lss => some (.bool (ltI a b))
  | .leq => some (.bool (leI a b))
  | .gtr => some (.bool (ltI b a))
  | .geq => some (.bool (leI b a))
  | _ => none

def shiftA (op : BinOp) (k : IntKind) (a b : Int) : Option AV :=
  match b with
  | .negSucc _ => none
  | .ofNat n => match op with
    | .shl => some (.int k (wrapA k (a * 2 ^ (min n k.bits))))
    | .shr => some (.int k (a.fdiv (2 ^ (min n k.bits))))
    | _ => none

def isShift : BinOp → Bool
  | .shl | .shr => true
  | _ => false

/-- two of one make, neither numbers nor texts -/
def eqable : AV → AV → Bool
  | .bool _, .bool _ => true
  | .nilPtr, .nilPtr => true
  | .nilPtr, .ptr _ _ => true
  | .ptr _ _, .nilPtr => true
  | .ptr _ _, .ptr _ _ => true
  | .agg _, .agg _ => true
  | .nilSlice, .nilSlice => true
  | .nilSlice, .slice .. => true
  | .slice .., .nilSlice => true
  | .nilMap, .nilMap => true
  | .nilMap, .map _ => true
  | .map _, .nilMap => true
  | .nilFunc, .nilFunc => true
  | .nilFunc, .func .. => true
  | .func .., .nilFunc => true
  | _, _ => false

def binA (E : Env) (h : AH) (op : BinOp) (t : TypeId) (x y : AV) : Option AV :=
  match x, y with
  | .int k a, .int k' b => bif isShift op then shiftA op k a b else bif eqK k k' then intBinA op k a b else none
  | .sym k a, .int k' b => bif eqK k k' && !isShift op then factOf E.facts op k (.var a) (.lit b) else none
  | .int k a, .sym k' b => bif eqK k k' && !isShift op then factOf E.facts op k (.lit a) (.var b) else none
  | .sym k a, .sym k' b => bif eqK k k' && !isShift op then factOf E.facts op k (.var a) (.var b) else none
  | .str l a, .str l' b =>
    match op with
    | .add => strCat l a l' b
    | .eql => some (.bool (Nat.beq l l' && Nat.beq a b))
    | .neq => some (.bool (!(Nat.beq l l' && Nat.beq a b)))
    | _ => none
  | x, y => bif eqable x y then (match op, eqA E h 9 t x y with
    | .eql, some b => some (.bool b)
    | .neq, some b => some (.bool (!b))
    | _, _ => none) else none

def unA (op : UnOp) (x : AV) : Option AV :=
  match op, x with
  | .neg, .int k n => some (.int k (wrapA k (0 - n)))
  | .xor, .int k n => some (.int k (xorS k (bif k.signed then -1 else k.max) n))
  | .not, .bool b => some (.bool !b)
  | _, _ => none

def convA (E : Env) (h : AH) (src dst : TypeId) (x : AV) : Option AV :=
  match E.ty src, E.ty dst with
  | some s, some d =>
    match x with
    | .int _ n => match d.desc with
      | .int k => some (.int k (wrapA k n))
      | _ => none
    | .sym _ e => match d.desc with
      | .int k => bif fitsOf E.facts e k then some (.sym k e) else none
      | _ => none
    | .str l n => match d.desc with
      | .string => some (.str l n)
      | _ => none
    | .nilSlice => match s.desc, d.desc with
      | .slice e, .string => match E.ty e with
        | some ie => bif isU8 ie.desc then some (.str 0 0) else none
        | none => none
      | _, _ => none
    | .slice id off len _ _ _ => match s.desc, d.desc with
      | .slice e, .string => match E.ty e with
        | some ie => bif isU8 ie.desc then (bif Nat.beq len 0 then some (.str 0 0) else match readNat h id off len with
            | some n => some (.str len n)
            | none => none) else none
        | none => none
      | _, _ => none
    | _ => none
  | _, _ => none

/-- a text to bytes: new memory -/
def convNewA (E : Env) (dst : TypeId) (x : AV) : Option (Nat × AObj) :=
  match E.ty dst, x with
  | some d, .str l n => match d.desc with
    | .slice e => match E.ty e with
      | some ie => bif isU8 ie.desc then some (l, .bytes l true n) else none
      | none => none
    | _ => none
  | _, _ => none

def isSliceTy (E : Env) (t : TypeId) : Bool :=
  match E.ty t with
  | some i => match i.desc with
    | .slice _ => true
    | _ => false
  | none => false

/-! ### cuts -/
/-- a bound: from 0 to y -/
def boundA (x : Int) (y : Nat) : Option Nat :=
  match x with
  | .ofNat n => bif Nat.ble n y then some n else none
  | .negSucc _ => none

/-- low, high, the capacity behind it, is it just that -/
def boundsA (len cap : Nat) (exact : Bool) (low high max : Option Int) : Option (Nat × Nat × Nat × Bool) :=
  match max, high with
  | some m, some h => match boundA m cap with
    | some m => match boundA h m with
      | some h => match low with
        | some l => match boundA l h with
          | some l => some (l, h, m, true)
          | none => none
        | none => some (0, h, m, true)
      | none => none
    | none => none
  | some _, none => none
  | none, some h => match boundA h cap with
    | some h => match low with
      | some l => match boundA l h with
        | some l => some (l, h, cap, exact)
        | none => none
      | none => some (0, h, cap, exact)
    | none => none
  | none, none => match low with
    | some l => match boundA l len with
      | some l => some (l, len, cap, exact)
      | none => none
    | none => some (0, len, cap, exact)

def optInt (E : Env) (r : Regs) : Option Operand → Option (Option Int)
  | none => some none
  | some x => match evalOperand E r x with
    | some (.int _ n) => some (some n)
    | _ => none

def sliceA (E : Env) (g : AH) (t : TypeId) (x : AV) (lo hi mx : Option Int) : Option AV :=
  match E.ty t with
  | none => none
  | some i =>
  match i.desc, x with
  | .string, .str len n =>
    bif mx.isSome then none else
    match boundsA len len true lo hi none with
    | some (l, h, _, _) => some (.str (h - l) ((n >>> (8 * l)) % 2 ^ (8 * (h - l))))
    | none => none
  | .slice e, .nilSlice =>
    match boundsA 0 0 true lo hi mx, E.ty e with
    | some _, some _ => some .nilSlice
    | _, _ => none
  | .slice e, .slice id off len cap esz ex =>
    match boundsA len cap ex lo hi mx, E.ty e with
    | some (l, h, m, ex), some ie => bif Nat.beq ie.size esz then some (.slice id (off + l * esz) (h - l) (m - l) esz ex) else none
    | _, _ => none
  | .array n e, .ptr id off =>
    match E.ty e, boundsA n n true lo hi mx with
    | some ie, some (l, h, m, _) => match (g.get id).row with
      | some (size, _) => bif Nat.ble (off + n * ie.size) size then some (.slice id (off + l * ie.size) (h - l) (m - l) ie.size true) else none
      | none => none
    | _, _ => none
  | _, _ => none

/-! ### parts -/
def fieldAddrA (E : Env) (s : TypeId) (x : AV) (f : Nat) : Option AV :=
  match E.ty s, x with
  | some i, .ptr id off => match i.desc with
    | .struct fs => match fs[f]? with
      | some fd => match E.ty fd.type with
        | some fi => bif Nat.beq fi.size 0 then none else some (.ptr id (off + fd.offset))
        | none => none
      | none => none
    | _ => none
  | _, _ => none

def fieldA (E : Env) (s : TypeId) (x : AV) (f : Nat) : Option AV :=
  match E.ty s, x with
  | some i, .agg cs => match i.desc with
    | .struct fs => match fs[f]? with
      | some fd => partA E fd.type cs fd.offset
      | none => none
    | _ => none
  | _, _ => none

/-- an index: from 0 to below n -/
def idxA (x : Int) (n : Nat) : Option Nat :=
  match x with
  | .ofNat i => bif Nat.blt i n then some i else none
  | .negSucc _ => none

def indexAddrA (E : Env) (t : TypeId) (x ix : AV) : Option AV :=
  match E.ty t, ix with
  | some i, .int _ n =>
    match i.desc, x with
    | .array len e, .ptr id off => match E.ty e, idxA n len with
      | some ie, some j => some (.ptr id (off + j * ie.size))
      | _, _ => none
    | .slice e, .slice id off len _ esz _ => match E.ty e, idxA n len with
      | some ie, some j => bif Nat.beq ie.size esz then some (.ptr id (off + j * esz)) else none
      | _, _ => none
    | _, _ => none
  | _, _ => none

def indexA (E : Env) (t : TypeId) (x ix : AV) : Option AV :=
  match E.ty t, ix with
  | some i, .int _ n =>
    match i.desc, x with
    | .array len e, .agg cs => match E.ty e, idxA n len with
      | some ie, some j => partA E e cs (j * ie.size)
      | _, _ => none
    | .string, .str len m => match idxA n len with
      | some j => some (.int .u8 (.ofNat (byteAt m j)))
      | none => none
    | _, _ => none
  | _, _ => none

/-! ### maps -/
def TyI.zeroV (i : TyI) : AV := match isAggD i.desc with
  | true => .agg i.zero
  | false => i.zero.headD .undef

def isKeyD : TypeDesc → Bool
  | .int _ | .string | .bool => true
  | _ => false
def offsOk : List Field → Nat → Bool
  | [], _ => true
  | f :: fs, i => Nat.beq f.offset i && offsOk fs (i + 1)
/-- keys that are told apart by what they are: numbers, texts, bools, or structs of these -/
def keyTy (E : Env) (t : TypeId) : Bool :=
  match E.ty t with
  | some i => isKeyD i.desc || (match i.desc with
    | .struct fs => i.plain && offsOk fs.toList 0 && Nat.beq i.size fs.toList.length && fs.toList.all fun f => match E.ty f.type with
      | some fi => isKeyD fi.desc && Nat.beq fi.size 1
      | none => false
    | _ => false)
  | none => false

/-- is it a key of such a type? -/
def keyOk (E : Env) (h : AH) (kt : TypeId) (k : AV) : Bool :=
  keyTy E kt && (match eqA E h 5 kt k k with
    | some b => b
    | none => false) && (match k, E.ty kt with
    | .agg cs, some i => Nat.beq cs.length i.size
    | _, _ => true)

def keyLen : AV → AV → Bool
  | .agg a, .agg b => Nat.beq a.length b.length
  | _, _ => true

def findKeyA (E : Env) (h : AH) (kt : TypeId) (k : AV) : List (AV × AV × Nat) → Nat → Option (Option (Nat × AV × Nat))
  | [], _ => some none
  | (k', v, b) :: es, i =>
    bif keyLen k k' then match eqA E h 5 kt k k' with
    | some true => some (some (i, v, b))
    | some false => findKeyA E h kt k es (i + 1)
    | none => none else none

def lookupA (E : Env) (h : AH) (t : TypeId) (x ix : AV) (ok : Bool) : Option AV :=
  match E.ty t with
  | none => none
  | some i => match i.desc with
    | .map kt e =>
      match E.ty e with
      | none => none
      | some ie =>
      bif keyOk E h kt ix then
        match x with
        | .nilMap => match findKeyA E h kt ix [] 0 with
          | some none => some (bif ok then .tuple [ie.zeroV, .bool false] else ie.zeroV)
          | _ => none
        | .map id => match h.get id with
          | .map es _ => match findKeyA E h kt ix es 0 with
            | some (some (_, v, _)) => some (bif ok then .tuple [v, .bool true] else v)
            | some none => some (bif ok then .tuple [ie.zeroV, .bool false] else ie.zeroV)
            | none => none
          | _ => none
        | _ => none
      else none
    | _ => none

def mapSet : List (AV × AV × Nat) → Nat → AV → List (AV × AV × Nat)
  | [], _, _ => []
  | (k, _, b) :: es, 0, v => (k, v, b) :: es
  | e :: es, i + 1, v => e :: mapSet es i v

def mapUpdateA (E : Env) (h : AH) (t : TypeId) (x k v : AV) : Option AH :=
  match E.ty t, x with
  | some i, .map id => match i.desc, h.get id with
    | .map kt _, .map es clock =>
      bif keyOk E h kt k then
        match findKeyA E h kt k es 0 with
        | some (some (i, _, _)) => some (h.put id (.map (mapSet es i v) clock))
        | some none => some (h.put id (.map (es ++ [(k, v, clock)]) (clock + 1)))
        | none => none
      else none
    | _, _ => none
  | _, _ => none

def deleteA (E : Env) (h : AH) (t : TypeId) (x k : AV) : Option AH :=
  match E.ty t, x with
  | some i, .map id => match i.desc, h.get id with
    | .map kt _, .map es clock =>
      bif keyOk E h kt k then
        match findKeyA E h kt k es 0 with
        | some (some (i, _, _)) => some (h.put id (.map (es.eraseIdx i) clock))
        | some none => some h
        | none => none
      else none
    | _, _ => none
  | _, _ => none

/-! ### append, copy, clear, make, len -/
def lenA : AV → Option Nat
  | .nilSlice => some 0
  | .slice _ _ len _ _ _ => some len
  | .str len _ => some len
  | _ => none

/-- may a row of so many elements be? -/
def roomy (need bytes : Nat) : Bool := Nat.ble ((2 * need + 200) * bytes) 140737488355328 && Nat.ble 1 bytes

def bytesOfA (h : AH) (x : AV) (n : Nat) : Option Nat :=
  match x with
  | .slice id off _ _ _ _ => readNat h id off n
  | .str _ m => some (m % 2 ^ (8 * n))
  | _ => none

/-- the row that goes on under a new number: 'old' and 'new' are its cells; ex: it is surely a row of its own -/
def growA (h : AH) (id : Nat) (ex : Bool) (o : Bool → AObj) : Option AH :=
  match ex with
  | true => some (h.new (o false))
  | false => match (h.get id).row with
    | some (_, st) => some ((h.put id .dead).new (o st))
    | none => none

def appendA (E : Env) (h : AH) (sType xType : TypeId) (s x : AV) : Option (AV × AH) :=
  match E.ty sType, E.ty xType, lenA x with
  | some si, some xi, some n =>
    match si.desc, (match xi.desc with | .slice _ | .string => true | _ => false) with
    | .slice e, true =>
      match E.ty e with
      | none => none
      | some ie =>
      match n with
      | 0 => match s with
        | .nilSlice => some (.nilSlice, h)
        | .slice a b c d e f => some (.slice a b c d e f, h)
        | _ => none
      | n + 1 =>
      match isU8 ie.desc with
      | true => bif Nat.beq ie.size 1 then match bytesOfA h x (n + 1) with
        | none => none
        | some new =>
        match s with
        | .nilSlice => bif roomy (n + 1) ie.bytes then some (.slice h.next 0 (n + 1) (n + 1) 1 false, h.new (.bytes (n + 1) false new)) else none
        | .slice id off len cap esz ex =>
          bif Nat.beq esz 1 then
          bif Nat.ble (len + (n + 1)) cap then match writeNat h id (off + len) (n + 1) new with
            | some h => some (.slice id off (len + (n + 1)) cap 1 ex, h)
            | none => none
          else match readNat h id off len with
            | none => none
            | some old => bif roomy (len + (n + 1)) ie.bytes then
              match growA h id ex (fun st => .bytes (len + (n + 1)) st (old + new <<< (8 * len))) with
              | some g => some (.slice h.next 0 (len + (n + 1)) (len + (n + 1)) 1 false, g)
              | none => none
              else none
          else none
        | _ => none
        else none
      | false => match x with
        | .slice xid xoff _ _ xesz _ => bif Nat.beq xesz ie.size && Nat.ble 1 ie.size then match readCells h xid xoff ((n + 1) * ie.size) with
          | none => none
          | some new =>
          match s with
          | .nilSlice => bif roomy (n + 1) ie.bytes then some (.slice h.next 0 (n + 1) (n + 1) ie.size false, h.new (.cells ((n + 1) * ie.size) false [] (Tr.ofList new))) else none
          | .slice id off len cap esz ex =>
            bif Nat.beq esz ie.size && new.all scal then
            bif Nat.ble (len + (n + 1)) cap then match writeCells h id (off + len * ie.size) new with
              | some h => some (.slice id off (len + (n + 1)) cap ie.size ex, h)
              | none => none
            else bif roomy (len + (n + 1)) ie.bytes then
              match h.get id, Nat.beq off 0 with
              | .cells size _ zero t, true => bif Nat.ble (len * ie.size) size then
                match growA h id ex (fun st => .cells ((len + (n + 1)) * ie.size) st zero (Tr.ofListFrom new (len * ie.size) t)) with
                | some g => some (.slice h.next 0 (len + (n + 1)) (len + (n + 1)) ie.size false, g)
                | none => none
                else none
              | o, _ => match o.read off (len * ie.size) with
                | none => none
                | some old => match growA h id ex (fun st => .cells ((len + (n + 1)) * ie.size) st [] (Tr.ofList (old ++ new))) with
                  | some g => some (.slice h.next 0 (len + (n + 1)) (len + (n + 1)) ie.size false, g)
                  | none => none
            else none else none
          | _ => none
          else none
        | _ => none
    | _, _ => none
  | _, _, _ => none

def copyA (E : Env) (h : AH) (dType : TypeId) (d x : AV) : Option (AV × AH) :=
  match E.ty dType, lenA x, (match d with | .str _ _ => none | d => lenA d) with
  | some di, some a, some b =>
    match di.desc with
    | .slice e =>
      match E.ty e with
      | none => none
      | some ie =>
      match min a b with
      | 0 => some (.int .i64 (.ofNat 0), h)
      | n + 1 =>
        match d with
        | .slice id off _ _ esz _ =>
          bif Nat.beq esz ie.size then
          match isU8 ie.desc with
          | true => bif Nat.beq ie.size 1 then match bytesOfA h x (n + 1) with
            | some new => match writeNat h id off (n + 1) new with
              | some h => some (.int .i64 (.ofNat (n + 1)), h)
              | none => none
            | none => none else none
          | false => match x with
            | .slice xid xoff _ _ xesz _ => bif Nat.beq xesz ie.size && Nat.ble 1 ie.size then match readCells h xid xoff ((n + 1) * esz) with
              | some cs => match writeCells h id off cs with
                | some h => some (.int .i64 (.ofNat (n + 1)), h)
                | none => none
              | none => none else none
            | _ => none
          else none
        | _ => none
    | _ => none
  | _, _, _ => none

def clearA (E : Env) (h : AH) (t : TypeId) (x : AV) : Option AH :=
  match E.ty t with
  | none => none
  | some i => match x with
    | .nilMap => some h
    | .nilSlice => some h
    | .slice id off len _ esz _ => match len with
      | 0 => some h
      | n + 1 => match i.desc with
        | .slice e => match E.ty e with
          | none => none
          | some ie => bif Nat.beq esz ie.size then match isU8 ie.desc, ie.zero with
            | true, [.int .u8 (.ofNat 0)] => bif Nat.beq ie.size 1 then writeNat h id off (n + 1) 0 else none
            | _, _ => bif Nat.ble 1 ie.size then writeCells h id off (repl (n + 1) ie.zero) else none else none
        | _ => none
    | .map id => match h.get id with
      | .map _ clock => some (h.put id (.map [] clock))
      | _ => none
    | _ => none

def makeSliceA (E : Env) (t : TypeId) (l c : AV) : Option (Nat × Nat × Nat × AObj) :=
  match E.ty t, l, c with
  | some i, .int _ (.ofNat l), .int _ (.ofNat c) => match i.desc with
    | .slice e => match E.ty e with
      | some ie =>
        bif Nat.ble l c && Nat.ble (ie.bytes * c) 140737488355328 && Nat.ble 1 ie.bytes then
          match isU8 ie.desc, ie.zero with
          | true, [.int .u8 (.ofNat 0)] => some (l, c, ie.size, .bytes c false 0)
          | _, _ => some (l, c, ie.size, .cells (c * ie.size) false ie.zero .nil)
        else none
      | none => none
    | _ => none
  | _, _, _ => none

def minA : AV → List AV → Option AV
  | v, [] => some v
  | .int k a, .int _ b :: rest => minA (.int k (bif ltI b a then b else a)) rest
  | _, _ => none
def maxA : AV → List AV → Option AV
  | v, [] => some v
  | .int k a, .int _ b :: rest => maxA (.int k (bif ltI a b then b else a)) rest
  | _, _ => none

def lenOpA (E : Env) (h : AH) (t : TypeId) (x : AV) : Option AV :=
  match E.ty t with
  | none => none
  | some i => match i.desc, x with
    | .string, .str l _ => some (.int .i64 (.ofNat l))
    | .array n _, _ => some (.int .i64 (.ofNat n))
    | .slice _, .nilSlice => some (.int .i64 (.ofNat 0))
    | .slice _, .slice _ _ l _ _ _ => some (.int .i64 (.ofNat l))
    | .map _ _, .nilMap => some (.int .i64 (.ofNat 0))
    | .map _ _, .map id => match h.get id with
      | .map es _ => some (.int .i64 (.ofNat es.length))
      | _ => none
    | _, _ => none

def capOpA (E : Env) (t : TypeId) (x : AV) : Option AV :=
  match E.ty t with
  | none => none
  | some i => match i.desc, x with
    | .slice _, .nilSlice => some (.int .i64 (.ofNat 0))
    | .slice _, .slice _ _ _ c _ true => some (.int .i64 (.ofNat c))
    | _, _ => none

/-! ### what an operation comes to -/
inductive AN where
  | value (v : AV) (h : AH)
  | skip (h : AH)
  | call (f : AV) (args : List AV)
  | bad
  deriving Inhabited

def AN.ofO : Option AV → AH → AN
  | some v, h => .value v h
  | none, _ => .bad
def AN.ofP : Option (AV × AH) → AN
  | some (v, h) => .value v h
  | none => .bad
def AN.ofH : Option AH → AN
  | some h => .skip h
  | none => .bad
def AN.ofU : Option AH → AN
  | some h => .value .undef h
  | none => .bad

/-- the operations that only look: a value, or nothing -/
def lookOp (E : Env) (r : Regs) (h : AH) (op : Op) : Option AV :=
  match op with
  | .move x | .assign x => evalOperand E r x
  | .pick c a b => match evalOperand E r c with
    | some (.bool true) => evalOperand E r a
    | some (.bool false) => evalOperand E r b
    | _ => none
  | .build t parts => match E.ty t, evalParts E r parts.toList with
    | some i, some ps => match i.desc with
      | .struct _ => match fillA (fun k => i.parts[k]?) i.zero ps with
        | some cs => some (.agg cs)
        | none => none
      | .array _ e => match E.ty e with
        | some ie => match fillA (fun k => some (k * ie.size, ie.size)) i.zero ps with
          | some cs => some (.agg cs)
          | none => none
        | none => none
      | _ => none
    | _, _ => none
  | .load t a => match evalOperand E r a with
    | some (.ptr id off) => loadT E h t id off
    | _ => none
  | .nilCheck x => match evalOperand E r x with
    | some (.ptr id off) => some (.ptr id off)
    | some (.func f a b) => some (.func f a b)
    | some (.yield l) => some (.yield l)
    | _ => none
  | .binOp op t x y _ => match evalOperand E r x, evalOperand E r y with
    | some a, some b => binA E h op t a b
    | _, _ => none
  | .unOp op _ x => match evalOperand E r x with
    | some a => unA op a
    | _ => none
  | .convert s d x => match evalOperand E r x with
    | some a => convA E h s d a
    | _ => none
  | .makeFunc fn first captured => match fn, evalOperands E r first.toList, evalOperands E r captured.toList with
    | .func f, some a, some b => some (.func f a b)
    | _, _, _ => none
  | .slice t x lo hi mx => match evalOperand E r x, optInt E r lo, optInt E r hi, optInt E r mx with
    | some v, some lo, some hi, some mx => sliceA E h t v lo hi mx
    | _, _, _, _ => none
  | .fieldAddr s x f => match evalOperand E r x with
    | some v => fieldAddrA E s v f
    | none => none
  | .field s x f => match evalOperand E r x with
    | some v => fieldA E s v f
    | none => none
  | .indexAddr t x ix => match evalOperand E r x, evalOperand E r ix with
    | some v, some i => indexAddrA E t v i
    | _, _ => none
  | .index t x ix => match evalOperand E r x, evalOperand E r ix with
    | some v, some i => indexA E t v i
    | _, _ => none
  | .lookup t x ix ok => match evalOperand E r x, evalOperand E r ix with
    | some v, some i => lookupA E h t v i ok
    | _, _ => none
  | .extract t i => match evalOperand E r t with
    | some (.tuple vs) => vs[i]?
    | _ => none
  | .call c => match c.callee, evalOperands E r c.args.toList with
    | .builtin .len, some [x] => match c.argTypes[0]? with
      | some t => lenOpA E h t x
      | none => none
    | .builtin .cap, some [x] => match c.argTypes[0]? with
      | some t => capOpA E t x
      | none => none
    | .builtin .min, some (x :: xs) => minA x xs
    | .builtin .max, some (x :: xs) => maxA x xs
    | _, _ => none
  | _ => none

/-- the operations that make memory, and look at none: what stands in the slot (at a block's number), and the block -/
def newOp (E : Env) (r : Regs) (op : Op) : Option ((Nat → AV) × AObj) :=
  match op with
  | .alloc t => match E.ty t with
    | some i => some (fun id => .ptr id 0, mkCells i.desc i.zero)
    | none => none
  | .box t x => match E.ty t, evalOperand E r x with
    | some i, some v => some (fun id => .ptr id 0, mkCells i.desc v.cells)
    | _, _ => none
  | .buildSlice t len parts => match E.ty t, evalParts E r parts.toList with
    | some i, some ps => match i.desc with
      | .slice e => match E.ty e with
        | some ie => bif Nat.ble (len * ie.size) 16777216 then match fillA (fun k => some (k * ie.size, ie.size)) (repl len ie.zero) ps with
          | some cs => some (fun id => .slice id 0 len len ie.size true, mkCells ie.desc cs)
          | none => none else none
        | none => none
      | _ => none
    | _, _ => none
  | .makeMap _ none => some (fun id => .map id, .map [] 0)
  | .makeSlice t l c => match evalOperand E r l, evalOperand E r c with
    | some a, some b => match makeSliceA E t a b with
      | some (l, c, sz, o) => some (fun id => .slice id 0 l c sz true, o)
      | none => none
    | _, _ => none
  | .convert s d x => match E.ty s, evalOperand E r x with
    | some _, some a => match convNewA E d a with
      | some (l, o) => some (fun id => .slice id 0 l l 1 false, o)
      | none => none
    | _, _ => none
  | _ => none

/-- the operations that do something to memory -/
def actOp (E : Env) (r : Regs) (h : AH) (op : Op) : AN :=
  match op with
  | .store t a x => match evalOperand E r a, evalOperand E r x with
    | some (.ptr id off), some v => .ofH (storeT E h t id off v)
    | _, _ => .bad
  | .mapUpdate t m k x | .insert t m k x => match evalOperand E r m, evalOperand E r k, evalOperand E r x with
    | some m, some k, some v => .ofH (mapUpdateA E h t m k v)
    | _, _, _ => .bad
  | .call c => match c.callee with
    | .builtin b => match b, evalOperands E r c.args.toList with
      | .append, some [s, x] => match c.argTypes[0]?, c.argTypes[1]? with
        | some t, some u => .ofP (appendA E h t u s x)
        | _, _ => .bad
      | .copy, some [d, x] => match c.argTypes[0]? with
        | some t => .ofP (copyA E h t d x)
        | none => .bad
      | .clear, some [x] => match c.argTypes[0]? with
        | some t => .ofU (clearA E h t x)
        | none => .bad
      | .delete, some [m, k] => match c.argTypes[0]? with
        | some t => .ofU (deleteA E h t m k)
        | none => .bad
      | _, _ => .bad
    | .value f => match evalOperand E r f, evalOperands E r c.args.toList with
      | some f, some as => .call f as
      | _, _ => .bad
    | .invoke _ _ => .bad
  | _ => .bad

inductive OpKind where
  | look
  | make
  | act

def kindOf (E : Env) : Op → OpKind
  | .alloc _ | .box .. | .buildSlice .. | .makeSlice .. | .makeMap .. => .make
  | .convert _ d _ => bif isSliceTy E d then .make else .look
  | .store .. | .mapUpdate .. | .insert .. | .mapEntry .. | .entryStore .. => .act
  | .call c => match c.callee with
    | .builtin .len | .builtin .cap | .builtin .min | .builtin .max => .look
    | _ => .act
  | _ => .look

def opA (E : Env) (r : Regs) (h : AH) (op : Op) : AN :=
  match kindOf E op with
  | .look => .ofO (lookOp E r h op) h
  | .make => match newOp E r op with
    | some (v, o) => .value (v h.next) (h.new o)
    | none => .bad
  | .act => actOp E r h op

end Go.Ev
