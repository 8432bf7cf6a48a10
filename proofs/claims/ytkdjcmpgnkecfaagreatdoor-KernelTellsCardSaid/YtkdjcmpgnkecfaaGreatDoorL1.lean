/-
  The code of a function, lifted: what it computes as a plain Lean function of values and memory, no slots in sight. Definitions.
-/
import Derived.Test.YtkdjcmpgnkecfaaGreatDoorL0
noncomputable section
namespace Go.Ev
set_option linter.unusedVariables false

def Tr.del {α : Type} (t : Tr α) : Nat → Tr α :=
  Tr.rec (motive := fun _ => Nat → Tr α) (fun _ => .nil)
    (fun l v r ihl ihr k => Bool.rec (Bool.rec (.node l v (ihr (Nat.sub (Nat.div k 2) 1))) (.node (ihl (Nat.div k 2)) v r) (Nat.beq (Nat.mod k 2) 1)) (.node l none r) (Nat.beq k 0)) t

/-! ### how pieces are put together -/
/-- what a piece of code comes to: how it ends, some values, memory -/
abbrev R0 := AX × List AV × AH
abbrev KT := AX → Regs → AH → Option R0

def bO {α : Type} (o : Option α) (k : α → Option R0) : Option R0 := match o with
  | some a => k a
  | none => none
def bP (o : Option (AV × AH)) (k : AV → AH → Option R0) : Option R0 := match o with
  | some (v, h) => k v h
  | none => none
def bN (o : Option ((Nat → AV) × AObj)) (h : AH) (k : AV → AH → Option R0) : Option R0 := match o with
  | some (f, ob) => k (f h.next) (h.new ob)
  | none => none
def bX (o : Option R0) (k : AX → List AV → AH → Option R0) : Option R0 := match o with
  | some (x, vs, h) => k x vs h
  | none => none
def unc (vs : List AV) (k : AV → List AV → Option R0) : Option R0 := match vs with
  | v :: vs => k v vs
  | [] => none
def unn (vs : List AV) (k : Option R0) : Option R0 := match vs with
  | [] => k
  | _ :: _ => none
/-- a test -/
def onT (v : AV) (a b : Option R0) : Option R0 := match v with
  | .bool true => a
  | .bool false => b
  | _ => none
def endX (x : AX) (a b : Option R0) (c : Nat → Option R0) : Option R0 := match x with
  | .normal => a
  | .ret => b
  | .exit i => c i
  | .goto _ => none
def endB (id : Nat) (x : AX) (a b : Option R0) (c : Nat → Option R0) : Option R0 := match x with
  | .exit i => bif Nat.beq i id then a else c i
  | .ret => b
  | .normal => none
  | .goto _ => none
/-- an exit from one of these -/
def exI : List Nat → Nat → (Nat → Option R0) → Option R0
  | [], _, _ => none
  | j :: js, i, k => bif Nat.beq i j then k j else exI js i k
def loopD : Nat → (List AV → AH → Option R0) → List AV → AH → Option R0
  | 0, f, vs, h => f vs h
  | k + 1, f, vs, h => match loopD k f vs h with
    | some (.normal, vs', h') => loopD k f vs' h'
    | r => r

/-! ### operations on values -/
def pickV (c a b : AV) : Option AV := match c with
  | .bool true => some a
  | .bool false => some b
  | _ => none
def loadV (E : Env) (h : AH) (t : TypeId) (a : AV) : Option AV := match a with
  | .ptr id off => loadT E h t id off
  | _ => none
def storeV (E : Env) (h : AH) (t : TypeId) (a v : AV) : Option AH := match a with
  | .ptr id off => storeT E h t id off v
  | _ => none
def nilV (v : AV) : Option AV := match v with
  | .ptr id off => some (.ptr id off)
  | .func f a b => some (.func f a b)
  | .yield l => some (.yield l)
  | _ => none
def extractV (v : AV) (i : Nat) : Option AV := match v with
  | .tuple vs => vs[i]?
  | _ => none
def intV : Option AV → Option (Option Int)
  | none => some none
  | some (.int _ n) => some (some n)
  | _ => none
def sliceV (E : Env) (h : AH) (t : TypeId) (v : AV) (lo hi mx : Option AV) : Option AV := match intV lo, intV hi, intV mx with
  | some lo, some hi, some mx => sliceA E h t v lo hi mx
  | _, _, _ => none
def buildV (E : Env) (t : TypeId) (ps : List (Nat × AV)) : Option AV := match E.ty t with
  | some i => match i.desc with
    | .struct _ => match fillA (fun k => i.parts[k]?) i.zero ps with
      | some cs => some (.agg cs)
      | none => none
    | .array _ e => match E.ty e with
      | some ie => match fillA (fun k => some (k * ie.size, ie.size)) i.zero ps with
        | some cs => some (.agg cs)
        | none => none
      | none => none
    | _ => none
  | none => none
def allocN (E : Env) (t : TypeId) : Option ((Nat → AV) × AObj) := match E.ty t with
  | some i => some (fun id => .ptr id 0, mkCells i.desc i.zero)
  | none => none
def boxN (E : Env) (t : TypeId) (v : AV) : Option ((Nat → AV) × AObj) := match E.ty t with
  | some i => some (fun id => .ptr id 0, mkCells i.desc v.cells)
  | none => none
def buildSliceN (E : Env) (t : TypeId) (len : Nat) (ps : List (Nat × AV)) : Option ((Nat → AV) × AObj) := match E.ty t with
  | some i => match i.desc with
    | .slice e => match E.ty e with
      | some ie => bif Nat.ble (len * ie.size) 16777216 then match fillA (fun k => some (k * ie.size, ie.size)) (repl len ie.zero) ps with
        | some cs => some (fun id => .slice id 0 len len ie.size true, mkCells ie.desc cs)
        | none => none else none
      | none => none
    | _ => none
  | none => none
def makeSliceN (E : Env) (t : TypeId) (l c : AV) : Option ((Nat → AV) × AObj) := match makeSliceA E t l c with
  | some (l, c, sz, o) => some (fun id => .slice id 0 l c sz true, o)
  | none => none
def makeMapN : Option ((Nat → AV) × AObj) := some (fun id => .map id, .map [] 0)
def convN (E : Env) (d : TypeId) (v : AV) : Option ((Nat → AV) × AObj) := match convNewA E d v with
  | some (l, o) => some (fun id => .slice id 0 l l 1 false, o)
  | none => none

/-! ### slots that are known -/
def atomD (E : Env) (ρ : Regs) : Operand → Option AV
  | .tmp t => Tr.get ρ t
  | .const v => constAV v
  | .func f => some (.func f [] [])
  | .global g => bif Nat.blt g E.ng then some (.ptr g 0) else none
def atomsD (E : Env) (ρ : Regs) : List Operand → Option (List AV)
  | [] => some []
  | x :: xs => match atomD E ρ x, atomsD E ρ xs with
    | some v, some l => some (v :: l)
    | _, _ => none
def partsD (E : Env) (ρ : Regs) : List (Nat × Operand) → Option (List (Nat × AV))
  | [] => some []
  | (i, x) :: xs => match atomD E ρ x, partsD E ρ xs with
    | some v, some l => some ((i, v) :: l)
    | _, _ => none
def optD (E : Env) (ρ : Regs) : Option Operand → Option (Option AV)
  | none => some none
  | some x => match atomD E ρ x with
    | some v => some (some v)
    | none => none
def a1 (E : Env) (ρ : Regs) (x : Operand) (k : AV → Option R0) : Option R0 := match atomD E ρ x with
  | some v => k v
  | none => none
def a2 (E : Env) (ρ : Regs) (x y : Operand) (k : AV → AV → Option R0) : Option R0 := match atomD E ρ x, atomD E ρ y with
  | some v, some w => k v w
  | _, _ => none

abbrev CT := AV → List AV → AH → Option (AV × AH)

def callD (E : Env) (C : CT) (ρ : Regs) (h : AH) (c : Call) (K : AV → AH → Option R0) : Option R0 :=
  match atomsD E ρ c.args.toList with
  | none => none
  | some vs => match c.callee with
    | .value f => a1 E ρ f fun f => bP (C f vs h) K
    | .invoke _ _ => none
    | .builtin b => match b, vs with
      | .len, [x] => match c.argTypes[0]? with
        | some t => bO (lenOpA E h t x) fun v => K v h
        | none => none
      | .cap, [x] => match c.argTypes[0]? with
        | some t => bO (capOpA E t x) fun v => K v h
        | none => none
      | .min, x :: xs => bO (minA x xs) fun v => K v h
      | .max, x :: xs => bO (maxA x xs) fun v => K v h
      | .append, [s, x] => match c.argTypes[0]?, c.argTypes[1]? with
        | some t, some u => bP (appendA E h t u s x) K
        | _, _ => none
      | .copy, [d, x] => match c.argTypes[0]? with
        | some t => bP (copyA E h t d x) K
        | none => none
      | .clear, [x] => match c.argTypes[0]? with
        | some t => bO (clearA E h t x) fun h => K .undef h
        | none => none
      | .delete, [m, k] => match c.argTypes[0]? with
        | some t => bO (deleteA E h t m k) fun h => K .undef h
        | none => none
      | _, _ => none

def opD (E : Env) (C : CT) (ρ : Regs) (h : AH) (op : Op) (K : AV → AH → Option R0) : Option R0 :=
  match op with
  | .move x => a1 E ρ x fun v => K v h
  | .assign x => a1 E ρ x fun v => K v h
  | .pick c a b => match atomD E ρ c, atomD E ρ a, atomD E ρ b with
    | some c, some a, some b => bO (pickV c a b) fun v => K v h
    | _, _, _ => none
  | .alloc t => bN (allocN E t) h K
  | .box t x => a1 E ρ x fun v => bN (boxN E t v) h K
  | .build t ps => match partsD E ρ ps.toList with
    | some ps => bO (buildV E t ps) fun v => K v h
    | none => none
  | .buildSlice t n ps => match partsD E ρ ps.toList with
    | some ps => bN (buildSliceN E t n ps) h K
    | none => none
  | .makeMap _ none => bN makeMapN h K
  | .makeSlice t l c => a2 E ρ l c fun l c => bN (makeSliceN E t l c) h K
  | .load t a => a1 E ρ a fun a => bO (loadV E h t a) fun v => K v h
  | .store t a x => a2 E ρ a x fun a x => bO (storeV E h t a x) fun h => K .undef h
  | .nilCheck x => a1 E ρ x fun v => bO (nilV v) fun v => K v h
  | .binOp op t x y _ => a2 E ρ x y fun x y => bO (binA E h op t x y) fun v => K v h
  | .unOp op _ x => a1 E ρ x fun x => bO (unA op x) fun v => K v h
  | .convert s d x => a1 E ρ x fun x => bif isSliceTy E d then (match E.ty s with
      | some _ => bN (convN E d x) h K
      | none => none) else bO (convA E h s d x) fun v => K v h
  | .makeFunc (.func f) first cap => match atomsD E ρ first.toList, atomsD E ρ cap.toList with
    | some a, some b => K (.func f a b) h
    | _, _ => none
  | .slice t x lo hi mx => a1 E ρ x fun x => match optD E ρ lo, optD E ρ hi, optD E ρ mx with
    | some lo, some hi, some mx => bO (sliceV E h t x lo hi mx) fun v => K v h
    | _, _, _ => none
  | .fieldAddr s x f => a1 E ρ x fun x => bO (fieldAddrA E s x f) fun v => K v h
  | .field s x f => a1 E ρ x fun x => bO (fieldA E s x f) fun v => K v h
  | .indexAddr t x i => a2 E ρ x i fun x i => bO (indexAddrA E t x i) fun v => K v h
  | .index t x i => a2 E ρ x i fun x i => bO (indexA E t x i) fun v => K v h
  | .lookup t x i ok => a2 E ρ x i fun x i => bO (lookupA E h t x i ok) fun v => K v h
  | .extract x i => a1 E ρ x fun x => bO (extractV x i) fun v => K v h
  | .mapUpdate t m k x => match atomD E ρ m, atomD E ρ k, atomD E ρ x with
    | some m, some k, some x => bO (mapUpdateA E h t m k x) fun h => K .undef h
    | _, _, _ => none
  | .insert t m k x => match atomD E ρ m, atomD E ρ k, atomD E ρ x with
    | some m, some k, some x => bO (mapUpdateA E h t m k x) fun h => K .undef h
    | _, _, _ => none
  | .call c => callD E C ρ h c K
  | _ => none

/-! ### pieces of code -/
def dstOk (n : Nat) (o : Oper) : Bool := match o.dst with
  | some d => Nat.blt d n
  | none => true
def dstL : List Oper → List Tmp
  | [] => []
  | o :: l => match o.dst with
    | some d => d :: dstL l
    | none => dstL l
def asg : Code → List Tmp
  | .region _ ops _ => dstL ops.toList
  | .seq a b => asg a ++ asg b
  | .cond _ a b => asg a ++ asg b
  | .block _ b => asg b
  | .loop b => asg b
  | .scope b => asg b
  | _ => []
def kill (ρ : Regs) : List Tmp → Regs
  | [] => ρ
  | t :: ts => kill (ρ.del t) ts
def getAll (ρ : Regs) : List Tmp → Option (List AV)
  | [] => some []
  | t :: ts => match Tr.get ρ t, getAll ρ ts with
    | some v, some l => some (v :: l)
    | _, _ => none
def setAllK : List Tmp → List AV → Regs → (Regs → Option R0) → Option R0
  | [], vs, ρ, K => unn vs (K ρ)
  | t :: ts, vs, ρ, K => unc vs fun v vs => setAllK ts vs (ρ.set t v) K
def outK (outs : List Tmp) : KT := fun x ρ h => match getAll ρ outs with
  | some vs => some (x, vs, h)
  | none => none

def opsD (E : Env) (C : CT) (n : Nat) : List Oper → (Regs → AH → Option R0) → Regs → AH → Option R0
  | [], K, ρ, h => K ρ h
  | o :: rest, K, ρ, h => bif dstOk n o then opD E C ρ h o.op fun v h => opsD E C n rest K (setD ρ o.dst v) h else none

abbrev Grp := Option (Nat × Bool) × List Oper
def eqGuard : Option (Nat × Bool) → Option (Nat × Bool) → Bool
  | none, none => true
  | some (i, a), some (j, b) => Nat.beq i j && (match a, b with
    | true, true => true
    | false, false => true
    | _, _ => false)
  | _, _ => false
/-- operations one behind the other that run under one test -/
def grps : List Oper → List Grp
  | [] => []
  | o :: rest => match grps rest with
    | (g, l) :: gs => bif eqGuard o.guard g then (g, o :: l) :: gs else (o.guard, [o]) :: (g, l) :: gs
    | [] => [(o.guard, [o])]
def undefs : List Tmp → List AV
  | [] => []
  | _ :: l => .undef :: undefs l
def subB : List Tmp → List Tmp → Bool
  | [], _ => true
  | t :: ts, l => memB t l && subB ts l
def dstsOk (n : Nat) : List Oper → Bool
  | [] => true
  | o :: l => dstOk n o && dstsOk n l

def regD (E : Env) (C : CT) (n : Nat) (ops : Array Oper) : List Grp → List (List Tmp) → (Regs → AH → Option R0) → Regs → AH → Option R0
  | [], _, K, ρ, h => K ρ h
  | (none, l) :: gs, os, K, ρ, h => opsD E C n l (fun ρ h => regD E C n ops gs os K ρ h) ρ h
  | (some (j, w), l) :: gs, os, K, ρ, h => match os, ops[j]? with
    | outs :: os, some g => match g.dst with
      | some d => bif subB outs (dstL l) && !memB d (dstL l) && dstsOk n l then
          match Tr.get ρ d with
          | some v => bX (match w with
              | true => onT v (opsD E C n l (outK outs .normal) ρ h) (some (.normal, undefs outs, h))
              | false => onT v (some (.normal, undefs outs, h)) (opsD E C n l (outK outs .normal) ρ h))
              fun _ vs h => setAllK outs vs (kill ρ (dstL l)) fun ρ => regD E C n ops gs os K ρ h
          | none => none
        else none
      | none => none
    | _, _ => none

/-! ### regions that draw their order -/
def AH.rsv (h : AH) (k : Nat) : AH := { h with next := h.next + k }
def bM (o : Option ((Nat → AV) × AObj)) (id : Nat) (h : AH) (k : AV → AH → Option R0) : Option R0 := match o with
  | some (f, ob) => k (f id) (h.put id ob)
  | none => none
/-- a look comes to the same at other memories -/
def bAll : List AH → (AH → Option AV) → AV → Option R0 → Option R0
  | [], f, v, k => k
  | g :: gs, f, v, k => match f g with
    | some w => bif AV.beq w v then bAll gs f v k else none
    | none => none

def newD (E : Env) (ρ : Regs) (id : Nat) (h : AH) (op : Op) (k : AV → AH → Option R0) : Option R0 :=
  match op with
  | .alloc t => bM (allocN E t) id h k
  | .box t x => a1 E ρ x fun v => bM (boxN E t v) id h k
  | .buildSlice t n ps => match partsD E ρ ps.toList with
    | some ps => bM (buildSliceN E t n ps) id h k
    | none => none
  | .makeMap _ none => bM makeMapN id h k
  | .makeSlice t l c => a2 E ρ l c fun l c => bM (makeSliceN E t l c) id h k
  | .convert s d x => a1 E ρ x fun x => match E.ty s with
      | some _ => bM (convN E d x) id h k
      | none => none
  | _ => none

def isSimpleTy (E : Env) (t : TypeId) : Bool := match E.ty t with
  | some i => match i.desc with
    | .int _ => true
    | .bool => true
    | .string => true
    | _ => false
  | none => false
def isIntTy (E : Env) (t : TypeId) : Bool := match E.ty t with
  | some i => match i.desc with
    | .int _ => true
    | _ => false
  | none => false
def isStrTy (E : Env) (t : TypeId) : Bool := match E.ty t with
  | some i => match i.desc with
    | .string => true
    | _ => false
  | none => false
def isMapTy (E : Env) (t : TypeId) : Bool := match E.ty t with
  | some i => match i.desc with
    | .map _ _ => true
    | _ => false
  | none => false
def isArrTy (E : Env) (t : TypeId) : Bool := match E.ty t with
  | some i => match i.desc with
    | .array _ _ => true
    | _ => false
  | none => false

/-- a look that hangs on memory, as a function of memory -/
def relook (E : Env) (ρ : Regs) (op : Op) : Option (AH → Option AV) :=
  match op with
  | .load t a => match atomD E ρ a with
    | some a => some fun g => loadV E g t a
    | none => some fun _ => none
  | .binOp op t x y _ => bif isSimpleTy E t then none else match atomD E ρ x, atomD E ρ y with
    | some x, some y => some fun g => binA E g op t x y
    | _, _ => some fun _ => none
  | .convert s d x => bif isIntTy E d || isStrTy E s then none else match atomD E ρ x with
    | some x => some fun g => convA E g s d x
    | none => some fun _ => none
  | .slice t x lo hi mx => bif isArrTy E t then (match atomD E ρ x, optD E ρ lo, optD E ρ hi, optD E ρ mx with
      | some x, some lo, some hi, some mx => some fun g => sliceV E g t x lo hi mx
      | _, _, _, _ => some fun _ => none) else none
  | .lookup t x i ok => match atomD E ρ x, atomD E ρ i with
    | some x, some i => some fun g => lookupA E g t x i ok
    | _, _ => some fun _ => none
  | .call c => match c.callee, atomsD E ρ c.args.toList with
    | .builtin .len, some [x] => match c.argTypes[0]? with
      | some t => bif isMapTy E t then some fun g => lenOpA E g t x else none
      | none => some fun _ => none
    | .builtin .cap, _ => none
    | .builtin .min, _ => none
    | .builtin .max, _ => none
    | _, _ => some fun _ => none
  | .move _ | .assign _ | .pick .. | .build .. | .nilCheck _ | .unOp .. | .makeFunc .. | .fieldAddr .. | .field .. | .indexAddr .. | .index .. | .extract .. => none
  | _ => some fun _ => none

structure SeenD where
  i : Nat
  ver : Nat
  op : Op
  ρ : Regs
  v : AV

abbrev TK := Nat → Nat → Regs → AH → List (Nat × Nat × AH) → List SeenD → Option R0

def trD (E : Env) (C : CT) (n base : Nat) (run : Bool) : List Oper → TK → TK
  | [], K, i, ver, ρ, h, gs, ls => K i ver ρ h gs ls
  | o :: rest, K, i, ver, ρ, h, gs, ls => bif dstOk n o then
      match kindOf E o.op, run with
      | .act, true => opD E C ρ h o.op fun v g => trD E C n base run rest K (i + 1) (ver + 1) (setD ρ o.dst v) g ((i, ver, h) :: gs) ls
      | .act, false => trD E C n base run rest K (i + 1) ver (setD ρ o.dst .undef) h ((i, ver, h) :: gs) ls
      | .make, true => newD E ρ (base + i) h o.op fun v g => trD E C n base run rest K (i + 1) (ver + 1) (setD ρ o.dst v) g gs ls
      | .look, true => opD E C ρ h o.op fun v _ => trD E C n base run rest K (i + 1) ver (setD ρ o.dst v) h gs ({ i, ver, op := o.op, ρ, v } :: ls)
      | _, false => trD E C n base run rest K (i + 1) ver (setD ρ o.dst .undef) h gs ls
    else none

def cands (bs : List Nat) (i ver lastVer : Nat) (last : AH) : List (Nat × Nat × AH) → List AH
  | [] => bif Nat.beq ver lastVer then [] else [last]
  | (a, v, g) :: rest => bif bitB (bs.getD i 0) a then cands bs i ver lastVer last rest
    else bif bitB (bs.getD a 0) i then (bif Nat.beq ver v then [] else [g])
    else bif Nat.beq ver v then cands bs i ver lastVer last rest else g :: cands bs i ver lastVer last rest

def chkD (E : Env) (bs : List Nat) (gs : List (Nat × Nat × AH)) (last : AH) (lastVer : Nat) : List SeenD → Option R0 → Option R0
  | [], k => k
  | s :: rest, k => match relook E s.ρ s.op with
    | none => chkD E bs gs last lastVer rest k
    | some f => bAll (cands bs s.i s.ver lastVer last gs) f s.v (chkD E bs gs last lastVer rest k)

def trG (E : Env) (C : CT) (n base : Nat) (bs : List Nat) (ops : Array Oper) : List Grp → (Regs → AH → Option R0) → TK
  | [], K, i, ver, ρ, h, gs, ls => chkD E bs gs.reverse h ver ls (K ρ h)
  | (none, l) :: rest, K, i, ver, ρ, h, gs, ls => trD E C n base true l (trG E C n base bs ops rest K) i ver ρ h gs ls
  | (some (j, w), l) :: rest, K, i, ver, ρ, h, gs, ls => match ops[j]? with
    | some g => match g.dst with
      | some d => bif memB d (dstL l) then none else match Tr.get ρ d with
        | some v => match w with
          | true => onT v (trD E C n base true l (trG E C n base bs ops rest K) i ver ρ h gs ls) (trD E C n base false l (trG E C n base bs ops rest K) i ver ρ h gs ls)
          | false => onT v (trD E C n base false l (trG E C n base bs ops rest K) i ver ρ h gs ls) (trD E C n base true l (trG E C n base bs ops rest K) i ver ρ h gs ls)
        | none => none
      | none => none
    | none => none

def drawD (E : Env) (C : CT) (n : Nat) (ops : Array Oper) (K : Regs → AH → Option R0) (ρ : Regs) (h : AH) : Option R0 :=
  bif staticTo E ops (befores ops.toList []) ops.toList 0 then
    trG E C n h.next (befores ops.toList []) ops (grps ops.toList) K 0 0 ρ (h.rsv ops.size) [] []
  else none

/-- how code is to be lifted: where ways meet again, with the slots that are handed on; of a region the slots that each tested piece hands on -/
inductive An where
  | leaf
  | reg (os : List (List Tmp))
  | seq (a b : An)
  | cond (a b : An)
  | blk (a : An)
  | scp (a : An)
  | cut (outs : List Tmp) (ids : List Nat) (a : An)
  | loop (outs : List Tmp) (ids : List Nat) (a : An)
  | drawn

def seqX (K : KT) (k : Regs → AH → Option R0) : KT := fun x ρ h => match x with
  | .normal => k ρ h
  | .exit i => K (.exit i) ρ h
  | .ret => K .ret ρ h
  | .goto _ => none
def blkX (id : Nat) (K : KT) : KT := fun x ρ h => match x with
  | .normal => K .normal ρ h
  | .exit i => bif Nat.beq i id then K .normal ρ h else K (.exit i) ρ h
  | .ret => K .ret ρ h
  | .goto _ => none
def scpX (K : KT) : KT := fun x ρ h => match x with
  | .normal => K .normal ρ h
  | .exit i => K (.exit i) ρ h
  | .ret => K .ret ρ h
  | .goto _ => none

def den (E : Env) (C : CT) (n : Nat) : An → Code → KT → Regs → AH → Option R0
  | .cut outs ids a, c, K, ρ, h => bX (den E C n a c (outK outs) ρ h) fun x vs h => setAllK outs vs (kill ρ (asg c)) fun ρ => endX x (K .normal ρ h) (K .ret ρ h) fun i => exI ids i fun j => K (.exit j) ρ h
  | .leaf, c, K, ρ, h => match c with
    | .skip => K .normal ρ h
    | .label _ => K .normal ρ h
    | .exit id => K (.exit id) ρ h
    | .ret => K .ret ρ h
    | _ => none
  | .reg os, c, K, ρ, h => match c with
    | .region _ ops false => regD E C n ops (grps ops.toList) os (K .normal) ρ h
    | _ => none
  | .seq a b, c, K, ρ, h => match c with
    | .seq c d => den E C n a c (seqX K (den E C n b d K)) ρ h
    | _ => none
  | .cond a b, c, K, ρ, h => match c with
    | .cond x c d => a1 E ρ x fun v => onT v (den E C n a c K ρ h) (den E C n b d K ρ h)
    | _ => none
  | .blk a, c, K, ρ, h => match c with
    | .block id c => den E C n a c (blkX id K) ρ h
    | _ => none
  | .scp a, c, K, ρ, h => match c with
    | .scope c => den E C n a c (scpX K) ρ h
    | _ => none
  | .loop outs ids a, c, K, ρ, h => match c with
    | .block id (.loop c) => match getAll ρ outs with
      | none => none
      | some vs => bX (loopD 14 (fun vs h => setAllK outs vs (kill ρ (asg c)) fun ρ => den E C n a c (outK outs) ρ h) vs h) fun x vs h =>
          setAllK outs vs (kill ρ (asg c)) fun ρ => endB id x (K .normal ρ h) (K .ret ρ h) fun i => exI ids i fun j => K (.exit j) ρ h
    | _ => none
  | .drawn, c, K, ρ, h => match c with
    | .region _ ops true => drawD E C n ops (K .normal) ρ h
    | _ => none

/-- a function's results -/
def resD (E : Env) (ρ : Regs) (h : AH) : List ResultVar → (List AV → Option R0) → Option R0
  | [], k => k []
  | .tmp t :: rest, k => match Tr.get ρ t with
    | some v => resD E ρ h rest fun l => k (v :: l)
    | none => none
  | .cell a t :: rest, k => match Tr.get ρ a with
    | some p => bO (loadV E h t p) fun v => resD E ρ h rest fun l => k (v :: l)
    | none => none
def finK (E : Env) (rs : List ResultVar) : KT := fun x ρ h => match x with
  | .normal => resD E ρ h rs fun vs => some (.ret, vs, h)
  | .ret => resD E ρ h rs fun vs => some (.ret, vs, h)
  | _ => none
def fnD (E : Env) (C : CT) (fn : Func) (a : An) (args : List AV) (h : AH) : Option R0 := match fn.body with
  | some c => den E C (max fn.ntmps args.length) a c (finK E fn.results.toList) (regsOf args 0 .nil) h
  | none => none
def resV : List AV → AV
  | [v] => v
  | [] => .undef
  | vs => .tuple vs
end Go.Ev
