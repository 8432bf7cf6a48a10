/-
  The evaluator itself: code, regions (also those that draw their order), calls, rounds of a range over a function. Definitions alone.
-/
import Derived.Test.YtkdjcmpgnkecfaaGreatDoorE1
noncomputable section
namespace Go.Ev

inductive AX where
  | normal
  | exit (id : Nat)
  | goto (l : Nat)
  | ret
  deriving Inhabited

/-- a frame's slots, how many there are, its marks of loops over functions; memory -/
structure St where
  r : Regs
  n : Nat
  ds : List Nat
  h : AH
  deriving Inhabited

def setReg (s : St) (d : Option Tmp) (v : AV) (h : AH) : Option St :=
  match d with
  | none => some { s with h }
  | some d => bif Nat.blt d s.n then some { s with r := s.r.set d v, h } else none

/-- does the operation run? -/
def guardOk (ops : Array Oper) (r : Regs) (o : Oper) : Bool :=
  match o.guard with
  | none => true
  | some (j, want) => match ops[j]? with
    | some g => match g.dst with
      | some d => match r.get d with
        | .bool b => b == want
        | _ => false
      | none => false
    | none => false

structure Fns where
  code : Option Nat → Code → St → Option (AX × St)
  call : AV → List AV → AH → Option (AV × AH)

def opStep (E : Env) (F : Fns) (ops : Array Oper) (o : Oper) (s : St) : Option St :=
  match guardOk ops s.r o with
  | false => setReg s o.dst .undef s.h
  | true => match opA E s.r s.h o.op with
    | .value v h => setReg s o.dst v h
    | .skip h => setReg s o.dst .undef h
    | .call f args => match F.call f args s.h with
      | some (v, h) => setReg s o.dst v h
      | none => none
    | .bad => none

def evOps (E : Env) (F : Fns) (ops : Array Oper) : List Oper → St → Option St
  | [], s => some s
  | o :: rest, s => match opStep E F ops o s with
    | some s => evOps E F ops rest s
    | none => none

/-! ### regions that draw their order -/
/-- an operation as it was met in the text's order: its number, the slots ahead of it, did it run, what a look came to -/
structure Seen where
  i : Nat
  o : Oper
  r : Regs
  v : AV

/-- the text's order, with the memories ahead of each act, and the looks (both: the last one first); what the operation i makes has the number base + i -/
def evTrace (E : Env) (F : Fns) (ops : Array Oper) (base : Nat) : List Oper → Nat → St → List (Nat × AH) → List Seen → Option (St × List (Nat × AH) × List Seen)
  | [], _, s, gs, ls => some (s, gs, ls)
  | o :: rest, i, s, gs, ls =>
    match kindOf E o.op, guardOk ops s.r o with
    | .act, _ => match opStep E F ops o s with
      | some s' => evTrace E F ops base rest (i + 1) s' ((i, s.h) :: gs) ls
      | none => none
    | .make, true => match newOp E s.r o.op with
      | some (v, ob) => match setReg s o.dst (v (base + i)) (s.h.put (base + i) ob) with
        | some s' => evTrace E F ops base rest (i + 1) s' gs ls
        | none => none
      | none => none
    | .look, true => match lookOp E s.r s.h o.op with
      | some v => match setReg s o.dst v s.h with
        | some s' => evTrace E F ops base rest (i + 1) s' gs ({ i, o, r := s.r, v } :: ls)
        | none => none
      | none => none
    | _, false => match setReg s o.dst .undef s.h with
      | some s' => evTrace E F ops base rest (i + 1) s' gs ls
      | none => none

def isAct (E : Env) (o : Oper) : Bool := match kindOf E o.op with
  | .act => true
  | _ => false

/-- what must have been done ahead, as bits -/
def edgeBits (acc : List Nat) : List Edge → Nat
  | [] => 0
  | e :: es => bif Region.binds .any e then 2 ^ e.on ||| acc.getD e.on 0 ||| edgeBits acc es else edgeBits acc es
def befores : List Oper → List Nat → List Nat
  | [], acc => acc
  | o :: rest, acc => befores rest (acc ++ [edgeBits acc o.after.toList])

def bitB (n i : Nat) : Bool := Nat.beq ((n >>> i) % 2) 1

def tmpOf : Operand → List Nat
  | .tmp t => [t]
  | _ => []
def tmpsOf (ops : Array Oper) (o : Oper) : List Nat :=
  o.op.operands.toList.flatMap tmpOf ++
    (match o.guard with
     | some (j, _) => match ops[j]? with
       | some g => match g.dst with
         | some d => [d]
         | none => []
       | none => []
     | none => [])

def memB (x : Nat) : List Nat → Bool
  | [] => false
  | y :: ys => Nat.beq x y || memB x ys

def apartB (ops : Array Oper) (x y : Oper) : Bool :=
  (match x.dst with
   | some d => !memB d (tmpsOf ops y) && (match y.dst with | some e => !Nat.beq d e | none => true)
   | none => true) &&
  (match y.dst with
   | some d => !memB d (tmpsOf ops x)
   | none => true)

/-- an operation and each ahead of it: ordered by edges, or apart and not both acts -/
def pairsTo (E : Env) (ops : Array Oper) (b j : Nat) (y : Oper) : List Oper → Nat → Bool
  | [], _ => true
  | x :: xs, i => bif Nat.blt i j then (bitB b i || (!(isAct E x && isAct E y) && apartB ops x y)) && pairsTo E ops b j y xs (i + 1) else true

def edgesTo (j : Nat) : List Edge → Bool
  | [] => true
  | e :: es => (!Region.binds .any e || Nat.blt e.on j) && edgesTo j es

def staticTo (E : Env) (ops : Array Oper) (bs : List Nat) : List Oper → Nat → Bool
  | [], _ => true
  | y :: rest, j => edgesTo j y.after.toList && pairsTo E ops (bs.getD j 0) j y ops.toList 0 && staticTo E ops bs rest (j + 1)

/-- a look comes to the same at each memory at which it may be done -/
def lookWin (bs : List Nat) (i : Nat) (f : AH → Bool) (last : AH) : List (Nat × AH) → Bool
  | [] => f last
  | (a, g) :: rest => bif bitB (bs.getD i 0) a then lookWin bs i f last rest else f g && (bitB (bs.getD a 0) i || lookWin bs i f last rest)

def lookSame (E : Env) (s : Seen) (g : AH) : Bool :=
  match lookOp E s.r g s.o.op with
  | some v => AV.beq v s.v
  | none => false

def looksOk (E : Env) (bs : List Nat) (gs : List (Nat × AH)) (last : AH) : List Seen → Bool
  | [] => true
  | s :: rest => lookWin bs s.i (lookSame E s) last gs && looksOk E bs gs last rest

def evDrawn (E : Env) (F : Fns) (ops : Array Oper) (s : St) : Option St :=
  match befores ops.toList [] with
  | bs =>
  bif staticTo E ops bs ops.toList 0 then
    match evTrace E F ops s.h.next ops.toList 0 { s with h := { s.h with next := s.h.next + ops.size } } [] [] with
    | some (s', gs, ls) => bif looksOk E bs gs.reverse s'.h ls then some s' else none
    | none => none
  else none

/-! ### code -/
def loopN : Nat → (St → Option (AX × St)) → St → Option (AX × St)
  | 0, f, s => f s
  | k + 1, f, s => match loopN k f s with
    | some (.normal, s') => loopN k f s'
    | r => r

def scopeN (F : Fns) (ro : Option Nat) (body : Code) : Nat → Code → St → Option (AX × St)
  | 0, _, _ => none
  | k + 1, c, s => match F.code ro c s with
    | some (.goto l, s') => match findLabel body l with
      | some rest => scopeN F ro body k rest s'
      | none => some (.goto l, s')
    | r => r

/-- the block for the rounds' marks -/
def rangeStart (ro : Option Nat) (s : St) : Option (Nat × St) :=
  match ro with
  | some l => match s.h.get l with
    | .loop _ _ _ _ _ _ _ d => some (d, s)
    | _ => none
  | none => some (s.h.next, { s with h := s.h.new .deferred, ds := s.h.next :: s.ds })

def rangeTail (F : Fns) (ro : Option Nat) (fv : AV) (params : Array Tmp) (assign body : Code) (d : Nat) (s : St) : Option (AX × St) :=
  match F.call fv [.yield s.h.next] (s.h.new (.loop .ready none s.n s.r params assign body d)) with
  | none => none
  | some (_, h) =>
    match h.get s.h.next with
    | .loop st pend n r ps a b d => match st with
      | .busy => none
      | _ =>
        let s := { s with h := h.put s.h.next (.loop .exhausted pend n r ps a b d) }
        match pend with
        | none => some (.normal, s)
        | some c => F.code ro c s
    | _ => none

def codeStep (E : Env) (F : Fns) (ro : Option Nat) (c : Code) (s : St) : Option (AX × St) :=
  match c with
  | .skip | .label _ => some (.normal, s)
  | .seq a b => match F.code ro a s with
    | some (.normal, s') => F.code ro b s'
    | r => r
  | .cond x a b => match evalOperand E s.r x with
    | some (.bool true) => F.code ro a s
    | some (.bool false) => F.code ro b s
    | _ => none
  | .block id b => match F.code ro b s with
    | some (.exit id', s') => bif Nat.beq id' id then some (.normal, s') else some (.exit id', s')
    | r => r
  | .loop b => match loopN 14 (F.code ro b) s with
    | some (.normal, _) => none
    | r => r
  | .exit id => some (.exit id, s)
  | .goto l => some (.goto l, s)
  | .ret => some (.ret, s)
  | .scope b => scopeN F ro b 9 b s
  | .refuse _ => none
  | .region _ ops dr => match dr with
    | false => match evOps E F ops ops.toList s with
      | some s' => some (.normal, s')
      | none => none
    | true => match evDrawn E F ops s with
      | some s' => some (.normal, s')
      | none => none
  | .rangeFunc f params assign body =>
    match evalOperand E s.r f with
    | none => none
    | some fv => match rangeStart ro s with
      | none => none
      | some (d, s) => rangeTail F ro fv params assign body d s

def regsOf : List AV → Nat → Regs → Regs
  | [], _, r => r
  | v :: vs, i, r => regsOf vs (i + 1) (r.set i v)

def setParams : List Tmp → List AV → Nat → Regs → Option Regs
  | [], [], _, r => some r
  | t :: ts, v :: vs, n, r => bif Nat.blt t n then setParams ts vs n (r.set t v) else none
  | _, _, _, _ => none

def resultsA (E : Env) (r : Regs) (h : AH) : List ResultVar → Option (List AV)
  | [] => some []
  | .tmp t :: rest => match resultsA E r h rest with
    | some l => some (r.get t :: l)
    | none => none
  | .cell a t :: rest => match r.get a, resultsA E r h rest with
    | .ptr id off, some l => match loadT E h t id off with
      | some v => some (v :: l)
      | none => none
    | _, _ => none

def drops : List Nat → AH → Option AH
  | [], h => some h
  | d :: ds, h => match h.get d with
    | .deferred => drops ds (h.put d .dead)
    | _ => none

def callStep (E : Env) (F : Fns) (f : AV) (args : List AV) (h : AH) : Option (AV × AH) :=
  match f with
  | .func f first captured =>
    match E.fn f with
    | none => none
    | some fn => match fn.body with
      | none => none
      | some body =>
        let as := first ++ args ++ captured
        match F.code none body { r := regsOf as 0 .nil, n := max fn.ntmps as.length, ds := [], h } with
        | some (x, s) => match (match x with | .normal | .ret => true | _ => false) with
          | true => match drops s.ds s.h with
            | none => none
            | some h => match resultsA E s.r h fn.results.toList with
              | some [v] => some (v, h)
              | some [] => some (.undef, h)
              | some vs => some (.tuple vs, h)
              | none => none
          | false => none
        | none => none
  | .yield l =>
    match h.get l with
    | .loop .ready _ n r params assign body _ =>
      match setParams params.toList args n r with
      | none => none
      | some r' =>
        match F.code (some l) assign { r := r', n, ds := [], h } with
        | some (.normal, s) =>
          match s.h.get l with
          | .loop .ready pend n r params assign body' d =>
            match F.code (some l) body { s with h := s.h.put l (.loop .busy pend n r params assign body' d) } with
            | some (x, s) =>
              match s.h.get l, s.ds with
              | .loop _ _ n r params assign body d, [] =>
                match x with
                | .normal => some (.bool true, s.h.put l (.loop .ready none n r params assign body d))
                | .exit id => some (.bool false, s.h.put l (.loop .done (some (.exit id)) n r params assign body d))
                | .goto g => some (.bool false, s.h.put l (.loop .done (some (.goto g)) n r params assign body d))
                | .ret => some (.bool false, s.h.put l (.loop .done (some .ret) n r params assign body d))
              | _, _ => none
            | none => none
          | _ => none
        | _ => none
    | _ => none
  | _ => none

/-- what is known of some functions without looking into them -/
abbrev Prims := FuncId → Option (List AV → AH → Option (AV × AH))

def callPrim (E : Env) (p : Prims) (F : Fns) (f : AV) (args : List AV) (h : AH) : Option (AV × AH) :=
  match f with
  | .func g [] [] => match p g with
    | some q => match q args h with
      | some r => some r
      | none => callStep E F f args h
    | none => callStep E F f args h
  | _ => callStep E F f args h

def fnsStep (E : Env) (p : Prims) (F : Fns) : Fns := { code := codeStep E F, call := callPrim E p F }

def fns (E : Env) (p : Prims) : Nat → Fns
  | 0 => { code := fun _ _ _ => none, call := fun _ _ _ => none }
  | n + 1 => fnsStep E p (fns E p n)

end Go.Ev
