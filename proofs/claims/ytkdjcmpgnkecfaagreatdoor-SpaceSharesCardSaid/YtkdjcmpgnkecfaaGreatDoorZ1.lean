/-
  Texts E0 E1 E2 E3 E4 E5 E6 E7 E8 E9 E10 E11 E12 E13 E14 E15 E16 E17 E18 E19 E20 E21 E22 E23 E24, joined; own names made short.
-/
import GoSem.Machine.Frame
import Derived.Calls
import Derived.Laws.Cells
import Derived.Laws.Entries
import Derived.Laws.StructEq
import Derived.Laws.BytesString
import Derived.AtR
import Derived.Orders
set_option linter.unusedVariables false
set_option linter.unusedSimpArgs false
set_option linter.unusedSectionVars false
set_option exponentiation.threshold 600
noncomputable section
namespace Go.a8
inductive bu(α:Type)where
 |nil
 |node (l:bu α) (v:Option α) (r:bu α)
 deriving Inhabited
namespace bu
variable{α:Type}
def get(t:bu α) :Nat->Option α:=
 bu.rec (motive:=λ_=>Nat->Option α) (λ_=>none)
  (λ_ v _ uC uD k=>Bool.rec (Bool.rec (uD (Nat.sub (Nat.div k 2) 1)) (uC (Nat.div k 2)) (Nat.beq (Nat.mod k 2) 1)) v (Nat.beq k 0)) t
def AM(d:Nat) :Nat->α->bu α:=
 Nat.rec (motive:=λ_=>Nat->α->bu α) (λ_ _=>.nil)
  (λ_ b1 k x=>Bool.rec (Bool.rec (.node .nil none (b1 (Nat.sub (Nat.div k 2) 1) x)) (.node (b1 (Nat.div k 2) x) none .nil) (Nat.beq (Nat.mod k 2) 1)) (.node .nil (some x) .nil) (Nat.beq k 0)) d
def set(t:bu α) :Nat->α->bu α:=
 bu.rec (motive:=λ_=>Nat->α->bu α) (λk x=>AM (Nat.add k 1) k x)
  (λl v r uC uD k x=>Bool.rec (Bool.rec (.node l v (uD (Nat.sub (Nat.div k 2) 1) x)) (.node (uC (Nat.div k 2) x) v r) (Nat.beq (Nat.mod k 2) 1)) (.node l (some x) r) (Nat.beq k 0)) t
def mr:List α->Nat->bu α->bu α
 |[],_,t=>t
 |x::xs,i,t=>mr xs (i+1) (t.set i x)
def ofList(l:List α) :bu α:=mr l 0 .nil
end bu
def pM:Int->Int->Bool
 | .ofNat m,.ofNat n=>Nat.ble m n
 | .negSucc _,.ofNat _=>true
 | .ofNat _,.negSucc _=>false
 | .negSucc m,.negSucc n=>Nat.ble n m
def mm(a b:Int) :Bool:= !pM b a
def jW:Int->Int->Bool
 | .ofNat m,.ofNat n=>Nat.beq m n
 | .negSucc m,.negSucc n=>Nat.beq m n
 |_,_=>false
def lS:IntKind->Nat
 | .i8=>128| .i16=>32768| .i32=>2147483648| .i64=>9223372036854775808
 | .u8=>256| .u16=>65536| .u32=>4294967296| .u64=>18446744073709551616
def b0(k:IntKind)(n:Int) :Int:=
 match n with
 | .ofNat m=>bif Nat.blt m (lS k)then .ofNat m else k.wrap (.ofNat m)
 | .negSucc m=>k.wrap (.negSucc m)
def jb(k:IntKind)(a b:Int) :Int:=k.wrap (BitVec.ofInt k.bits a&&&BitVec.ofInt k.bits b).toNat
def r4(k:IntKind)(a b:Int) :Int:=k.wrap (BitVec.ofInt k.bits a|||BitVec.ofInt k.bits b).toNat
def Is(k:IntKind)(a b:Int) :Int:=k.wrap (BitVec.ofInt k.bits a^^^BitVec.ofInt k.bits b).toNat
def RL(k:IntKind)(a b:Int) :Int:=k.wrap (BitVec.ofInt k.bits a&&& ~~~BitVec.ofInt k.bits b).toNat
def I_(k:IntKind)(a b:Int) :Int:=
 match a,b with
 | .ofNat m,.ofNat n=>bif Nat.blt m (lS k) &&Nat.blt n (lS k)then .ofNat (Nat.land m n)else jb k (.ofNat m) (.ofNat n)
 |a,b=>jb k a b
def M'(k:IntKind)(a b:Int) :Int:=
 match a,b with
 | .ofNat m,.ofNat n=>bif Nat.blt m (lS k) &&Nat.blt n (lS k)then .ofNat (Nat.lor m n)else r4 k (.ofNat m) (.ofNat n)
 |a,b=>r4 k a b
def lH:IntKind->IntKind->Bool
 | .i8,.i8| .i16,.i16| .i32,.i32| .i64,.i64| .u8,.u8| .u16,.u16| .u32,.u32| .u64,.u64=>true
 |_,_=>false
def dN(n off:Nat) :Nat:=(n>>> (8*off)) %256
inductive aa where
 |undef
 |bool (b:Bool)
 |int (k:IntKind) (n:Int)
 |sym (k:IntKind) (e:Nat)
 |str (len n:Nat)
 |nilPtr
 |ptr (id off:Nat)
 |bI
 |slice (id off len cap cT:Nat) (exact:Bool)
 |hG
 |map (id:Nat)
 |nilFunc
 |func (f:FuncId) (first captured:List aa)
 |yield (id:Nat)
 |nilIface
 |iface (t:TypeId) (v:aa)
 |agg (cs:List aa)
 |tuple (vs:List aa)
 deriving Inhabited,Repr
mutual
def aa.beq:aa->aa->Bool
 | .undef,.undef=>true
 | .bool a,.bool b=>a==b
 | .int k a,.int j b=>lH k j&&jW a b
 | .sym k a,.sym j b=>lH k j&&Nat.beq a b
 | .str l a,.str m b=>Nat.beq l m&&Nat.beq a b
 | .nilPtr,.nilPtr=>true
 | .ptr a b,.ptr c d=>Nat.beq a c&&Nat.beq b d
 | .bI,.bI=>true
 | .slice a b c d e f,.slice e' dK h3 fc de ht=>Nat.beq a e'&&Nat.beq b dK&&Nat.beq c h3&&Nat.beq d fc&&Nat.beq e de&&f==ht
 | .hG,.hG=>true
 | .map a,.map b=>Nat.beq a b
 | .nilFunc,.nilFunc=>true
 | .func f a b,.func g c d=>Nat.beq f g&&aa.qj a c&&aa.qj b d
 | .yield a,.yield b=>Nat.beq a b
 | .nilIface,.nilIface=>true
 | .iface t v,.iface u w=>Nat.beq t u&&aa.beq v w
 | .agg a,.agg b=>aa.qj a b
 | .tuple a,.tuple b=>aa.qj a b
 |_,_=>false
def aa.qj:List aa->List aa->Bool
 |[],[]=>true
 |a::cY,b::bs=>aa.beq a b&&aa.qj cY bs
 |_,_=>false
end
structure bK where
 desc:TypeDesc
 size:Nat
 bytes:Nat
 zero:List aa
 plain:Bool
 parts:List (Nat×Nat)
 deriving Inhabited
inductive bT where
 |dead
 |cells (size:Nat) (aps:Bool) (zero:List aa) (t:bu aa)
 |bytes (size:Nat) (aps:Bool) (n:Nat)
 |ro (size:Nat) (t:bu aa)
 |map (es:List (aa×aa×Nat)) (clock:Nat)
 |loop (st:LoopState) (pend:Option Code) (n:Nat) (hJ:bu aa) (params:Array Tmp) (assign body:Code) (defers:Nat)
 |deferred
 deriving Inhabited
structure ae where
 next:Nat
 dS:bu bT
 deriving Inhabited
def encode:List UInt8->Nat
 |[]=>0
 |b::bs=>b.toNat+256*encode bs
def E9:Value->Option aa
 | .bool b=>some (.bool b)
 | .int k n=>some (.int k n)
 | .string s=>some (.str s.data.toList.length (encode s.data.toList))
 | .pointer none=>some .nilPtr
 | .slice none 0 0=>some .bI
 | .map none=>some .hG
 | .nilFunc=>some .nilFunc
 | .nilIface=>some .nilIface
 | .func (.func f) ⟨[]⟩ ⟨[]⟩=>some (.func f [] [])
 |_=>none
def E8:List Value->Option (List aa)
 |[]=>some []
 |v::vs=>match E9 v,E8 vs with
  |some a,some l=>some (a::l)
  |_,_=>none
def zl(v:Value) :Option aa:=
 match v with
 | .agg cs=>match E8 cs.toList with
  |some l=>some (.agg l)
  |none=>none
 | .tuple ⟨[]⟩=>some .undef
 |v=>E9 v
inductive iB where
 |lit (n:Int)
 |var (e:Nat)
 deriving Inhabited,Repr
inductive Fact where
 |num (op:BinOp) (k:IntKind) (x y r:iB)
 |test (op:BinOp) (k:IntKind) (x y:iB) (r:Bool)
 |fits (x:Nat) (k:IntKind)
 deriving Inhabited
structure Env where
 fn:FuncId->Option Func
 ty:TypeId->Option bK
 facts:List Fact
 rZ:Nat
def aa.cells:aa->List aa
 | .agg cs=>cs
 |v=>[v]
abbrev bE:=bu aa
def bE.get(r:bE)(t:Nat) :aa:=match bu.get r t with
 |some v=>v
 |none=>.undef
def ek(E:Env)(r:bE) :Operand->Option aa
 | .tmp t=>some (r.get t)
 | .const v=>zl v
 | .func f=>some (.func f [] [])
 | .global g=>bif Nat.blt g E.rZ then some (.ptr g 0)else none
def lI(E:Env)(r:bE) :List Operand->Option (List aa)
 |[]=>some []
 |x::xs=>match ek E r x,lI E r xs with
  |some v,some l=>some (v::l)
  |_,_=>none
def ae.put(h:ae)(id:Nat)(o:bT) :ae:={h with dS:=h.dS.set id o}
def ae.get(h:ae)(id:Nat) :bT:=match h.dS.get id with
 |some o=>o
 |none=>.dead
def ae.new(h:ae)(o:bT) :ae:={next:=h.next+1,dS:=h.dS.set h.next o}
def EW:List aa->Option Nat
 |[]=>some 0
 | .int .u8 (.ofNat b)::cs=>match EW cs with
  |some n=>bif Nat.blt b 256 then some (b+256*n)else none
  |none=>none
 |_=>none
def jh:TypeDesc->Bool
 | .int .u8=>true
 |_=>false
def te(d:TypeDesc)(cs:List aa) :bT:=
 match jh d,EW cs with
 |true,some n=>.bytes cs.length false n
 |_,_=>.cells cs.length false [] (bu.ofList cs)
def bT.cell(o:bT)(off:Nat) :Option aa:=
 match o with
 | .cells size _ zero t=>
  bif Nat.blt off size then match t.get off with
   |some v=>some v
   |none=>zero[off%zero.length]?
  else none
 | .bytes size _ n=>bif Nat.blt off size then some (.int .u8 (.ofNat (dN n off)))else none
 | .ro size t=>bif Nat.blt off size then t.get off else none
 |_=>none
def bT.row:bT->Option (Nat×Bool)
 | .cells size s _ _=>some (size,s)
 | .bytes size s _=>some (size,s)
 |_=>none
def bT.live:bT->Bool
 | .dead| .ro .. =>false
 |_=>true
def bP(h:ae)(id off:Nat) :Option aa:=(h.get id).cell off
def bT.read(o:bT)(off:Nat) :Nat->Option (List aa)
 |0=>some []
 |k+1=>match o.cell off,o.read (off+1) k with
  |some v,some l=>some (v::l)
  |_,_=>none
def j4(h:ae)(id off k:Nat) :Option (List aa):=(h.get id).read off k
def dH:aa->Bool
 | .agg _| .tuple _| .undef=>false
 |_=>true
def bT.write(o:bT)(off:Nat)(v:aa) :Option bT:=
 match o with
 | .cells size s zero t=>bif Nat.blt off size&&dH v then some (.cells size s zero (t.set off v))else none
 | .bytes size s n=>
  match v with
  | .int .u8 (.ofNat b)=>bif Nat.blt off size&&Nat.blt b 256 then some (.bytes size s (n-(dN n off) <<< (8*off) +b<<< (8*off)))else none
  |_=>none
 |_=>none
def bT.writes(o:bT)(off:Nat) :List aa->Option bT
 |[]=>some o
 |v::vs=>match o.write off v with
  |some o=>o.writes (off+1) vs
  |none=>none
def j9(h:ae)(id off:Nat)(vs:List aa) :Option ae:=
 match(h.get id).writes off vs with
 |some o=>some (h.put id o)
 |none=>none
def oo(h:ae)(id off len:Nat) :Option Nat:=
 match h.get id with
 | .bytes size _ n=>bif Nat.ble (off+len) size then some ((n>>> (8*off)) %2^(8*len))else none
 |_=>none
def qd(h:ae)(id off len m:Nat) :Option ae:=
 match h.get id with
 | .bytes size s n=>
  bif Nat.ble (off+len) size then some (h.put id (.bytes size s (n-((n>>> (8*off)) %2^(8*len)) <<< (8*off) +m<<< (8*off))))else none
 |_=>none
def qF:TypeDesc->Bool
 | .struct _| .array _ _=>true
 |_=>false
def loadT(E:Env)(h:ae)(t:TypeId)(id off:Nat) :Option aa:=
 match E.ty t with
 |some i=>match qF i.desc with
  |true=>match j4 h id off i.size with
   |some cs=>some (.agg cs)
   |none=>none
  |false=>bP h id off
 |none=>none
def storeT(E:Env)(h:ae)(t:TypeId)(id off:Nat)(v:aa) :Option ae:=
 match E.ty t with
 |some i=>bif Nat.beq v.cells.length i.size&& !Nat.beq i.size 0 then j9 h id off v.cells else none
 |none=>none
def AL:List aa->Nat->List aa->List aa
 |cs,_,[]=>cs
 |cs,i,v::vs=>AL (cs.set i v) (i+1) vs
def nV(place:Nat->Option (Nat×Nat))(cells:List aa) :List (Nat×aa)->Option (List aa)
 |[]=>some cells
 |(i,v)::rest=>
  match place i with
  |none=>none
  |some (off,size)=>
   bif Nat.beq v.cells.length size&&Nat.ble (off+v.cells.length) cells.length then nV place (AL cells off v.cells) rest else none
def j5:Nat->List aa->List aa
 |0,_=>[]
 |n+1,l=>l++j5 n l
def sE(E:Env)(r:bE) :List (Nat×Operand)->Option (List (Nat×aa))
 |[]=>some []
 |(i,x)::xs=>match ek E r x,sE E r xs with
  |some v,some l=>some ((i,v)::l)
  |_,_=>none
def o4(E:Env)(t:TypeId)(cs:List aa)(off:Nat) :Option aa:=
 match E.ty t with
 |some i=>match qF i.desc with
  |true=>some (.agg ((cs.drop off).take i.size))
  |false=>cs[off]?
 |none=>none
def iB.beq:iB->iB->Bool
 | .lit a,.lit b=>jW a b
 | .var a,.var b=>Nat.beq a b
 |_,_=>false
def BT:BinOp->BinOp->Bool
 | .add,.add| .sub,.sub| .mul,.mul| .quo,.quo| .rem,.rem| .and,.and| .or,.or| .xor,.xor| .shl,.shl| .shr,.shr| .andNot,.andNot
 | .eql,.eql| .neq,.neq| .lss,.lss| .leq,.leq| .gtr,.gtr| .geq,.geq=>true
 |_,_=>false
def iB.eo(k:IntKind) :iB->aa
 | .lit n=>.int k n
 | .var e=>.sym k e
def sG:List Fact->BinOp->IntKind->iB->iB->Option aa
 |[],_,_,_,_=>none
 | .num op k x y r::fs,o,j,a,b=>bif BT op o&&lH k j&&x.beq a&&y.beq b then some (r.eo k)else sG fs o j a b
 | .test op k x y r::fs,o,j,a,b=>bif BT op o&&lH k j&&x.beq a&&y.beq b then some (.bool r)else sG fs o j a b
 | .fits _ _::fs,o,j,a,b=>sG fs o j a b
def B2:List Fact->Nat->IntKind->Bool
 |[],_,_=>false
 | .fits x k::fs,e,j=>(Nat.beq x e&&lH k j) ||B2 fs e j
 |_::fs,e,j=>B2 fs e j
def BS(E:Env)(k:IntKind)(x y:iB) :Option Bool:=
 match sG E.facts .eql k x y with
 |some (.bool b)=>some b
 |_=>none
def eqFields(E:Env)(f:TypeId->aa->aa->Option Bool) :List Field->List aa->List aa->Option Bool
 |[],_,_=>some true
 |fd::fs,xs,en=>
  match o4 E fd.type xs fd.offset,o4 E fd.type en fd.offset with
  |some a,some b=>
   match f fd.type a b with
   |some true=>eqFields E f fs xs en
   |some false=>some false
   |none=>none
  |_,_=>none
def bT.wK:bT->Bool
 | .cells _ false _ _=>true
 | .bytes _ false _=>true
 | .ro .. =>false
 |_=>false
def gE(E:Env)(h:ae) :Nat->TypeId->aa->aa->Option Bool
 |0,_,_,_=>none
 |d+1,t,x,y=>
  match E.ty t with
  |none=>none
  |some i=>
  match i.desc,x,y with
  | .bool,.bool a,.bool b=>some (a==b)
  | .int _,.int k a,.int et b=>bif lH k et then some (jW a b)else none
  | .int _,.sym k a,.int et b=>bif lH k et then BS E k (.var a) (.lit b)else none
  | .int _,.int k a,.sym et b=>bif lH k et then BS E k (.lit a) (.var b)else none
  | .int _,.sym k a,.sym et b=>bif lH k et then(bif Nat.beq a b then some true else BS E k (.var a) (.var b))else none
  | .string,.str l a,.str bQ b=>some (Nat.beq l bQ&&Nat.beq a b)
  | .pointer _,.nilPtr,.nilPtr=>some true
  | .pointer _,.nilPtr,.ptr _ _=>some false
  | .pointer _,.ptr _ _,.nilPtr=>some false
  | .pointer e,.ptr a o,.ptr b p=>
   match E.ty e with
   |some ie=>bif Nat.beq ie.size 0 then none else
    bif (h.get a).wK&&(h.get b).wK then some (Nat.beq a b&&Nat.beq o p)else none
   |none=>none
  | .struct fs,.agg xs,.agg en=>bif i.plain then eqFields E (gE E h d) fs.toList xs en else none
  | .slice _,.bI,.bI=>some true
  | .slice _,.bI,.slice .. =>some false
  | .slice _,.slice ..,.bI=>some false
  | .map _ _,.hG,.hG=>some true
  | .map _ _,.hG,.map _=>some false
  | .map _ _,.map _,.hG=>some false
  | .func _ _ _,.nilFunc,.nilFunc=>some true
  | .func _ _ _,.nilFunc,.func .. =>some false
  | .func _ _ _,.func ..,.nilFunc=>some false
  |_,_,_=>none
def AT(l a bQ b:Nat) :Option aa:=
 bif Nat.blt (l+bQ) 4611686018427387904 then some (.str (l+bQ) (a+b<<< (8*l)))else none
def nz(op:BinOp)(k:IntKind)(a b:Int) :Option aa:=
 match op with
 | .add=>some (.int k (b0 k (a+b)))
 | .sub=>some (.int k (b0 k (a-b)))
 | .mul=>some (.int k (b0 k (a*b)))
 | .quo=>bif jW b 0 then none else some (.int k (b0 k (a.tdiv b)))
 | .rem=>bif jW b 0 then none else some (.int k (a.tmod b))
 | .and=>some (.int k (I_ k a b))
 | .or=>some (.int k (M' k a b))
 | .xor=>some (.int k (Is k a b))
 | .andNot=>some (.int k (RL k a b))
 | .eql=>some (.bool (jW a b))
 | .neq=>some (.bool (!jW a b))
 | .lss=>some (.bool (mm a b))
 | .leq=>some (.bool (pM a b))
 | .gtr=>some (.bool (mm b a))
 | .geq=>some (.bool (pM b a))
 |_=>none
def Dw(op:BinOp)(k:IntKind)(a b:Int) :Option aa:=
 match b with
 | .negSucc _=>none
 | .ofNat n=>match op with
  | .shl=>some (.int k (b0 k (a*2^(min n k.bits))))
  | .shr=>some (.int k (a.fdiv (2^(min n k.bits))))
  |_=>none
def kZ:BinOp->Bool
 | .shl| .shr=>true
 |_=>false
def uc:aa->aa->Bool
 | .bool _,.bool _=>true
 | .nilPtr,.nilPtr=>true
 | .nilPtr,.ptr _ _=>true
 | .ptr _ _,.nilPtr=>true
 | .ptr _ _,.ptr _ _=>true
 | .agg _,.agg _=>true
 | .bI,.bI=>true
 | .bI,.slice .. =>true
 | .slice ..,.bI=>true
 | .hG,.hG=>true
 | .hG,.map _=>true
 | .map _,.hG=>true
 | .nilFunc,.nilFunc=>true
 | .nilFunc,.func .. =>true
 | .func ..,.nilFunc=>true
 |_,_=>false
def ax(E:Env)(h:ae)(op:BinOp)(t:TypeId)(x y:aa) :Option aa:=
 match x,y with
 | .int k a,.int et b=>bif kZ op then Dw op k a b else bif lH k et then nz op k a b else none
 | .sym k a,.int et b=>bif lH k et&& !kZ op then sG E.facts op k (.var a) (.lit b)else none
 | .int k a,.sym et b=>bif lH k et&& !kZ op then sG E.facts op k (.lit a) (.var b)else none
 | .sym k a,.sym et b=>bif lH k et&& !kZ op then sG E.facts op k (.var a) (.var b)else none
 | .str l a,.str bQ b=>
  match op with
  | .add=>AT l a bQ b
  | .eql=>some (.bool (Nat.beq l bQ&&Nat.beq a b))
  | .neq=>some (.bool (!(Nat.beq l bQ&&Nat.beq a b)))
  |_=>none
 |x,y=>bif uc x y then(match op,gE E h 9 t x y with
  | .eql,some b=>some (.bool b)
  | .neq,some b=>some (.bool (!b))
  |_,_=>none)else none
def gQ(op:UnOp)(x:aa) :Option aa:=
 match op,x with
 | .neg,.int k n=>some (.int k (b0 k (0-n)))
 | .xor,.int k n=>some (.int k (Is k (bif k.signed then-1 else k.max) n))
 | .not,.bool b=>some (.bool !b)
 |_,_=>none
def gB(E:Env)(h:ae)(src dst:TypeId)(x:aa) :Option aa:=
 match E.ty src,E.ty dst with
 |some s,some d=>
  match x with
  | .int _ n=>match d.desc with
   | .int k=>some (.int k (b0 k n))
   |_=>none
  | .sym _ e=>match d.desc with
   | .int k=>bif B2 E.facts e k then some (.sym k e)else none
   |_=>none
  | .str l n=>match d.desc with
   | .string=>some (.str l n)
   |_=>none
  | .bI=>match s.desc,d.desc with
   | .slice e,.string=>match E.ty e with
    |some ie=>bif jh ie.desc then some (.str 0 0)else none
    |none=>none
   |_,_=>none
  | .slice id off len _ _ _=>match s.desc,d.desc with
   | .slice e,.string=>match E.ty e with
    |some ie=>bif jh ie.desc then(bif Nat.beq len 0 then some (.str 0 0)else match oo h id off len with
     |some n=>some (.str len n)
     |none=>none)else none
    |none=>none
   |_,_=>none
  |_=>none
 |_,_=>none
def E'(E:Env)(dst:TypeId)(x:aa) :Option (Nat×bT):=
 match E.ty dst,x with
 |some d,.str l n=>match d.desc with
  | .slice e=>match E.ty e with
   |some ie=>bif jh ie.desc then some (l,.bytes l true n)else none
   |none=>none
  |_=>none
 |_,_=>none
def L0(E:Env)(t:TypeId) :Bool:=
 match E.ty t with
 |some i=>match i.desc with
  | .slice _=>true
  |_=>false
 |none=>false
def ql(x:Int)(y:Nat) :Option Nat:=
 match x with
 | .ofNat n=>bif Nat.ble n y then some n else none
 | .negSucc _=>none
def js(len cap:Nat)(exact:Bool)(low high max:Option Int) :Option (Nat×Nat×Nat×Bool):=
 match max,high with
 |some m,some h=>match ql m cap with
  |some m=>match ql h m with
   |some h=>match low with
    |some l=>match ql l h with
     |some l=>some (l,h,m,true)
     |none=>none
    |none=>some (0,h,m,true)
   |none=>none
  |none=>none
 |some _,none=>none
 |none,some h=>match ql h cap with
  |some h=>match low with
   |some l=>match ql l h with
    |some l=>some (l,h,cap,exact)
    |none=>none
   |none=>some (0,h,cap,exact)
  |none=>none
 |none,none=>match low with
  |some l=>match ql l len with
   |some l=>some (l,len,cap,exact)
   |none=>none
  |none=>some (0,len,cap,exact)
def tm(E:Env)(r:bE) :Option Operand->Option (Option Int)
 |none=>some none
 |some x=>match ek E r x with
  |some (.int _ n)=>some (some n)
  |_=>none
def kl(E:Env)(g:ae)(t:TypeId)(x:aa)(lo af gN:Option Int) :Option aa:=
 match E.ty t with
 |none=>none
 |some i=>
 match i.desc,x with
 | .string,.str len n=>
  bif gN.isSome then none else
  match js len len true lo af none with
  |some (l,h,_,_)=>some (.str (h-l) ((n>>> (8*l)) %2^(8*(h-l))))
  |none=>none
 | .slice e,.bI=>
  match js 0 0 true lo af gN,E.ty e with
  |some _,some _=>some .bI
  |_,_=>none
 | .slice e,.slice id off len cap cT ex=>
  match js len cap ex lo af gN,E.ty e with
  |some (l,h,m,ex),some ie=>bif Nat.beq ie.size cT then some (.slice id (off+l*cT) (h-l) (m-l) cT ex)else none
  |_,_=>none
 | .array n e,.ptr id off=>
  match E.ty e,js n n true lo af gN with
  |some ie,some (l,h,m,_)=>match(g.get id).row with
   |some (size,_)=>bif Nat.ble (off+n*ie.size) size then some (.slice id (off+l*ie.size) (h-l) (m-l) ie.size true)else none
   |none=>none
  |_,_=>none
 |_,_=>none
def aQ(E:Env)(s:TypeId)(x:aa)(f:Nat) :Option aa:=
 match E.ty s,x with
 |some i,.ptr id off=>match i.desc with
  | .struct fs=>match fs[f]? with
   |some fd=>match E.ty fd.type with
    |some gJ=>bif Nat.beq gJ.size 0 then none else some (.ptr id (off+fd.offset))
    |none=>none
   |none=>none
  |_=>none
 |_,_=>none
def Fo(E:Env)(s:TypeId)(x:aa)(f:Nat) :Option aa:=
 match E.ty s,x with
 |some i,.agg cs=>match i.desc with
  | .struct fs=>match fs[f]? with
   |some fd=>o4 E fd.type cs fd.offset
   |none=>none
  |_=>none
 |_,_=>none
def oe(x:Int)(n:Nat) :Option Nat:=
 match x with
 | .ofNat i=>bif Nat.blt i n then some i else none
 | .negSucc _=>none
def cZ(E:Env)(t:TypeId)(x g_:aa) :Option aa:=
 match E.ty t,g_ with
 |some i,.int _ n=>
  match i.desc,x with
  | .array len e,.ptr id off=>match E.ty e,oe n len with
   |some ie,some j=>some (.ptr id (off+j*ie.size))
   |_,_=>none
  | .slice e,.slice id off len _ cT _=>match E.ty e,oe n len with
   |some ie,some j=>bif Nat.beq ie.size cT then some (.ptr id (off+j*cT))else none
   |_,_=>none
  |_,_=>none
 |_,_=>none
def o2(E:Env)(t:TypeId)(x g_:aa) :Option aa:=
 match E.ty t,g_ with
 |some i,.int _ n=>
  match i.desc,x with
  | .array len e,.agg cs=>match E.ty e,oe n len with
   |some ie,some j=>o4 E e cs (j*ie.size)
   |_,_=>none
  | .string,.str len m=>match oe n len with
   |some j=>some (.int .u8 (.ofNat (dN m j)))
   |none=>none
  |_,_=>none
 |_,_=>none
def bK.zeroV(i:bK) :aa:=match qF i.desc with
 |true=>.agg i.zero
 |false=>i.zero.headD .undef
def qG:TypeDesc->Bool
 | .int _| .string| .bool=>true
 |_=>false
def Aq:List Field->Nat->Bool
 |[],_=>true
 |f::fs,i=>Nat.beq f.offset i&&Aq fs (i+1)
def wq(E:Env)(t:TypeId) :Bool:=
 match E.ty t with
 |some i=>qG i.desc||(match i.desc with
  | .struct fs=>i.plain&&Aq fs.toList 0&&Nat.beq i.size fs.toList.length&&fs.toList.all λf=>match E.ty f.type with
   |some gJ=>qG gJ.desc&&Nat.beq gJ.size 1
   |none=>false
  |_=>false)
 |none=>false
def og(E:Env)(h:ae)(eG:TypeId)(k:aa) :Bool:=
 wq E eG&&(match gE E h 5 eG k k with
  |some b=>b
  |none=>false) &&(match k,E.ty eG with
  | .agg cs,some i=>Nat.beq cs.length i.size
  |_,_=>true)
def L9:aa->aa->Bool
 | .agg a,.agg b=>Nat.beq a.length b.length
 |_,_=>true
def lJ(E:Env)(h:ae)(eG:TypeId)(k:aa) :List (aa×aa×Nat)->Nat->Option (Option (Nat×aa×Nat))
 |[],_=>some none
 |(et,v,b)::es,i=>
  bif L9 k et then match gE E h 5 eG k et with
  |some true=>some (some (i,v,b))
  |some false=>lJ E h eG k es (i+1)
  |none=>none else none
def pN(E:Env)(h:ae)(t:TypeId)(x g_:aa)(ok:Bool) :Option aa:=
 match E.ty t with
 |none=>none
 |some i=>match i.desc with
  | .map eG e=>
   match E.ty e with
   |none=>none
   |some ie=>
   bif og E h eG g_ then
    match x with
    | .hG=>match lJ E h eG g_ [] 0 with
     |some none=>some (bif ok then .tuple [ie.zeroV,.bool false]else ie.zeroV)
     |_=>none
    | .map id=>match h.get id with
     | .map es _=>match lJ E h eG g_ es 0 with
      |some (some (_,v,_))=>some (bif ok then .tuple [v,.bool true]else v)
      |some none=>some (bif ok then .tuple [ie.zeroV,.bool false]else ie.zeroV)
      |none=>none
     |_=>none
    |_=>none
   else none
  |_=>none
def GR:List (aa×aa×Nat)->Nat->aa->List (aa×aa×Nat)
 |[],_,_=>[]
 |(k,_,b)::es,0,v=>(k,v,b)::es
 |e::es,i+1,v=>e::GR es i v
def td(E:Env)(h:ae)(t:TypeId)(x k v:aa) :Option ae:=
 match E.ty t,x with
 |some i,.map id=>match i.desc,h.get id with
  | .map eG _,.map es clock=>
   bif og E h eG k then
    match lJ E h eG k es 0 with
    |some (some (i,_,_))=>some (h.put id (.map (GR es i v) clock))
    |some none=>some (h.put id (.map (es++[(k,v,clock)]) (clock+1)))
    |none=>none
   else none
  |_,_=>none
 |_,_=>none
def vN(E:Env)(h:ae)(t:TypeId)(x k:aa) :Option ae:=
 match E.ty t,x with
 |some i,.map id=>match i.desc,h.get id with
  | .map eG _,.map es clock=>
   bif og E h eG k then
    match lJ E h eG k es 0 with
    |some (some (i,_,_))=>some (h.put id (.map (es.eraseIdx i) clock))
    |some none=>some h
    |none=>none
   else none
  |_,_=>none
 |_,_=>none
def lx:aa->Option Nat
 | .bI=>some 0
 | .slice _ _ len _ _ _=>some len
 | .str len _=>some len
 |_=>none
def roomy(qO bytes:Nat) :Bool:=Nat.ble ((2*qO+200) *bytes) 140737488355328&&Nat.ble 1 bytes
def BE(h:ae)(x:aa)(n:Nat) :Option Nat:=
 match x with
 | .slice id off _ _ _ _=>oo h id off n
 | .str _ m=>some (m%2^(8*n))
 |_=>none
def nX(h:ae)(id:Nat)(ex:Bool)(o:Bool->bT) :Option ae:=
 match ex with
 |true=>some (h.new (o false))
 |false=>match(h.get id).row with
  |some (_,st)=>some ((h.put id .dead).new (o st))
  |none=>none
def h2(E:Env)(h:ae)(aoE ar3:TypeId)(s x:aa) :Option (aa×ae):=
 match E.ty aoE,E.ty ar3,lx x with
 |some si,some PA,some n=>
  match si.desc,(match PA.desc with| .slice _| .string=>true|_=>false)with
  | .slice e,true=>
   match E.ty e with
   |none=>none
   |some ie=>
   match n with
   |0=>match s with
    | .bI=>some (.bI,h)
    | .slice a b c d e f=>some (.slice a b c d e f,h)
    |_=>none
   |n+1=>
   match jh ie.desc with
   |true=>bif Nat.beq ie.size 1 then match BE h x (n+1)with
    |none=>none
    |some new=>
    match s with
    | .bI=>bif roomy (n+1) ie.bytes then some (.slice h.next 0 (n+1) (n+1) 1 false,h.new (.bytes (n+1) false new))else none
    | .slice id off len cap cT ex=>
     bif Nat.beq cT 1 then
     bif Nat.ble (len+(n+1)) cap then match qd h id (off+len) (n+1) new with
      |some h=>some (.slice id off (len+(n+1)) cap 1 ex,h)
      |none=>none
     else match oo h id off len with
      |none=>none
      |some old=>bif roomy (len+(n+1)) ie.bytes then
       match nX h id ex (λst=>.bytes (len+(n+1)) st (old+new<<< (8*len)))with
       |some g=>some (.slice h.next 0 (len+(n+1)) (len+(n+1)) 1 false,g)
       |none=>none
       else none
     else none
    |_=>none
    else none
   |false=>match x with
    | .slice xid xoff _ _ Et _=>bif Nat.beq Et ie.size&&Nat.ble 1 ie.size then match j4 h xid xoff ((n+1) *ie.size)with
     |none=>none
     |some new=>
     match s with
     | .bI=>bif roomy (n+1) ie.bytes then some (.slice h.next 0 (n+1) (n+1) ie.size false,h.new (.cells ((n+1) *ie.size) false [] (bu.ofList new)))else none
     | .slice id off len cap cT ex=>
      bif Nat.beq cT ie.size&&new.all dH then
      bif Nat.ble (len+(n+1)) cap then match j9 h id (off+len*ie.size) new with
       |some h=>some (.slice id off (len+(n+1)) cap ie.size ex,h)
       |none=>none
      else bif roomy (len+(n+1)) ie.bytes then
       match h.get id,Nat.beq off 0 with
       | .cells size _ zero t,true=>bif Nat.ble (len*ie.size) size then
        match nX h id ex (λst=>.cells ((len+(n+1)) *ie.size) st zero (bu.mr new (len*ie.size) t))with
        |some g=>some (.slice h.next 0 (len+(n+1)) (len+(n+1)) ie.size false,g)
        |none=>none
        else none
       |o,_=>match o.read off (len*ie.size)with
        |none=>none
        |some old=>match nX h id ex (λst=>.cells ((len+(n+1)) *ie.size) st [] (bu.ofList (old++new)))with
         |some g=>some (.slice h.next 0 (len+(n+1)) (len+(n+1)) ie.size false,g)
         |none=>none
      else none else none
     |_=>none
     else none
    |_=>none
  |_,_=>none
 |_,_,_=>none
def pg(E:Env)(h:ae)(ac5:TypeId)(d x:aa) :Option (aa×ae):=
 match E.ty ac5,lx x,(match d with| .str _ _=>none|d=>lx d)with
 |some SI,some a,some b=>
  match SI.desc with
  | .slice e=>
   match E.ty e with
   |none=>none
   |some ie=>
   match min a b with
   |0=>some (.int .i64 (.ofNat 0),h)
   |n+1=>
    match d with
    | .slice id off _ _ cT _=>
     bif Nat.beq cT ie.size then
     match jh ie.desc with
     |true=>bif Nat.beq ie.size 1 then match BE h x (n+1)with
      |some new=>match qd h id off (n+1) new with
       |some h=>some (.int .i64 (.ofNat (n+1)),h)
       |none=>none
      |none=>none else none
     |false=>match x with
      | .slice xid xoff _ _ Et _=>bif Nat.beq Et ie.size&&Nat.ble 1 ie.size then match j4 h xid xoff ((n+1) *cT)with
       |some cs=>match j9 h id off cs with
        |some h=>some (.int .i64 (.ofNat (n+1)),h)
        |none=>none
       |none=>none else none
      |_=>none
     else none
    |_=>none
  |_=>none
 |_,_,_=>none
def pf(E:Env)(h:ae)(t:TypeId)(x:aa) :Option ae:=
 match E.ty t with
 |none=>none
 |some i=>match x with
  | .hG=>some h
  | .bI=>some h
  | .slice id off len _ cT _=>match len with
   |0=>some h
   |n+1=>match i.desc with
    | .slice e=>match E.ty e with
     |none=>none
     |some ie=>bif Nat.beq cT ie.size then match jh ie.desc,ie.zero with
      |true,[.int .u8 (.ofNat 0)]=>bif Nat.beq ie.size 1 then qd h id off (n+1) 0 else none
      |_,_=>bif Nat.ble 1 ie.size then j9 h id off (j5 (n+1) ie.zero)else none else none
    |_=>none
  | .map id=>match h.get id with
   | .map _ clock=>some (h.put id (.map [] clock))
   |_=>none
  |_=>none
def wx(E:Env)(t:TypeId)(l c:aa) :Option (Nat×Nat×Nat×bT):=
 match E.ty t,l,c with
 |some i,.int _ (.ofNat l),.int _ (.ofNat c)=>match i.desc with
  | .slice e=>match E.ty e with
   |some ie=>
    bif Nat.ble l c&&Nat.ble (ie.bytes*c) 140737488355328&&Nat.ble 1 ie.bytes then
     match jh ie.desc,ie.zero with
     |true,[.int .u8 (.ofNat 0)]=>some (l,c,ie.size,.bytes c false 0)
     |_,_=>some (l,c,ie.size,.cells (c*ie.size) false ie.zero .nil)
    else none
   |none=>none
  |_=>none
 |_,_,_=>none
def rX:aa->List aa->Option aa
 |v,[]=>some v
 | .int k a,.int _ b::rest=>rX (.int k (bif mm b a then b else a)) rest
 |_,_=>none
def pP:aa->List aa->Option aa
 |v,[]=>some v
 | .int k a,.int _ b::rest=>pP (.int k (bif mm a b then b else a)) rest
 |_,_=>none
def dw(E:Env)(h:ae)(t:TypeId)(x:aa) :Option aa:=
 match E.ty t with
 |none=>none
 |some i=>match i.desc,x with
  | .string,.str l _=>some (.int .i64 (.ofNat l))
  | .array n _,_=>some (.int .i64 (.ofNat n))
  | .slice _,.bI=>some (.int .i64 (.ofNat 0))
  | .slice _,.slice _ _ l _ _ _=>some (.int .i64 (.ofNat l))
  | .map _ _,.hG=>some (.int .i64 (.ofNat 0))
  | .map _ _,.map id=>match h.get id with
   | .map es _=>some (.int .i64 (.ofNat es.length))
   |_=>none
  |_,_=>none
def EY(E:Env)(t:TypeId)(x:aa) :Option aa:=
 match E.ty t with
 |none=>none
 |some i=>match i.desc,x with
  | .slice _,.bI=>some (.int .i64 (.ofNat 0))
  | .slice _,.slice _ _ _ c _ true=>some (.int .i64 (.ofNat c))
  |_,_=>none
inductive o9 where
 |value (v:aa) (h:ae)
 |skip (h:ae)
 |call (f:aa) (args:List aa)
 |bad
 deriving Inhabited
def o9.MZ:Option aa->ae->o9
 |some v,h=>.value v h
 |none,_=>.bad
def o9.Ws:Option (aa×ae)->o9
 |some (v,h)=>.value v h
 |none=>.bad
def o9.Wr:Option ae->o9
 |some h=>.skip h
 |none=>.bad
def o9.Wt:Option ae->o9
 |some h=>.value .undef h
 |none=>.bad
def fi(E:Env)(r:bE)(h:ae)(op:Op) :Option aa:=
 match op with
 | .move x| .assign x=>ek E r x
 | .pick c a b=>match ek E r c with
  |some (.bool true)=>ek E r a
  |some (.bool false)=>ek E r b
  |_=>none
 | .build t parts=>match E.ty t,sE E r parts.toList with
  |some i,some ps=>match i.desc with
   | .struct _=>match nV (λk=>i.parts[k]?) i.zero ps with
    |some cs=>some (.agg cs)
    |none=>none
   | .array _ e=>match E.ty e with
    |some ie=>match nV (λk=>some (k*ie.size,ie.size)) i.zero ps with
     |some cs=>some (.agg cs)
     |none=>none
    |none=>none
   |_=>none
  |_,_=>none
 | .load t a=>match ek E r a with
  |some (.ptr id off)=>loadT E h t id off
  |_=>none
 | .nilCheck x=>match ek E r x with
  |some (.ptr id off)=>some (.ptr id off)
  |some (.func f a b)=>some (.func f a b)
  |some (.yield l)=>some (.yield l)
  |_=>none
 | .binOp op t x y _=>match ek E r x,ek E r y with
  |some a,some b=>ax E h op t a b
  |_,_=>none
 | .unOp op _ x=>match ek E r x with
  |some a=>gQ op a
  |_=>none
 | .convert s d x=>match ek E r x with
  |some a=>gB E h s d a
  |_=>none
 | .makeFunc fn first captured=>match fn,lI E r first.toList,lI E r captured.toList with
  | .func f,some a,some b=>some (.func f a b)
  |_,_,_=>none
 | .slice t x lo af gN=>match ek E r x,tm E r lo,tm E r af,tm E r gN with
  |some v,some lo,some af,some gN=>kl E h t v lo af gN
  |_,_,_,_=>none
 | .fieldAddr s x f=>match ek E r x with
  |some v=>aQ E s v f
  |none=>none
 | .field s x f=>match ek E r x with
  |some v=>Fo E s v f
  |none=>none
 | .indexAddr t x g_=>match ek E r x,ek E r g_ with
  |some v,some i=>cZ E t v i
  |_,_=>none
 | .index t x g_=>match ek E r x,ek E r g_ with
  |some v,some i=>o2 E t v i
  |_,_=>none
 | .lookup t x g_ ok=>match ek E r x,ek E r g_ with
  |some v,some i=>pN E h t v i ok
  |_,_=>none
 | .extract t i=>match ek E r t with
  |some (.tuple vs)=>vs[i]?
  |_=>none
 | .call c=>match c.callee,lI E r c.args.toList with
  | .builtin .len,some [x]=>match c.argTypes[0]? with
   |some t=>dw E h t x
   |none=>none
  | .builtin .cap,some [x]=>match c.argTypes[0]? with
   |some t=>EY E t x
   |none=>none
  | .builtin .min,some (x::xs)=>rX x xs
  | .builtin .max,some (x::xs)=>pP x xs
  |_,_=>none
 |_=>none
def kA(E:Env)(r:bE)(op:Op) :Option ((Nat->aa) ×bT):=
 match op with
 | .alloc t=>match E.ty t with
  |some i=>some (λid=>.ptr id 0,te i.desc i.zero)
  |none=>none
 | .box t x=>match E.ty t,ek E r x with
  |some i,some v=>some (λid=>.ptr id 0,te i.desc v.cells)
  |_,_=>none
 | .buildSlice t len parts=>match E.ty t,sE E r parts.toList with
  |some i,some ps=>match i.desc with
   | .slice e=>match E.ty e with
    |some ie=>bif Nat.ble (len*ie.size) 16777216 then match nV (λk=>some (k*ie.size,ie.size)) (j5 len ie.zero) ps with
     |some cs=>some (λid=>.slice id 0 len len ie.size true,te ie.desc cs)
     |none=>none else none
    |none=>none
   |_=>none
  |_,_=>none
 | .makeMap _ none=>some (λid=>.map id,.map [] 0)
 | .makeSlice t l c=>match ek E r l,ek E r c with
  |some a,some b=>match wx E t a b with
   |some (l,c,sz,o)=>some (λid=>.slice id 0 l c sz true,o)
   |none=>none
  |_,_=>none
 | .convert s d x=>match E.ty s,ek E r x with
  |some _,some a=>match E' E d a with
   |some (l,o)=>some (λid=>.slice id 0 l l 1 false,o)
   |none=>none
  |_,_=>none
 |_=>none
def oE(E:Env)(r:bE)(h:ae)(op:Op) :o9:=
 match op with
 | .store t a x=>match ek E r a,ek E r x with
  |some (.ptr id off),some v=>.Wr (storeT E h t id off v)
  |_,_=>.bad
 | .mapUpdate t m k x| .insert t m k x=>match ek E r m,ek E r k,ek E r x with
  |some m,some k,some v=>.Wr (td E h t m k v)
  |_,_,_=>.bad
 | .call c=>match c.callee with
  | .builtin b=>match b,lI E r c.args.toList with
   | .append,some [s,x]=>match c.argTypes[0]?,c.argTypes[1]? with
    |some t,some u=>.Ws (h2 E h t u s x)
    |_,_=>.bad
   | .copy,some [d,x]=>match c.argTypes[0]? with
    |some t=>.Ws (pg E h t d x)
    |none=>.bad
   | .clear,some [x]=>match c.argTypes[0]? with
    |some t=>.Wt (pf E h t x)
    |none=>.bad
   | .delete,some [m,k]=>match c.argTypes[0]? with
    |some t=>.Wt (vN E h t m k)
    |none=>.bad
   |_,_=>.bad
  | .value f=>match ek E r f,lI E r c.args.toList with
   |some f,some cY=>.call f cY
   |_,_=>.bad
  | .invoke _ _=>.bad
 |_=>.bad
inductive aa5 where
 |look
 |make
 |act
def kindOf(E:Env) :Op->aa5
 | .alloc _| .box .. | .buildSlice .. | .makeSlice .. | .makeMap .. =>.make
 | .convert _ d _=>bif L0 E d then .make else .look
 | .store .. | .mapUpdate .. | .insert .. | .mapEntry .. | .entryStore .. =>.act
 | .call c=>match c.callee with
  | .builtin .len| .builtin .cap| .builtin .min| .builtin .max=>.look
  |_=>.act
 |_=>.look
def jN(E:Env)(r:bE)(h:ae)(op:Op) :o9:=
 match kindOf E op with
 | .look=>.MZ (fi E r h op) h
 | .make=>match kA E r op with
  |some (v,o)=>.value (v h.next) (h.new o)
  |none=>.bad
 | .act=>oE E r h op
inductive eb where
 |normal
 |exit (id:Nat)
 |goto (l:Nat)
 |ret
 deriving Inhabited
structure cU where
 r:bE
 n:Nat
 ds:List Nat
 h:ae
 deriving Inhabited
def p0(s:cU)(d:Option Tmp)(v:aa)(h:ae) :Option cU:=
 match d with
 |none=>some {s with h}
 |some d=>bif Nat.blt d s.n then some {s with r:=s.r.set d v,h}else none
def h5(ops:Array Oper)(r:bE)(o:Oper) :Bool:=
 match o.guard with
 |none=>true
 |some (j,want)=>match ops[j]? with
  |some g=>match g.dst with
   |some d=>match r.get d with
    | .bool b=>b==want
    |_=>false
   |none=>false
  |none=>false
structure gT where
 code:Option Nat->Code->cU->Option (eb×cU)
 call:aa->List aa->ae->Option (aa×ae)
def kB(E:Env)(F:gT)(ops:Array Oper)(o:Oper)(s:cU) :Option cU:=
 match h5 ops s.r o with
 |false=>p0 s o.dst .undef s.h
 |true=>match jN E s.r s.h o.op with
  | .value v h=>p0 s o.dst v h
  | .skip h=>p0 s o.dst .undef h
  | .call f args=>match F.call f args s.h with
   |some (v,h)=>p0 s o.dst v h
   |none=>none
  | .bad=>none
def mN(E:Env)(F:gT)(ops:Array Oper) :List Oper->cU->Option cU
 |[],s=>some s
 |o::rest,s=>match kB E F ops o s with
  |some s=>mN E F ops rest s
  |none=>none
structure Seen where
 i:Nat
 o:Oper
 r:bE
 v:aa
def kd(E:Env)(F:gT)(ops:Array Oper)(base:Nat) :List Oper->Nat->cU->List (Nat×ae)->List Seen->Option (cU×List (Nat×ae) ×List Seen)
 |[],_,s,gs,ls=>some (s,gs,ls)
 |o::rest,i,s,gs,ls=>
  match kindOf E o.op,h5 ops s.r o with
  | .act,_=>match kB E F ops o s with
   |some aY=>kd E F ops base rest (i+1) aY ((i,s.h)::gs) ls
   |none=>none
  | .make,true=>match kA E s.r o.op with
   |some (v,ob)=>match p0 s o.dst (v (base+i)) (s.h.put (base+i) ob)with
    |some aY=>kd E F ops base rest (i+1) aY gs ls
    |none=>none
   |none=>none
  | .look,true=>match fi E s.r s.h o.op with
   |some v=>match p0 s o.dst v s.h with
    |some aY=>kd E F ops base rest (i+1) aY gs ({i,o,r:=s.r,v}::ls)
    |none=>none
   |none=>none
  |_,false=>match p0 s o.dst .undef s.h with
   |some aY=>kd E F ops base rest (i+1) aY gs ls
   |none=>none
def CT(E:Env)(o:Oper) :Bool:=match kindOf E o.op with
 | .act=>true
 |_=>false
def sD(acc:List Nat) :List Edge->Nat
 |[]=>0
 |e::es=>bif Region.binds .any e then 2^e.on|||acc.getD e.on 0|||sD acc es else sD acc es
def lf:List Oper->List Nat->List Nat
 |[],acc=>acc
 |o::rest,acc=>lf rest (acc++[sD acc o.after.toList])
def ka(n i:Nat) :Bool:=Nat.beq ((n>>>i) %2) 1
def Yz:Operand->List Nat
 | .tmp t=>[t]
 |_=>[]
def tmpsOf(ops:Array Oper)(o:Oper) :List Nat:=
 o.op.operands.toList.flatMap Yz++
  (match o.guard with
   |some (j,_)=>match ops[j]? with
    |some g=>match g.dst with
     |some d=>[d]
     |none=>[]
    |none=>[]
   |none=>[])
def uM(x:Nat) :List Nat->Bool
 |[]=>false
 |y::en=>Nat.beq x y||uM x en
def EL(ops:Array Oper)(x y:Oper) :Bool:=
 (match x.dst with
  |some d=> !uM d (tmpsOf ops y) &&(match y.dst with|some e=> !Nat.beq d e|none=>true)
  |none=>true) &&
 (match y.dst with
  |some d=> !uM d (tmpsOf ops x)
  |none=>true)
def Hm(E:Env)(ops:Array Oper)(b j:Nat)(y:Oper) :List Oper->Nat->Bool
 |[],_=>true
 |x::xs,i=>bif Nat.blt i j then(ka b i||(!(CT E x&&CT E y) &&EL ops x y)) &&Hm E ops b j y xs (i+1)else true
def Fg(j:Nat) :List Edge->Bool
 |[]=>true
 |e::es=>(!Region.binds .any e||Nat.blt e.on j) &&Fg j es
def AS(E:Env)(ops:Array Oper)(bs:List Nat) :List Oper->Nat->Bool
 |[],_=>true
 |y::rest,j=>Fg j y.after.toList&&Hm E ops (bs.getD j 0) j y ops.toList 0&&AS E ops bs rest (j+1)
def qK(bs:List Nat)(i:Nat)(f:ae->Bool)(last:ae) :List (Nat×ae)->Bool
 |[]=>f last
 |(a,g)::rest=>bif ka (bs.getD i 0) a then qK bs i f last rest else f g&&(ka (bs.getD a 0) i||qK bs i f last rest)
def rW(E:Env)(s:Seen)(g:ae) :Bool:=
 match fi E s.r g s.o.op with
 |some v=>aa.beq v s.v
 |none=>false
def uL(E:Env)(bs:List Nat)(gs:List (Nat×ae))(last:ae) :List Seen->Bool
 |[]=>true
 |s::rest=>qK bs s.i (rW E s) last gs&&uL E bs gs last rest
def ud(E:Env)(F:gT)(ops:Array Oper)(s:cU) :Option cU:=
 match lf ops.toList []with
 |bs=>
 bif AS E ops bs ops.toList 0 then
  match kd E F ops s.h.next ops.toList 0 {s with h:={s.h with next:=s.h.next+ops.size}} [] []with
  |some (aY,gs,ls)=>bif uL E bs gs.reverse aY.h ls then some aY else none
  |none=>none
 else none
def pO:Nat->(cU->Option (eb×cU))->cU->Option (eb×cU)
 |0,f,s=>f s
 |k+1,f,s=>match pO k f s with
  |some (.normal,aY)=>pO k f aY
  |r=>r
def wS(F:gT)(ro:Option Nat)(body:Code) :Nat->Code->cU->Option (eb×cU)
 |0,_,_=>none
 |k+1,c,s=>match F.code ro c s with
  |some (.goto l,aY)=>match findLabel body l with
   |some rest=>wS F ro body k rest aY
   |none=>some (.goto l,aY)
  |r=>r
def Di(ro:Option Nat)(s:cU) :Option (Nat×cU):=
 match ro with
 |some l=>match s.h.get l with
  | .loop _ _ _ _ _ _ _ d=>some (d,s)
  |_=>none
 |none=>some (s.h.next,{s with h:=s.h.new .deferred,ds:=s.h.next::s.ds})
def wM(F:gT)(ro:Option Nat)(fv:aa)(params:Array Tmp)(assign body:Code)(d:Nat)(s:cU) :Option (eb×cU):=
 match F.call fv [.yield s.h.next] (s.h.new (.loop .ready none s.n s.r params assign body d))with
 |none=>none
 |some (_,h)=>
  match h.get s.h.next with
  | .loop st pend n r ps a b d=>match st with
   | .busy=>none
   |_=>
    let s:={s with h:=h.put s.h.next (.loop .exhausted pend n r ps a b d)}
    match pend with
    |none=>some (.normal,s)
    |some c=>F.code ro c s
  |_=>none
def hj(E:Env)(F:gT)(ro:Option Nat)(c:Code)(s:cU) :Option (eb×cU):=
 match c with
 | .skip| .label _=>some (.normal,s)
 | .seq a b=>match F.code ro a s with
  |some (.normal,aY)=>F.code ro b aY
  |r=>r
 | .cond x a b=>match ek E s.r x with
  |some (.bool true)=>F.code ro a s
  |some (.bool false)=>F.code ro b s
  |_=>none
 | .block id b=>match F.code ro b s with
  |some (.exit o0,aY)=>bif Nat.beq o0 id then some (.normal,aY)else some (.exit o0,aY)
  |r=>r
 | .loop b=>match pO 14 (F.code ro b) s with
  |some (.normal,_)=>none
  |r=>r
 | .exit id=>some (.exit id,s)
 | .goto l=>some (.goto l,s)
 | .ret=>some (.ret,s)
 | .scope b=>wS F ro b 9 b s
 | .refuse _=>none
 | .region _ ops tY=>match tY with
  |false=>match mN E F ops ops.toList s with
   |some aY=>some (.normal,aY)
   |none=>none
  |true=>match ud E F ops s with
   |some aY=>some (.normal,aY)
   |none=>none
 | .rangeFunc f params assign body=>
  match ek E s.r f with
  |none=>none
  |some fv=>match Di ro s with
   |none=>none
   |some (d,s)=>wM F ro fv params assign body d s
def r7:List aa->Nat->bE->bE
 |[],_,r=>r
 |v::vs,i,r=>r7 vs (i+1) (r.set i v)
def wU:List Tmp->List aa->Nat->bE->Option bE
 |[],[],_,r=>some r
 |t::ts,v::vs,n,r=>bif Nat.blt t n then wU ts vs n (r.set t v)else none
 |_,_,_,_=>none
def jB(E:Env)(r:bE)(h:ae) :List ResultVar->Option (List aa)
 |[]=>some []
 | .tmp t::rest=>match jB E r h rest with
  |some l=>some (r.get t::l)
  |none=>none
 | .cell a t::rest=>match r.get a,jB E r h rest with
  | .ptr id off,some l=>match loadT E h t id off with
   |some v=>some (v::l)
   |none=>none
  |_,_=>none
def nT:List Nat->ae->Option ae
 |[],h=>some h
 |d::ds,h=>match h.get d with
  | .deferred=>nT ds (h.put d .dead)
  |_=>none
def lF(E:Env)(F:gT)(f:aa)(args:List aa)(h:ae) :Option (aa×ae):=
 match f with
 | .func f first captured=>
  match E.fn f with
  |none=>none
  |some fn=>match fn.body with
   |none=>none
   |some body=>
    let cY:=first++args++captured
    match F.code none body {r:=r7 cY 0 .nil,n:=max fn.ntmps cY.length,ds:=[],h}with
    |some (x,s)=>match(match x with| .normal| .ret=>true|_=>false)with
     |true=>match nT s.ds s.h with
      |none=>none
      |some h=>match jB E s.r h fn.results.toList with
       |some [v]=>some (v,h)
       |some []=>some (.undef,h)
       |some vs=>some (.tuple vs,h)
       |none=>none
     |false=>none
    |none=>none
 | .yield l=>
  match h.get l with
  | .loop .ready _ n r params assign body _=>
   match wU params.toList args n r with
   |none=>none
   |some cR=>
    match F.code (some l) assign {r:=cR,n,ds:=[],h}with
    |some (.normal,s)=>
     match s.h.get l with
     | .loop .ready pend n r params assign abU d=>
      match F.code (some l) body {s with h:=s.h.put l (.loop .busy pend n r params assign abU d)}with
      |some (x,s)=>
       match s.h.get l,s.ds with
       | .loop _ _ n r params assign body d,[]=>
        match x with
        | .normal=>some (.bool true,s.h.put l (.loop .ready none n r params assign body d))
        | .exit id=>some (.bool false,s.h.put l (.loop .done (some (.exit id)) n r params assign body d))
        | .goto g=>some (.bool false,s.h.put l (.loop .done (some (.goto g)) n r params assign body d))
        | .ret=>some (.bool false,s.h.put l (.loop .done (some .ret) n r params assign body d))
       |_,_=>none
      |none=>none
     |_=>none
    |_=>none
  |_=>none
 |_=>none
abbrev cn:=FuncId->Option (List aa->ae->Option (aa×ae))
def qn(E:Env)(p:cn)(F:gT)(f:aa)(args:List aa)(h:ae) :Option (aa×ae):=
 match f with
 | .func g [] []=>match p g with
  |some q=>match q args h with
   |some r=>some r
   |none=>lF E F f args h
  |none=>lF E F f args h
 |_=>lF E F f args h
def Fv(E:Env)(p:cn)(F:gT) :gT:={code:=hj E F,call:=qn E p F}
def fns(E:Env)(p:cn) :Nat->gT
 |0=>{code:=λ_ _ _=>none,call:=λ_ _ _=>none}
 |n+1=>Fv E p (fns E p n)
theorem beq_true{a b:Nat} :Nat.beq a b=true↔a=b:=by rw[Nat.beq_eq]
theorem beq_false{a b:Nat} :Nat.beq a b=false↔a≠b:=by rw[<-Bool.not_eq_true,beq_true]
theorem dM{a b:Nat} :Nat.blt a b=true↔a<b:=by rw[Nat.blt_eq]
theorem ec{a b:Nat} :Nat.ble a b=true↔a<=b:=by rw[Nat.ble_eq]
theorem abz(a b:Nat) :Nat.beq a b=decide (a=b):=by
 cases h:Nat.beq a b
 ·exact(decide_eq_false (beq_false.1 h)).symm
 ·exact(decide_eq_true (beq_true.1 h)).symm
theorem cond_decide{α:Type}(p:Prop) [Decidable p](a b:α) :(bif decide p then a else b)=if p then a else b:=by by_cases h:p<;>simp[h]
namespace bu
variable{α:Type}
theorem get_nil(j:Nat) :(bu.nil:bu α).get j=none:=rfl
theorem vH{β:Sort _}(b:Bool)(x y:β) :(Bool.rec x y b:β)=if b=true then y else x:=by cases b<;>rfl
theorem sJ(l r:bu α)(v:Option α)(j:Nat) :(bu.node l v r).get j=if j=0 then v else if j%2=1 then l.get (j/2)else r.get (j/2-1):=by have e:(bu.node l v r).get j=Bool.rec (Bool.rec (r.get (j/2-1)) (l.get (j/2)) (Nat.beq (j%2) 1)) v (Nat.beq j 0):=rfl;rw[e,vH,vH];simp only[beq_true]
theorem aeR:∀(d:Nat) (k:Nat) (x:α) (j:Nat),k<d->(AM d k x).get j=if j=k then some x else none:=by
 intro d;induction d with
 |zero=>intro k x j h;omega
 |succ d b1=>
  intro k x j h;have e:AM (d+1) k x=Bool.rec (Bool.rec (.node .nil none (AM d (k/2-1) x)) (.node (AM d (k/2) x) none .nil) (Nat.beq (k%2) 1)) (.node .nil (some x) .nil) (Nat.beq k 0):=rfl;rw[e,vH,vH];simp only[beq_true];by_cases av:k=0
  ·subst av;simp only[if_true,sJ,get_nil,ite_self]
  ·by_cases aI:k%2=1
   ·simp only[av,aI,if_true,if_false,sJ,get_nil,b1 (k/2) _ _ (by omega)];by_cases aO:j=0
    ·simp[aO];omega
    ·by_cases aF:j%2=1
     ·have:(j/2=k/2)=(j=k):=by apply propext;omega
      simp[aO,aF,this]
     ·have:¬j=k:=by omega
      simp[aO,aF,this]
   ·simp only[av,aI,if_false,sJ,get_nil,b1 (k/2-1) _ _ (by omega)];by_cases aO:j=0
    ·simp[aO];omega
    ·by_cases aF:j%2=1
     ·have:¬j=k:=by omega
      simp[aO,aF,this]
     ·have:(j/2-1=k/2-1)=(j=k):=by apply propext;omega
      simp[aO,aF,this]
theorem lL:∀(t:bu α) (k:Nat) (x:α) (j:Nat),(t.set k x).get j=if j=k then some x else t.get j:=by
 intro t;induction t with
 |nil=>
  intro k x j;have e:(bu.nil:bu α).set k x=AM (k+1) k x:=rfl;rw[e,aeR _ _ _ _ (by omega)];rfl
 |node l v r uC uD=>
  intro k x j;have e:(bu.node l v r).set k x=Bool.rec (Bool.rec (.node l v (r.set (k/2-1) x)) (.node (l.set (k/2) x) v r) (Nat.beq (k%2) 1)) (.node l (some x) r) (Nat.beq k 0):=rfl;rw[e,vH,vH];simp only[beq_true];by_cases av:k=0
  ·subst av;simp only[if_true,sJ];by_cases aO:j=0<;>simp[aO]
  ·by_cases aI:k%2=1
   ·simp only[av,aI,if_true,if_false,sJ,uC (k/2)];by_cases aO:j=0
    ·simp[aO];omega
    ·by_cases aF:j%2=1
     ·have:(j/2=k/2)=(j=k):=by apply propext;omega
      simp[aO,aF,this]
     ·have:¬j=k:=by omega
      simp[aO,aF,this]
   ·simp only[av,aI,if_false,sJ,uD (k/2-1)];by_cases aO:j=0
    ·simp[aO];omega
    ·by_cases aF:j%2=1
     ·have:¬j=k:=by omega
      simp[aO,aF,this]
     ·have:(j/2-1=k/2-1)=(j=k):=by apply propext;omega
      simp[aO,aF,this]
theorem xv:∀(l:List α) (i:Nat) (t:bu α) (j:Nat),(mr l i t).get j=if i<=j/\j<i+l.length then l[j-i]? else t.get j:=by
 intro l;induction l with
 |nil=>intro i t j;have:¬(i<=j/\j<i):=by omega
       simp[mr,this]
 |cons x xs b1=>
  intro i t j;simp only[mr,b1,lL,List.length_cons];by_cases h1:i+1<=j/\j<i+1+xs.length
  ·have ab:i<=j/\j<i+(xs.length+1):=by omega
   rw[if_pos h1,if_pos ab];obtain⟨m,hm⟩ :∃m,j-i=m+1:=⟨j-i-1,by omega⟩;have:j-(i+1)=m:=by omega
   rw[hm,this,List.getElem?_cons_succ]
  ·rw[if_neg h1];by_cases al:j=i
   ·have ab:i<=j/\j<i+(xs.length+1):=by omega
    rw[if_pos al,if_pos ab,al];simp
   ·have ab:¬(i<=j/\j<i+(xs.length+1)):=by omega
    rw[if_neg al,if_neg ab]
theorem xu(l:List α)(j:Nat) :(ofList l).get j=l[j]? :=by
 unfold ofList;rw[xv];by_cases h:0<=j/\j<0+l.length
 ·rw[if_pos h];simp
 ·rw[if_neg h,get_nil,List.getElem?_eq_none (by omega)]
end bu
structure Loc where
 b:Nat
 o:Nat
 room:Nat
abbrev Map:=Nat->Option Loc
def bytesOf:Nat->Nat->List UInt8
 |0,_=>[]
 |l+1,n=>UInt8.ofNat (n%256)::bytesOf l (n/256)
mutual
def bL(σ:Nat->Int)(μ:Map) :aa->Value->Prop
 | .undef,v=>v=.tuple #[]
 | .bool b,v=>v=.bool b
 | .int k n,v=>v=.int k n
 | .sym k e,v=>v=.int k (σ e)
 | .str l n,v=>n<2^(8*l)/\v=.string ⟨(bytesOf l n).toArray⟩
 | .nilPtr,v=>v=.pointer none
 | .ptr id off,v=>∃loc,μ id=some loc/\v=.pointer (some ⟨loc.b,loc.o+off,none⟩)
 | .bI,v=>v=.slice none 0 0
 | .slice id off len cap cT ex,v=>∃loc a c,μ id=some loc/\v=.slice (some a) len c/\len<=cap/\cap<=c/\(ex=true->c=cap)/\
  (c≠0->a=⟨loc.b,loc.o+off,none⟩)/\off+c*cT<=loc.room
 | .hG,v=>v=.map none
 | .map id,v=>∃loc,μ id=some loc/\v=.map (some loc.b)
 | .nilFunc,v=>v=.nilFunc
 | .func f a b,v=>∃x y,v=.func (.func f) x y/\cy σ μ a x.toList/\cy σ μ b y.toList
 | .yield id,v=>∃loc,μ id=some loc/\v=.func (.yield loc.b) #[] #[]
 | .nilIface,v=>v=.nilIface
 | .iface t x,v=>∃y,v=.iface t y/\bL σ μ x y
 | .agg cs,v=>∃vs,v=.agg vs/\cy σ μ cs vs.toList
 | .tuple cs,v=>∃vs,v=.tuple vs/\cy σ μ cs vs.toList
def cy(σ:Nat->Int)(μ:Map) :List aa->List Value->Prop
 |[],vs=>vs=[]
 |a::cY,vs=>∃v dJ,vs=v::dJ/\bL σ μ a v/\cy σ μ cY dJ
end
def Ext(μ bS:Map) :Prop:=∀id loc,μ id=some loc->bS id=some loc
theorem Ext.refl(μ:Map) :Ext μ μ:=λ_ _ h=>h
theorem Ext.trans{a b c:Map}(h:Ext a b)(bC:Ext b c) :Ext a c:=λi l x=>bC i l (h i l x)
mutual
theorem bL.ext{σ:Nat->Int}{μ bS:Map}(h:Ext μ bS) :∀(a:aa) (v:Value),bL σ μ a v->bL σ bS a v
 | .undef,_,r=>r
 | .bool _,_,r=>r
 | .int _ _,_,r=>r
 | .sym _ _,_,r=>r
 | .str _ _,_,r=>r
 | .nilPtr,_,r=>r
 | .ptr _ _,_,⟨loc,ay,r⟩=>⟨loc,h _ _ ay,r⟩
 | .bI,_,r=>r
 | .slice _ _ _ _ _ _,_,⟨loc,a,c,ay,r⟩=>⟨loc,a,c,h _ _ ay,r⟩
 | .hG,_,r=>r
 | .map _,_,⟨loc,ay,r⟩=>⟨loc,h _ _ ay,r⟩
 | .nilFunc,_,r=>r
 | .func _ a b,_,⟨x,y,e,p,q⟩=>⟨x,y,e,cy.ext h a _ p,cy.ext h b _ q⟩
 | .yield _,_,⟨loc,ay,r⟩=>⟨loc,h _ _ ay,r⟩
 | .nilIface,_,r=>r
 | .iface _ x,_,⟨y,e,p⟩=>⟨y,e,bL.ext h x _ p⟩
 | .agg cs,_,⟨vs,e,p⟩=>⟨vs,e,cy.ext h cs _ p⟩
 | .tuple cs,_,⟨vs,e,p⟩=>⟨vs,e,cy.ext h cs _ p⟩
theorem cy.ext{σ:Nat->Int}{μ bS:Map}(h:Ext μ bS) :∀(cY:List aa) (vs:List Value),cy σ μ cY vs->cy σ bS cY vs
 |[],_,r=>r
 |a::cY,_,⟨v,dJ,e,p,q⟩=>⟨v,dJ,e,bL.ext h a v p,cy.ext h cY dJ q⟩
end
section
variable{σ:Nat->Int}{μ:Map}
theorem cy.j1{vs:List Value} :cy σ μ [] vs↔vs=[]:=Iff.rfl
theorem cy.length:∀{cY:List aa} {vs:List Value},cy σ μ cY vs->cY.length=vs.length
 |[],_,h=>by rw[cy.j1.1 h];rfl
 |a::cY,_,⟨v,dJ,e,_,q⟩=>by rw[e,List.length_cons,List.length_cons,cy.length q]
theorem cy.append:∀{cY bs:List aa} {vs us:List Value},cy σ μ cY vs->cy σ μ bs us->cy σ μ (cY++bs) (vs++us)
 |[],_,_,_,h,bC=>by rw[cy.j1.1 h];exact bC
 |a::cY,_,_,_,⟨v,dJ,e,p,q⟩,bC=>by rw[e];exact⟨v,_,rfl,p,cy.append q bC⟩
theorem cy.get:∀{cY:List aa} {vs:List Value},cy σ μ cY vs->∀(i:Nat) (a:aa),cY[i]? =some a->∃v,vs[i]? =some v/\bL σ μ a v
 |[],_,_,i,a,h=>by simp at h
 |b::bs,_,⟨v,dJ,e,p,q⟩,0,a,h=>by simp at h;subst h;exact⟨v,by rw[e];rfl,p⟩
 |b::bs,_,⟨v,dJ,e,p,q⟩,i+1,a,h=>by obtain⟨u,hu,r⟩:=cy.get q i a (by simpa using h);exact⟨u,by rw[e];simpa using hu,r⟩
theorem cy.pV:∀{cY:List aa} {vs:List Value},cY.length=vs.length->(∀(i:Nat) (a:aa) (v:Value),cY[i]? =some a->vs[i]? =some v->bL σ μ a v)->cy σ μ cY vs
 |[],[],_,_=>rfl
 |a::cY,v::vs,ay,h=>⟨v,vs,rfl,h 0 a v rfl rfl,cy.pV (by simpa using ay) λi b u aj hu=>h (i+1) b u (by simpa using aj) (by simpa using hu)⟩
theorem cy.drop:∀{cY:List aa} {vs:List Value},cy σ μ cY vs->∀n,cy σ μ (cY.drop n) (vs.drop n)
 |cY,vs,h,0=>by simpa using h
 |[],vs,h,n+1=>by rw[cy.j1.1 h];simp[cy.j1]
 |a::cY,_,⟨v,dJ,e,p,q⟩,n+1=>by rw[e];simpa using cy.drop q n
theorem cy.take:∀{cY:List aa} {vs:List Value},cy σ μ cY vs->∀n,cy σ μ (cY.take n) (vs.take n)
 |cY,vs,h,0=>by simp[cy.j1]
 |[],vs,h,n+1=>by rw[cy.j1.1 h];simp[cy.j1]
 |a::cY,_,⟨v,dJ,e,p,q⟩,n+1=>by rw[e];exact⟨v,_,rfl,p,cy.take q n⟩
end
def l6(σ:Nat->Int)(μ:Map)(n:Nat)(r:bE)(tmps:Array Value) :Prop:=tmps.size=n/\∀i,bL σ μ (r.get i) (tmps.getD i undef)
def hz(σ:Nat->Int)(μ:Map) :List (aa×aa×Nat)->List MapEntry->Prop
 |[],es=>es=[]
 |(k,v,b)::cY,es=>∃e cV,es=e::cV/\bL σ μ k e.key/\bL σ μ v e.val/\e.born=b/\hz σ μ cY cV
def la(σ:Nat->Int)(μ:Map)(cell:Nat->Option aa)(size:Nat)(st:Bool)(loc:Loc)(x:Option Obj) :Prop:=
 ∃c E fr,x=some (.cells c E fr)/\c.size=loc.o+loc.room/\size<=loc.room/\(st=false->fr=(0,0))/\
  (∀i,i<c.size->¬(fr.1<=i/\i<fr.2))/\∀i,i<size->∃v y,cell i=some v/\c[loc.o+i]? =some y/\bL σ μ v y
def hq(σ:Nat->Int)(μ:Map)(o:bT)(loc:Loc)(x:Option Obj) :Prop:=
 match o with
 | .dead=>True
 | .cells size st zero t=>la σ μ (bT.cells size st zero t).cell size st loc x
 | .bytes size st n=>la σ μ (bT.bytes size st n).cell size st loc x
 | .ro size t=>loc.o=0/\la σ μ (bT.ro size t).cell size true loc x
 | .map es clock=>∃cV,x=some (.map cV clock)/\hz σ μ es cV.toList
 | .loop st pend n r params assign body d=>∃fn tmps oh,x=some (.loop {state:=st,pending:=pend,fn,tmps,params,assign,body,defers:=oh.b})/\μ d=some oh/\l6 σ μ n r tmps
 | .deferred=>x=some (.deferred (some []))
theorem l6.ext{σ:Nat->Int}{μ bS:Map}(h:Ext μ bS){n:Nat}{r:bE}{tmps:Array Value}(an:l6 σ μ n r tmps) :l6 σ bS n r tmps:=
 ⟨an.1,λi=>bL.ext h _ _ (an.2 i)⟩
theorem hz.ext{σ:Nat->Int}{μ bS:Map}(h:Ext μ bS) :∀{cY:List (aa×aa×Nat)} {es:List MapEntry},hz σ μ cY es->hz σ bS cY es
 |[],_,r=>r
 |(k,v,b)::cY,_,⟨e,cV,he,p,q,aj,r⟩=>⟨e,cV,he,bL.ext h _ _ p,bL.ext h _ _ q,aj,hz.ext h r⟩
theorem la.ext{σ:Nat->Int}{μ bS:Map}(h:Ext μ bS){cell:Nat->Option aa}{size:Nat}{st:Bool}{loc:Loc}{x:Option Obj}
  (an:la σ μ cell size st loc x) :la σ bS cell size st loc x:=by
 obtain⟨c,E,fr,h1,ab,al,aE,aL,bm⟩:=an;exact⟨c,E,fr,h1,ab,al,aE,aL,λi af=>let⟨v,y,p,q,r⟩:=bm i af;⟨v,y,p,q,bL.ext h _ _ r⟩⟩
theorem hq.ext{σ:Nat->Int}{μ bS:Map}(h:Ext μ bS){o:bT}{loc:Loc}{x:Option Obj}(an:hq σ μ o loc x) :hq σ bS o loc x:=by
 cases o with
 |dead=>trivial
 |cells size st zero t=>exact la.ext h an
 |bytes size st n=>exact la.ext h an
 |ro size t=>exact⟨an.1,la.ext h an.2⟩
 |map es clock=>obtain⟨cV,p,q⟩:=an;exact⟨cV,p,q.ext h⟩
 |loop st pend n r params assign body d=>obtain⟨fn,tmps,oh,p,q,s⟩:=an;exact⟨fn,tmps,oh,p,h _ _ q,s.ext h⟩
 |deferred=>exact an
def ae.wr(h:ae)(id:Nat) :Prop:=∀o,h.dS.get id=some o->o.live=true
structure dU(σ:Nat->Int)(μ:Map)(h:ae)(H:Array Obj) :Prop where
 obj:∀id loc o,μ id=some loc->h.dS.get id=some o->hq σ μ o loc H[loc.b]?
 inj:∀id o0 loc Mg,μ id=some loc->μ o0=some Mg->loc.b=Mg.b->h.wr id->h.dS.get o0≠some .dead->id=o0
 lt:∀id loc,μ id=some loc->loc.b<H.size
 hW:∀id,h.next<=id->μ id=none
 k8:∀id,h.next<=id->h.dS.get id=none
def Own(μ:Map)(h:ae)(b:Nat) :Prop:=∃id loc o,μ id=some loc/\h.dS.get id=some o/\o.live=true/\loc.b=b
structure ej(σ:Nat->Int)(μ:Map)(h:ae)(H:Array Obj)(bS:Map)(bC:ae)(kJ:Array Obj) :Prop where
 ext:Ext μ bS
 rel:dU σ bS bC kJ
 next:h.next<=bC.next
 nC:∀id,id<h.next->μ id=none->bS id=none
 kept:∀id,id<h.next->(μ id=none\/h.dS.get id=none)->bC.dS.get id=h.dS.get id
 size:H.size<=kJ.size
 own:∀b,b<H.size->Own bS bC b->Own μ h b
 frame:∀b,b<H.size->¬Own μ h b->kJ[b]? =H[b]?
section
variable{σ:Nat->Int}{μ bS aaQ:Map}{h bC TD:ae}{H kJ RB:Array Obj}
theorem ej.refl(r:dU σ μ h H) :ej σ μ h H μ h H:=
 ⟨Ext.refl _,r,Nat.le_refl _,λ_ _ x=>x,λ_ _ _=>rfl,Nat.le_refl _,λ_ _ x=>x,λ_ _ _=>rfl⟩
theorem ej.trans(a:ej σ μ h H bS bC kJ)(b:ej σ bS bC kJ aaQ TD RB) :ej σ μ h H aaQ TD RB where
 ext:=a.ext.trans b.ext
 rel:=b.rel
 next:=Nat.le_trans a.next b.next
 nC:=λid af aw=>b.nC id (Nat.lt_of_lt_of_le af a.next) (a.nC id af aw)
 kept:=λid af aw=>by
  have e:=a.kept id af aw;rw[<-e];refine b.kept id (Nat.lt_of_lt_of_le af a.next) ?_;rcases aw with aw|aw
  ·exact .inl (a.nC id af aw)
  ·exact .inr (e.trans aw)
 size:=Nat.le_trans a.size b.size
 own:=λx ag bg=>a.own x ag (b.own x (Nat.lt_of_lt_of_le ag a.size) bg)
 frame:=λx ag aw=>(b.frame x (Nat.lt_of_lt_of_le ag a.size) λbg=>aw (a.own x ag bg)).trans (a.frame x ag aw)
theorem nJ(h:ae)(id:Nat)(o:bT)(j:Nat) :(h.put id o).dS.get j=if j=id then some o else h.dS.get j:=bu.lL _ _ _ _
theorem oy(h:ae)(o:bT)(j:Nat) :(h.new o).dS.get j=if j=h.next then some o else h.dS.get j:=bu.lL _ _ _ _
theorem ae.get_eq{h:ae}{id:Nat}{o:bT}(e:h.dS.get id=some o) :h.get id=o:=by simp[ae.get,e]
theorem ae.nk{h:ae}{id:Nat}(e:h.get id≠.dead) :h.dS.get id=some (h.get id):=by
 unfold ae.get at*
 cases ag:h.dS.get id with
 |none=>rw[ag]at e;exact absurd rfl e
 |some o=>rfl
theorem dU.put(r:dU σ μ h H){id:Nat}{loc:Loc}{o cg:bT}(hm:μ id=some loc)(bg:h.dS.get id=some o)(ay:o.live=true)
  (aA:kJ.size=H.size) (aJ:∀b,b≠loc.b->kJ[b]? =H[b]?) (an:hq σ μ cg loc kJ[loc.b]?) :ej σ μ h H μ (h.put id cg) kJ where
 ext:=Ext.refl _
 rel:=
  {obj:=λj l q aO aF=>by
    rw[nJ]at aF;by_cases e:j=id
    ·rw[if_pos e]at aF;cases aF;rw[e,hm]at aO;cases aO;exact an
    ·rw[if_neg e]at aF;by_cases aC:q=.dead
     ·rw[aC];trivial
     ·have aj:l.b≠loc.b:=λaj=>e (r.inj id j loc l hm aO aj.symm (λx ag=>by rw[bg]at ag;cases ag;exact ay) (by rw[aF];simpa using aC)).symm
      rw[aJ _ aj];exact r.obj j l q aO aF
   inj:=λi j l bQ af aO aj rE jv=>by
    rw[nJ]at jv;refine r.inj i j l bQ af aO aj (λx ag=> ?_) ?_
    ·by_cases e:i=id
     ·rw[e,bg]at ag;cases ag;exact ay
     ·exact rE x (by rw[nJ,if_neg e];exact ag)
    ·by_cases e:j=id
     ·rw[e,bg];intro ag;cases ag;cases ay
     ·rwa[if_neg e]at jv
   lt:=λj l aO=>by rw[aA];exact r.lt j l aO
   hW:=λj aO=>r.hW j aO
   k8:=λj aO=>by
    rw[nJ];have:j≠id:=λe=>by rw[e]at aO;have:=r.hW id aO;rw[hm]at this;cases this
    rw[if_neg this];exact r.k8 j aO}
 next:=Nat.le_refl _
 nC:=λ_ _ x=>x
 kept:=λj aO aw=>by
  rw[nJ]
  have:j≠id:=λe=>by
   rcases aw with aw|aw
   ·rw[e,hm]at aw;cases aw
   ·rw[e,bg]at aw;cases aw
  rw[if_neg this]
 size:=Nat.le_of_eq aA.symm
 own:=λb aj ⟨j,l,q,aO,aF,aC,n_⟩=>by
  rw[nJ]at aF;by_cases e:j=id
  ·rw[e]at aO;exact⟨id,l,o,aO,bg,ay,n_⟩
  ·rw[if_neg e]at aF;exact⟨j,l,q,aO,aF,aC,n_⟩
 frame:=λb aj aw=>aJ b λe=>aw ⟨id,loc,o,hm,bg,ay,e.symm⟩
def Map.az(μ:Map)(id:Nat)(loc:Loc) :Map:=λj=>if j=id then some loc else μ j
theorem Map.iS(μ:Map)(id:Nat)(loc:Loc) :μ.az id loc id=some loc:=by simp[Map.az]
theorem Map.kn(μ:Map){id j:Nat}(loc:Loc)(h:j≠id) :μ.az id loc j=μ j:=by simp[Map.az,h]
theorem Map.q7(μ:Map){id:Nat}(loc:Loc)(h:μ id=none) :Ext μ (μ.az id loc):=λj l aO=>by
 have:j≠id:=λe=>by rw[e,h]at aO;cases aO
 rw[Map.kn _ _ this];exact aO
theorem dU.make(r:dU σ μ h H){id:Nat}{x:Obj}{o:bT}{room:Nat}(aw:μ id=none)(b6:id<h.next)
  (an:hq σ (μ.az id ⟨H.size,0,room⟩) o ⟨H.size,0,room⟩ (some x)) (aW:∀q,h.dS.get id=some q->q=o) :
  dU σ (μ.az id ⟨H.size,0,room⟩) h (H.push x)where
 obj:=λj l q aO aF=>by
  by_cases e:j=id
  ·rw[e,Map.iS]at aO;cases aO;rw[e]at aF;rw[aW q aF];simpa using an
  ·rw[Map.kn _ _ e]at aO;have ay:=r.lt j l aO;rw[Array.getElem?_push_lt ay,<-Array.getElem?_eq_getElem ay];exact(r.obj j l q aO aF).ext (Map.q7 _ _ aw)
 inj:=λi j l bQ af aO aj rE jv=>by
  by_cases oN:i=id
  ·by_cases kr:j=id
   ·rw[oN,kr]
   ·rw[oN,Map.iS]at af;cases af;rw[Map.kn _ _ kr]at aO;have:=r.lt j bQ aO;simp at aj;omega
  ·rw[Map.kn _ _ oN]at af;by_cases kr:j=id
   ·rw[kr,Map.iS]at aO;cases aO;have:=r.lt i l af;simp at aj;omega
   ·rw[Map.kn _ _ kr]at aO;exact r.inj i j l bQ af aO aj rE jv
 lt:=λj l aO=>by
  by_cases e:j=id
  ·rw[e,Map.iS]at aO;cases aO;simp
  ·rw[Map.kn _ _ e]at aO;have:=r.lt j l aO;simp;omega
 hW:=λj aO=>by rw[Map.kn _ _ (by omega)];exact r.hW j aO
 k8:=r.k8
theorem dU.new(r:dU σ μ h H){x:Obj}{o:bT}{room:Nat}(an:hq σ (μ.az h.next ⟨H.size,0,room⟩) o ⟨H.size,0,room⟩ (some x)) :
  ej σ μ h H (μ.az h.next ⟨H.size,0,room⟩) (h.new o) (H.push x):=by
 have aw:=r.hW h.next (Nat.le_refl _)
 have cS:dU σ μ (h.new o) H:=
  {obj:=λj l q aO aF=>by
    rw[oy]at aF;have:j≠h.next:=λe=>by rw[e,aw]at aO;cases aO
    rw[if_neg this]at aF;exact r.obj j l q aO aF
   inj:=λi j l bQ af aO aj rE jv=>by
    rw[oy]at jv;have fh:i≠h.next:=λe=>by rw[e,aw]at af;cases af
    have py:j≠h.next:=λe=>by rw[e,aw]at aO;cases aO
    rw[if_neg py]at jv;exact r.inj i j l bQ af aO aj (λx ag=>rE x (by rw[oy,if_neg fh];exact ag)) jv
   lt:=r.lt
   hW:=λj aO=>r.hW j (by simp[ae.new]at aO;omega)
   k8:=λj aO=>by
    simp[ae.new]at aO;rw[oy,if_neg (by omega)]
    exact r.k8 j (by omega)}
 have dm:=cS.make (id:=h.next) (x:=x) (o:=o) (room:=room) aw (by simp[ae.new]) an (λq aF=>by rw[oy,if_pos rfl]at aF;cases aF;rfl)
 exact
  {ext:=Map.q7 _ _ aw
   rel:=dm
   next:=by simp[ae.new]
   nC:=λj aO ag=>by rw[Map.kn _ _ (by omega)];exact ag
   kept:=λj aO _=>by rw[oy,if_neg (by omega)]
   size:=by simp
   own:=λb aj ⟨j,l,q,aO,aF,aC,n_⟩=>by
    by_cases e:j=h.next
    ·rw[e,Map.iS]at aO;cases aO;simp at n_;omega
    ·rw[Map.kn _ _ e]at aO;rw[oy,if_neg e]at aF;exact⟨j,l,q,aO,aF,aC,n_⟩
   frame:=λb aj _=>by rw[Array.getElem?_push_lt aj,<-Array.getElem?_eq_getElem aj]}
end
theorem NY(n k:Nat) :n>>>k=n/2^k:=Nat.shiftRight_eq_div_pow n k
theorem NX(n k:Nat) :n<<<k=n*2^k:=Nat.shiftLeft_eq n k
theorem yo(k:Nat) :0<2^k:=Nat.two_pow_pos k
theorem jE(n i:Nat) :dN n i=n/2^(8*i) %256:=by unfold dN;rw[NY]
theorem vI(n i:Nat) :dN n i<256:=by unfold dN;exact Nat.mod_lt _ (by decide)
theorem C4(x y j k:Nat)(h:8*(j+1)<=k) :(x*2^k+y) /2^(8*j) %256=y/2^(8*j) %256:=by
 obtain⟨d,rfl⟩ :∃d,k=8*j+(8+d):=⟨k-8*j-8,by omega⟩
 have e:x*2^(8*j+(8+d))=2^(8*j) *(256*(x*2^d)):=by
  rw[Nat.pow_add,Nat.pow_add];have:(2:Nat) ^8=256:=by decide
  rw[this]
  ac_rfl
 rw[e,Nat.add_comm,Nat.add_mul_div_left _ _ (yo _),Nat.add_mul_mod_self_left]
theorem Ck(x y j k:Nat)(aq:y<2^k) :(x*2^k+y) /2^(k+8*j) %256=x/2^(8*j) %256:=by rw[Nat.pow_add,<-Nat.div_div_eq_div_mul,Nat.mul_comm x,Nat.mul_add_div (yo _),Nat.div_eq_of_lt aq,Nat.add_zero]
theorem R9(a b l i:Nat)(bc:a<2^(8*l)) :dN (a+b<<< (8*l)) i=if i<l then dN a i else dN b (i-l):=by
 simp only[jE,NX];rw[Nat.add_comm];by_cases h:i<l
 ·rw[if_pos h,C4 _ _ _ _ (by omega)]
 ·rw[if_neg h];obtain⟨j,rfl⟩ :∃j,i=l+j:=⟨i-l,by omega⟩;rw[Nat.mul_add,Ck _ _ _ _ bc,Nat.add_sub_cancel_left]
theorem R_(n l i:Nat)(h:i<l) :dN (n%2^(8*l)) i=dN n i:=by
 simp only[jE]
 conv=>rhs;rw[<-Nat.div_add_mod n (2^(8*l)),Nat.mul_comm]
 rw[C4 _ _ _ _ (by omega)]
theorem ab6(n o i:Nat) :dN (n>>> (8*o)) i=dN n (o+i):=by simp only[jE,NY,Nat.div_div_eq_div_mul,<-Nat.pow_add,Nat.mul_add]
theorem Jo(n o l i:Nat)(h:i<l) :dN ((n>>> (8*o)) %2^(8*l)) i=dN n (o+i):=by rw[R_ _ _ _ h,ab6]
theorem JO(n o l:Nat) :(n>>> (8*o)) %2^(8*l) <2^(8*l):=Nat.mod_lt _ (yo _)
theorem Jp(n o l m i:Nat)(hm:m<2^(8*l)) :
  dN (n-((n>>> (8*o)) %2^(8*l)) <<< (8*o) +m<<< (8*o)) i=if o<=i/\i<o+l then dN m (i-o)else dN n i:=by
 simp only[jE,NX,NY];have h6:=yo (8*o);have sM:=yo (8*l);generalize aF:n/2^(8*o) /2^(8*l)=q;generalize an:n/2^(8*o) %2^(8*l)=r;generalize aA:n%2^(8*o)=s;have hP:s<2^(8*o):=aA▸Nat.mod_lt _ h6;have pC:r<2^(8*l):=an▸Nat.mod_lt _ sM;have aG:n/2^(8*o)=q*2^(8*l) +r:=by rw[<-aF,<-an,Nat.mul_comm (n/2^(8*o) /2^(8*l))];exact(Nat.div_add_mod _ _).symm
 have aT:n=(q*2^(8*l) +r) *2^(8*o) +s:=by rw[<-aG,<-aA,Nat.mul_comm (n/2^(8*o))];exact(Nat.div_add_mod _ _).symm
 have bJ:n-r*2^(8*o) +m*2^(8*o)=(q*2^(8*l) +m) *2^(8*o) +s:=by rw[aT,Nat.add_mul,Nat.add_mul];omega
 rw[bJ];by_cases h1:i<o
 ·have aw:¬(o<=i/\i<o+l):=by omega
  rw[if_neg aw,aT,C4 _ _ _ _ (by omega),C4 _ _ _ _ (by omega)]
 ·obtain⟨j,rfl⟩ :∃j,i=o+j:=⟨i-o,by omega⟩;rw[Nat.mul_add,Ck _ _ _ _ hP];by_cases ab:j<l
  ·rw[if_pos (by omega),Nat.add_sub_cancel_left,C4 _ _ _ _ (by omega)]
  ·rw[if_neg (by omega)]
   conv=>rhs;rw[aT,Ck _ _ _ _ hP]
   obtain⟨k,rfl⟩ :∃k,j=l+k:=⟨j-l,by omega⟩;rw[Nat.mul_add,Ck _ _ _ _ hm,Ck _ _ _ _ pC]
theorem nR:∀(l n:Nat),(bytesOf l n).length=l
 |0,_=>rfl
 |l+1,n=>by simp[bytesOf,nR l]
theorem sy:∀(l n i:Nat),(bytesOf l n)[i]? =if i<l then some (UInt8.ofNat (dN n i))else none
 |0,n,i=>by simp[bytesOf]
 |l+1,n,0=>by simp[bytesOf,jE]
 |l+1,n,i+1=>by
  simp only[bytesOf,List.getElem?_cons_succ,sy l (n/256) i]
  have:dN (n/256) i=dN n (i+1):=by simp only[jE,Nat.div_div_eq_div_mul];congr 2;rw[Nat.mul_add,Nat.add_comm,Nat.pow_add]
  rw[this];by_cases h:i<l
  ·rw[if_pos h,if_pos (by omega)]
  ·rw[if_neg h,if_neg (by omega)]
theorem Sd(l bQ a b:Nat)(bc:a<2^(8*l)) :bytesOf (l+bQ) (a+b<<< (8*l))=bytesOf l a++bytesOf bQ b:=by
 apply List.ext_getElem?;intro i;rw[sy,R9 _ _ _ _ bc];by_cases h:i<l
 ·rw[if_pos (by omega),if_pos h,List.getElem?_append_left (by rw[nR];exact h),sy,if_pos h]
 ·rw[List.getElem?_append_right (by rw[nR];omega),sy,nR,if_neg h];by_cases ab:i<l+bQ
  ·rw[if_pos ab,if_pos (by omega)]
  ·rw[if_neg ab,if_neg (by omega)]
theorem aik(l bQ a b:Nat)(bc:a<2^(8*l))(aj:b<2^(8*bQ)) :a+b<<< (8*l) <2^(8*(l+bQ)):=by
 rw[NX,Nat.mul_add,Nat.pow_add];have:b+1<=2^(8*bQ):=aj
 calc a+b*2^(8*l) <2^(8*l) +b*2^(8*l):=by omega
  _=(b+1) *2^(8*l):=by rw[Nat.add_mul];omega
  _<=2^(8*bQ) *2^(8*l):=Nat.mul_le_mul_right _ this
  _=2^(8*l) *2^(8*bQ):=Nat.mul_comm _ _
theorem ab7(l n o k:Nat)(h:o+k<=l) :bytesOf k ((n>>> (8*o)) %2^(8*k))=((bytesOf l n).drop o).take k:=by
 apply List.ext_getElem?;intro i;rw[sy,List.getElem?_take];by_cases af:i<k
 ·rw[if_pos af,if_pos af,List.getElem?_drop,sy,if_pos (by omega),Jo _ _ _ _ af]
 ·rw[if_neg af,if_neg af]
theorem Sc:∀(l a b:Nat),a<2^(8*l)->b<2^(8*l)->bytesOf l a=bytesOf l b->a=b
 |0,a,b,bc,aj,_=>by simp at bc aj;omega
 |l+1,a,b,bc,aj,h=>by
  simp only[bytesOf,List.cons.injEq]at h;have e:(2:Nat) ^(8*(l+1))=256*2^(8*l):=by rw[Nat.mul_add,Nat.pow_add];omega
  rw[e]at bc aj;have ab:=Sc l (a/256) (b/256) (by rw[Nat.div_lt_iff_lt_mul (by decide)];omega) (by rw[Nat.div_lt_iff_lt_mul (by decide)];omega) h.2
  have h1:a%256=b%256:=by have:=congrArg UInt8.toNat h.1;simpa using this
  omega
theorem SY:∀(l:List UInt8),encode l<2^(8*l.length)
 |[]=>by simp[encode]
 |b::bs=>by
  have b1:=SY bs;have aj:=b.toNat_lt;have e:(2:Nat) ^(8*(bs.length+1))=256*2^(8*bs.length):=by rw[Nat.mul_add,Nat.pow_add];omega
  simp only[encode,List.length_cons,e];omega
theorem Sb:∀(l:List UInt8),bytesOf l.length (encode l)=l
 |[]=>rfl
 |b::bs=>by
  have aj:=b.toNat_lt;have aG:(b.toNat+256*encode bs) %256=b.toNat:=by omega
  have aT:(b.toNat+256*encode bs) /256=encode bs:=by omega
  simp only[encode,List.length_cons,bytesOf,aG,aT,Sb bs];simp
def iB.val(σ:Nat->Int) :iB->Int
 | .lit n=>n
 | .var e=>σ e
def Fact.ok(P:Program)(σ:Nat->Int) :Fact->Prop
 | .num op k x y r=>∀(t:TypeId) (w:World),(Go.binOp op t (.int k (x.val σ)) (.int k (y.val σ))).run P w=.ok (.int k (r.val σ)) w
 | .test op k x y r=>∀(t:TypeId) (w:World),(Go.binOp op t (.int k (x.val σ)) (.int k (y.val σ))).run P w=.ok (.bool r) w
 | .fits x k=>k.wrap (σ x)=σ x
structure I7(P:Program)(σ:Nat->Int)(t:TypeId)(i:bK) :Prop where
 eI:P.underlying t=some i.desc
 info:∃inf z,P.info? t=some inf/\inf.size=i.size/\inf.bytes=i.bytes/\inf.zero=some z/\(∀μ,bL σ μ i.zeroV z)/\(∀μ,cy σ μ i.zero z.cells.toList)
 parts:∀fs,i.desc=.struct fs->∀w,(fs.mapM (λf=>do pure (f.offset,<-sizeOf f.type) :Field->Sem (Nat×Nat))).run P w=.ok i.parts.toArray w
 y2:i.zero.length=i.size
 NQ:qF i.desc=false->i.size=1
 plain:i.plain=true->P.stoodInHeld t=false/\P.eqGuardType P.depth t=false/\∀fs,i.desc=.struct fs->∀f,f∈fs.toList->f.name≠ "_"
structure dL(P:Program)(E:Env)(σ:Nat->Int) :Prop where
 fn:∀f fn,E.fn f=some fn->P.funcs[f]? =some fn/\(fn.name== "runtime.NumGoroutine")=false
 ty:∀t i,E.ty t=some i->I7 P σ t i
 facts:∀f,f∈E.facts->f.ok P σ
 mixed:P.follows .mixedOrders=true
section
variable{P:Program}{σ:Nat->Int}{μ:Map}{h:ae}{w:World}
theorem BG(w:World)(b off:Nat) :w.cell? ⟨b,off,none⟩=match w.heap[b]? with
  |some (.cells c _ _)=>c[off]?
  |_=>none:=by
 unfold World.cell?;rfl
theorem Fy(w:World)(b off:Nat) :w.frozen? ⟨b,off,none⟩=match w.heap[b]? with
  |some (.cells _ _ fr)=>decide (fr.1<=off) &&decide (off<fr.2)
  |_=>false:=by
 unfold World.frozen?;simp only;cases w.heap[b]? with
 |none=>rfl
 |some o=>cases o<;>rfl
theorem hq.row{o:bT}{loc:Loc}{x:Option Obj}{size:Nat}{st:Bool}(an:hq σ μ o loc x)(h1:o.row=some (size,st)) :la σ μ o.cell size st loc x:=by cases o<;>simp only[bT.row]at h1<;>first|(cases h1;done) |(cases h1;exact an)
theorem acv{o:bT}{i:Nat}{v:aa}(aH:o.cell i=some v) :(∃size st,o.row=some (size,st)/\i<size)\/(∃size t,o=.ro size t/\i<size):=by
 cases o with
 |cells size st zero t=>
  refine .inl ⟨size,st,rfl,?_⟩;by_cases af:i<size
  ·exact af
  ·simp only[bT.cell,show Nat.blt i size=false by rw[<-Bool.not_eq_true,dM];exact af,cond_false]at aH;cases aH
 |bytes size st n=>
  refine .inl ⟨size,st,rfl,?_⟩;by_cases af:i<size
  ·exact af
  ·simp only[bT.cell,show Nat.blt i size=false by rw[<-Bool.not_eq_true,dM];exact af,cond_false]at aH;cases aH
 |ro size t=>
  refine .inr ⟨size,t,rfl,?_⟩;by_cases af:i<size
  ·exact af
  ·simp only[bT.cell,show Nat.blt i size=false by rw[<-Bool.not_eq_true,dM];exact af,cond_false]at aH;cases aH
 |dead=>cases aH
 |map _ _=>cases aH
 |loop _ _ _ _ _ _ _ _=>cases aH
 |deferred=>cases aH
theorem hq.cell{o:bT}{loc:Loc}{x:Option Obj}{i:Nat}{v:aa}(an:hq σ μ o loc x)(aH:o.cell i=some v) :
  ∃c E fr y,x=some (.cells c E fr)/\c[loc.o+i]? =some y/\bL σ μ v y/\∀j,j<c.size->¬(fr.1<=j/\j<fr.2):=by
 have key:∀size st,la σ μ o.cell size st loc x->i<size->∃c E fr y,x=some (.cells c E fr)/\c[loc.o+i]? =some y/\bL σ μ v y/\∀j,j<c.size->¬(fr.1<=j/\j<fr.2):=by intro size st ⟨c,E,fr,h1,ab,al,aE,aL,bm⟩ af;obtain⟨eT,y,p,q,r⟩:=bm i af;rw[aH]at p;cases p;exact⟨c,E,fr,y,h1,q,r,aL⟩
 rcases acv aH with⟨size,st,h1,af⟩ |⟨size,t,rfl,af⟩
 ·exact key size st (an.row h1) af
 ·exact key size true an.2 af
theorem wO(r:dU σ μ h w.heap){id off:Nat}{loc:Loc}{v:aa}(hm:μ id=some loc)(aH:bP h id off=some v) :
  ∃x,w.cell? ⟨loc.b,loc.o+off,none⟩=some x/\bL σ μ v x:=by
 unfold bP at aH;have ay:h.get id≠.dead:=λe=>by rw[e]at aH;cases aH
 obtain⟨c,E,fr,y,h1,ab,al,_⟩:=(r.obj id loc _ hm (ae.nk ay)).cell aH;exact⟨y,by rw[BG,h1];exact ab,al⟩
theorem bT.Az{o:bT} :∀(k off:Nat) (l:List aa),o.read off k=some l->l.length=k/\∀j v,l[j]? =some v->o.cell (off+j)=some v
 |0,off,l,h=>by simp only[bT.read]at h;cases h;simp
 |k+1,off,l,h=>by
  simp only[bT.read]at h;cases aH:o.cell off with
  |none=>rw[aH]at h;cases h
  |some v=>
   cases an:o.read (off+1) k with
   |none=>rw[aH,an]at h;cases h
   |some m=>
    rw[aH,an]at h;cases h;obtain⟨h1,ab⟩:=bT.Az k (off+1) m an;refine⟨by simp[h1],λj u aO=> ?_⟩;cases j with
    |zero=>simp at aO;subst aO;exact aH
    |succ j=>have:=ab j u (by simpa using aO);rwa[show off+(j+1)=off+1+j by omega]
theorem Vw{f:Nat->Option Value} :∀(l:List aa),(∀j v,l[j]? =some v->∃x,f j=some x/\bL σ μ v x)->
  ∃xs:List Value,cy σ μ l xs/\∀j x,xs[j]? =some x->f j=some x:=by
 intro l;induction l generalizing f with
 |nil=>intro _;exact⟨[],rfl,λj x aO=>by simp at aO⟩
 |cons a cY b1=>
  intro aJ;obtain⟨x,ag,an⟩:=aJ 0 a rfl;obtain⟨xs,h1,ab⟩:=b1 (f:=λj=>f (j+1)) λj v aO=>aJ (j+1) v (by simpa using aO)
  refine⟨x::xs,⟨x,xs,rfl,an,h1⟩,λj y aO=> ?_⟩;cases j with
  |zero=>simp at aO;subst aO;exact ag
  |succ j=>exact ab j y (by simpa using aO)
theorem y'(w:World)(b o j:Nat) :w.cell? (Addr.add ⟨b,o,none⟩ j)=w.cell? ⟨b,o+j,none⟩:=by
 unfold Addr.add;by_cases aO:j=0
 ·rw[if_pos aO,aO,Nat.add_zero]
 ·rw[if_neg aO]
theorem W9(r:dU σ μ h w.heap){id off k:Nat}{loc:Loc}{l:List aa}(hm:μ id=some loc)(aH:j4 h id off k=some l) :
  ∃xs:List Value,cy σ μ l xs/\xs.length=k/\(loadCells ⟨loc.b,loc.o+off,none⟩ k).run P w=.ok xs.toArray w:=by
 obtain⟨h1,ab⟩:=bT.Az k off l aH
 obtain⟨xs,p,q⟩:=Vw (σ:=σ) (μ:=μ) (f:=λj=>w.cell? ⟨loc.b,loc.o+off+j,none⟩) l λj v aO=>by have:=wO r hm (id:=id) (off:=off+j) (v:=v) (ab j v aO);rwa[<-Nat.add_assoc]at this
 have ay:xs.length=k:=by rw[<-p.length,h1]
 refine⟨xs,p,ay,?_⟩;have:=run_loadCells_list (P:=P) w ⟨loc.b,loc.o+off,none⟩ xs λj v aO=>by rw[y'];exact q j v aO
 rwa[ay]at this
theorem ir{E:Env}(ok:dL P E σ){t:TypeId}{i:bK}(aW:E.ty t=some i)(w:World) :(underlying t).run P w=.ok i.desc w:=
 run_underlying (ok.ty t i aW).eI w
theorem HA{E:Env}(ok:dL P E σ){t:TypeId}{i:bK}(aW:E.ty t=some i) :
  ∃inf z,(∀w,(typeInfo t).run P w=.ok inf w)/\inf.size=i.size/\inf.bytes=i.bytes/\inf.zero=some z/\(∀μ,bL σ μ i.zeroV z)/\(∀μ,cy σ μ i.zero z.cells.toList):=by
 obtain⟨inf,z,h1,ab,al,aE,aL,bm⟩:=(ok.ty t i aW).info;exact⟨inf,z,λw=>by simp[typeInfo,h1],ab,al,aE,aL,bm⟩
theorem nH{E:Env}(ok:dL P E σ){t:TypeId}{i:bK}(aW:E.ty t=some i)(w:World) :(sizeOf t).run P w=.ok i.size w:=by obtain⟨inf,z,h1,ab,_⟩:=HA ok aW;simp[sizeOf,h1,ab]
theorem yx{E:Env}(ok:dL P E σ){t:TypeId}{i:bK}(aW:E.ty t=some i) :
  ∃z,(∀w,(zeroValue t).run P w=.ok z w)/\(∀μ,bL σ μ i.zeroV z)/\(∀μ,cy σ μ i.zero z.cells.toList):=by
 obtain⟨inf,z,h1,_,_,aE,aL,bm⟩:=HA ok aW;exact⟨z,λw=>by simp[zeroValue,h1,aE],aL,bm⟩
theorem Xs{E:Env}(ok:dL P E σ){t:TypeId}{i:bK}(aW:E.ty t=some i)(w:World) :(isAgg t).run P w=.ok (qF i.desc) w:=by simp only[isAgg,Sem.run_bind,ir ok aW,Result.andThen_ok];cases i.desc<;>rfl
theorem Vz{E:Env}(ok:dL P E σ)(r:dU σ μ h w.heap){t:TypeId}{id off:Nat}{loc:Loc}{v:aa}(hm:μ id=some loc)(aH:loadT E h t id off=some v) :
  ∃x,(loadVar t ⟨loc.b,loc.o+off,none⟩).run P w=.ok x w/\bL σ μ v x:=by
 unfold loadT at aH;cases aW:E.ty t with
 |none=>rw[aW]at aH;cases aH
 |some i=>
  rw[aW]at aH;simp only at aH;unfold loadVar;simp only[Sem.run_bind,Xs ok aW,Result.andThen_ok];cases aC:qF i.desc with
  |true=>
   rw[aC]at aH;simp only at aH;cases ay:j4 h id off i.size with
   |none=>rw[ay]at aH;cases aH
   |some l=>
    rw[ay]at aH;cases aH;obtain⟨xs,p,q,e⟩:=W9 (P:=P) r hm ay;exact⟨.agg xs.toArray,by simp[nH ok aW,e],⟨xs.toArray,rfl,by simpa using p⟩⟩
  |false=>
   rw[aC]at aH;obtain⟨x,e,p⟩:=wO r hm aH;exact⟨x,by simp[e],p⟩
theorem HG(w:World)(b off:Nat)(v:Value)(j:Nat) :(w.setCell ⟨b,off,none⟩ v).heap[j]? =
  if b=j then(w.heap[j]?).map (λ| .cells c e fr=>.cells (c.setIfInBounds off v) e fr|o=>o)else w.heap[j]? :=by
 unfold World.setCell;simp only[Array.getElem?_modify];rfl
theorem XJ(w:World)(a:Addr)(v:Value) :(w.setCell a v).heap.size=w.heap.size:=by unfold World.setCell;simp
theorem XC{v:aa}{x:Value}(aA:dH v=true)(ai:bL σ μ v x) :x.oneCell'=true:=by
 cases v with
 |undef=>cases aA
 |agg _=>cases aA
 |tuple _=>cases aA
 |bool _=>rw[show x=_ from ai];rfl
 |int _ _=>rw[show x=_ from ai];rfl
 |sym _ _=>rw[show x=_ from ai];rfl
 |str _ _=>rw[ai.2];rfl
 |nilPtr=>rw[show x=_ from ai];rfl
 |ptr _ _=>obtain⟨_,_,e⟩:=ai;rw[e];rfl
 |bI=>rw[show x=_ from ai];rfl
 |slice _ _ _ _ _ _=>obtain⟨_,_,_,_,e,_⟩:=ai;rw[e];rfl
 |hG=>rw[show x=_ from ai];rfl
 |map _=>obtain⟨_,_,e⟩:=ai;rw[e];rfl
 |nilFunc=>rw[show x=_ from ai];rfl
 |func _ _ _=>obtain⟨_,_,e,_⟩:=ai;rw[e];rfl
 |yield _=>obtain⟨_,_,e⟩:=ai;rw[e];rfl
 |nilIface=>rw[show x=_ from ai];rfl
 |iface _ _=>obtain⟨_,e,_⟩:=ai;rw[e];rfl
theorem la.put{cell vK:Nat->Option aa}{size:Nat}{st:Bool}{loc:Loc}{c:Array Value}{E:TypeId}{fr:Nat×Nat}{off:Nat}{v:aa}{x:Value}
  (an:la σ μ cell size st loc (some (.cells c E fr))) (ai:bL σ μ v x) (bg:off<size)
  (h1:vK off=some v) (ab:∀i,i<size->i≠off->vK i=cell i) :la σ μ vK size st loc (some (.cells (c.setIfInBounds (loc.o+off) x) E fr)):=by
 obtain⟨h3,jT,sI,e,p,q,s,t,u⟩:=an;cases e;refine⟨_,_,_,rfl,by simpa using p,q,s,by simpa using t,λi af=> ?_⟩;by_cases e:i=off
 ·rw[e];exact⟨v,x,h1,by rw[Array.getElem?_setIfInBounds_self,if_pos (by omega)],ai⟩
 ·obtain⟨eT,y,a,b,d⟩:=u i af;exact⟨eT,y,by rw[ab i af e];exact a,by rw[Array.getElem?_setIfInBounds_ne (by omega)];exact b,d⟩
theorem fR{a b:Bool}(h:(a&&b)=true) :a=true/\b=true:=by simpa using h
theorem aaL{o cg:bT}{off:Nat}{v:aa}(hw:o.write off v=some cg) :o.live=true/\cg.live=true/\dH v=true:=by
 cases o with
 |cells size s zero t=>
  simp only[bT.write]at hw;cases aj:(Nat.blt off size&&dH v)with
  |false=>rw[aj]at hw;cases hw
  |true=>rw[aj]at hw;cases hw;exact⟨rfl,rfl,(fR aj).2⟩
 |bytes size s n=>
  simp only[bT.write]at hw;split at hw
  ·rename_i b;cases aj:(Nat.blt off size&&Nat.blt b 256)with
   |false=>rw[aj]at hw;cases hw
   |true=>rw[aj]at hw;cases hw;exact⟨rfl,rfl,rfl⟩
  ·cases hw
 |dead=>cases hw
 |ro _ _=>cases hw
 |map _ _=>cases hw
 |loop _ _ _ _ _ _ _ _=>cases hw
 |deferred=>cases hw
theorem arT{o cg:bT}{loc:Loc}{off:Nat}{v:aa}{x:Value}{w:World}(an:hq σ μ o loc w.heap[loc.b]?)(hw:o.write off v=some cg)(ai:bL σ μ v x) :
  (∃y,w.cell? ⟨loc.b,loc.o+off,none⟩=some y)/\w.frozen? ⟨loc.b,loc.o+off,none⟩=false/\
    hq σ μ cg loc (w.setCell ⟨loc.b,loc.o+off,none⟩ x).heap[loc.b]? :=by
 have key:∀(size:Nat) (st:Bool) (vK:Nat->Option aa),la σ μ o.cell size st loc w.heap[loc.b]? ->off<size->vK off=some v->
   (∀i,i<size->i≠off->vK i=o.cell i)->
   (∃y,w.cell? ⟨loc.b,loc.o+off,none⟩=some y)/\w.frozen? ⟨loc.b,loc.o+off,none⟩=false/\
   la σ μ vK size st loc (w.setCell ⟨loc.b,loc.o+off,none⟩ x).heap[loc.b]? :=by
  intro size st vK an bg h1 ab;have ki:=an;obtain⟨c,E,fr,e,p,q,s,t,u⟩:=an;obtain⟨_,y,_,b,_⟩:=u off bg;rw[BG,Fy,HG,e];rw[e]at ki;refine⟨⟨y,b⟩,?_,?_⟩
  ·have:=t (loc.o+off) (by omega);simp only[Bool.and_eq_false_iff,decide_eq_false_iff_not];omega
  ·rw[if_pos rfl];exact ki.put ai bg h1 ab
 cases o with
 |cells size s zero t=>
  simp only[bT.write]at hw;cases aj:(Nat.blt off size&&dH v)with
  |false=>rw[aj]at hw;cases hw
  |true=>
   rw[aj]at hw;cases hw;have bg:=dM.1 (fR aj).1;refine key size s (bT.cells size s zero (t.set off v)).cell an bg ?_ ?_
   ·simp only[bT.cell,dM.2 bg,cond_true,bu.lL,if_pos]
   ·intro i af c';simp only[bT.cell,dM.2 af,cond_true,bu.lL,if_neg c']
 |bytes size s n=>
  simp only[bT.write]at hw;split at hw
  ·rename_i b;cases aj:(Nat.blt off size&&Nat.blt b 256)with
   |false=>rw[aj]at hw;cases hw
   |true=>
    rw[aj]at hw;cases hw;have bg:=dM.1 (fR aj).1;have jG:=dM.1 (fR aj).2
    have s5:∀i,dN (n-(dN n off) <<< (8*off) +b<<< (8*off)) i=if i=off then b else dN n i:=by
     intro i;have:=Jp n off 1 b i (by simpa using jG);have aG:(n>>> (8*off)) %2^(8*1)=dN n off:=rfl;rw[aG]at this;rw[this];by_cases af:i=off
     ·rw[if_pos (by omega),if_pos af,af,Nat.sub_self,jE];simp;omega
     ·rw[if_neg (by omega),if_neg af]
    refine key size s (bT.bytes size s (n-(dN n off) <<< (8*off) +b<<< (8*off))).cell an bg ?_ ?_
    ·simp only[bT.cell,dM.2 bg,cond_true,s5,if_pos]
    ·intro i af c';simp only[bT.cell,dM.2 af,cond_true,s5,if_neg c']
  ·cases hw
 |dead=>cases hw
 |ro _ _=>cases hw
 |map _ _=>cases hw
 |loop _ _ _ _ _ _ _ _=>cases hw
 |deferred=>cases hw
def dC(w aZ:World) :Prop:=aZ.os=w.os/\aZ.tape=w.tape/\aZ.output=w.output
theorem dC.refl(w:World) :dC w w:=⟨rfl,rfl,rfl⟩
theorem dC.trans{a b c:World}(h:dC a b)(bC:dC b c) :dC a c:=⟨bC.1.trans h.1,bC.2.1.trans h.2.1,bC.2.2.trans h.2.2⟩
theorem dC.setCell(w:World)(a:Addr)(v:Value) :dC w (w.setCell a v):=⟨rfl,rfl,rfl⟩
theorem Pu{loc:Loc} :∀(vs:List aa) (xs:List Value) (o cg:bT) (off i:Nat) (w:World),hq σ μ o loc w.heap[loc.b]? ->o.writes (off+i) vs=some cg->cy σ μ vs xs->
  ∃aZ,(storeCells ⟨loc.b,loc.o+off,none⟩ xs i).run P w=.ok () aZ/\dC w aZ/\aZ.heap.size=w.heap.size/\(∀b,b≠loc.b->aZ.heap[b]? =w.heap[b]?)/\hq σ μ cg loc aZ.heap[loc.b]?
 |[],xs,o,cg,off,i,w,an,hw,ai=>by rw[cy.j1.1 ai];simp only[bT.writes]at hw;cases hw;exact⟨w,by simp[storeCells],dC.refl _,rfl,λ_ _=>rfl,an⟩
 |v::vs,_,o,cg,off,i,w,an,hw,⟨x,xs,e,ag,gm⟩=>by
  rw[e];simp only[bT.writes]at hw;cases h1:o.write (off+i) v with
  |none=>rw[h1]at hw;cases hw
  |some ct=>
   rw[h1]at hw;simp only at hw;obtain⟨⟨y,aq⟩,aJ,mU⟩:=arT (w:=w) an h1 ag;have uw:=XC (aaL h1).2.2 ag;obtain⟨aZ,a,b,c,d,f⟩:=Pu vs xs ct cg off (i+1) (w.setCell ⟨loc.b,loc.o+(off+i),none⟩ x) mU (by rwa[Nat.add_assoc]at hw) gm;refine⟨aZ,?_,(dC.setCell _ _ _).trans b,by rw[c,XJ],λj aO=> ?_,f⟩
   ·have kT:((⟨loc.b,loc.o+off,none⟩ :Addr).add i)=⟨loc.b,loc.o+(off+i),none⟩:=by
     unfold Addr.add;by_cases af:i=0
     ·simp[af]
     ·rw[if_neg af,Nat.add_assoc]
    simp only[storeCells,kT,Sem.run_bind,run_store P w _ x .plain uw,aq,aJ,Result.andThen_ok];exact a
   ·rw[d j aO,HG,if_neg (λe=>aO e.symm)]
theorem arU{cg:bT} :∀(vs:List aa) (off:Nat) (o:bT),vs≠[]->o.writes off vs=some cg->o.live=true
 |[],_,_,aw,_=>absurd rfl aw
 |v::vs,off,o,_,hw=>by
  simp only[bT.writes]at hw;cases h1:o.write off v with
  |none=>rw[h1]at hw;cases hw
  |some ct=>exact(aaL h1).1
theorem HP{E:Env}(r:dU σ μ h w.heap){id off:Nat}{loc:Loc}{vs:List aa}{xs:List Value}{bC:ae}(hm:μ id=some loc)(aw:vs≠[])
  (hw:j9 h id off vs=some bC) (ai:cy σ μ vs xs) :
  ∃aZ,(storeCells ⟨loc.b,loc.o+off,none⟩ xs).run P w=.ok () aZ/\dC w aZ/\ej σ μ h w.heap μ bC aZ.heap:=by
 unfold j9 at hw;cases h1:(h.get id).writes off vs with
 |none=>rw[h1]at hw;cases hw
 |some cg=>
  rw[h1]at hw;cases hw;have ay:=arU vs off (h.get id) aw h1;have db:h.get id≠.dead:=λe=>by rw[e]at ay;cases ay
  have bg:=ae.nk db;obtain⟨aZ,a,b,c,d,f⟩:=Pu (P:=P) vs xs (h.get id) cg off 0 w (r.obj id loc _ hm bg) h1 ai;exact⟨aZ,a,b,r.put hm bg ay c d f⟩
theorem EZ{v:aa}{x:Value}(ai:bL σ μ v x) :cy σ μ v.cells x.cells.toList:=by
 have one:∀{u:aa} {y:Value},bL σ μ u y->cy σ μ [u] [y]:=λh=>⟨_,_,rfl,h,rfl⟩
 cases v with
 |agg cs=>obtain⟨vs,e,p⟩:=ai;rw[e];exact p
 |undef=>have e:x=_:=ai;subst e;exact one ai
 |tuple _=>obtain⟨vs,e,p⟩:=ai;subst e;exact one ⟨vs,rfl,p⟩
 |bool _=>have e:x=_:=ai;subst e;exact one ai
 |int _ _=>have e:x=_:=ai;subst e;exact one ai
 |sym _ _=>have e:x=_:=ai;subst e;exact one ai
 |str _ _=>have e:=ai.2;subst e;exact one ai
 |nilPtr=>have e:x=_:=ai;subst e;exact one ai
 |ptr _ _=>have fV:=ai;obtain⟨_,_,e⟩:=ai;subst e;exact one fV
 |bI=>have e:x=_:=ai;subst e;exact one ai
 |slice _ _ _ _ _ _=>have fV:=ai;obtain⟨_,_,_,_,e,_⟩:=ai;subst e;exact one fV
 |hG=>have e:x=_:=ai;subst e;exact one ai
 |map _=>have fV:=ai;obtain⟨_,_,e⟩:=ai;subst e;exact one fV
 |nilFunc=>have e:x=_:=ai;subst e;exact one ai
 |func _ _ _=>have fV:=ai;obtain⟨_,_,e,_⟩:=ai;subst e;exact one fV
 |yield _=>have fV:=ai;obtain⟨_,_,e⟩:=ai;subst e;exact one fV
 |nilIface=>have e:x=_:=ai;subst e;exact one ai
 |iface _ _=>have fV:=ai;obtain⟨_,e,_⟩:=ai;subst e;exact one fV
theorem apq{E:Env}(ok:dL P E σ)(r:dU σ μ h w.heap){t:TypeId}{id off:Nat}{loc:Loc}{v:aa}{x:Value}{bC:ae}(hm:μ id=some loc)
  (hw:storeT E h t id off v=some bC) (ai:bL σ μ v x) :
  ∃aZ,(storeVar t ⟨loc.b,loc.o+off,none⟩ x).run P w=.ok () aZ/\dC w aZ/\ej σ μ h w.heap μ bC aZ.heap:=by
 unfold storeT at hw;cases aW:E.ty t with
 |none=>rw[aW]at hw;cases hw
 |some i=>
  rw[aW]at hw;simp only at hw;cases aj:(Nat.beq v.cells.length i.size&& !Nat.beq i.size 0)with
  |false=>rw[aj]at hw;cases hw
  |true=>
   rw[aj]at hw;have hlen:=beq_true.1 (fR aj).1;have aH:=EZ ai;have eR:x.cells.size=i.size:=by rw[<-hlen,aH.length,Array.length_toList]
   have aw:v.cells≠[]:=λe=>by have:=(fR aj).2;rw[e]at hlen;rw[<-hlen]at this;cases this
   unfold storeVar;simp only[Sem.run_bind,nH ok aW,Result.andThen_ok,eR,ne_eq,not_true_eq_false,if_false,Sem.run_ite];obtain⟨aZ,a,b,c⟩:=HP (P:=P) (E:=E) r hm aw hw aH;exact⟨aZ,by simpa using a,b,c⟩
end
def gF(tmps:Array Value) :Operand->Value
 | .tmp t=>tmps.getD t undef
 | .const v=>v
 | .global g=>.pointer (some ⟨g,0,none⟩)
 | .func f=>.func (.func f) #[] #[]
def k'(E:Env)(μ:Map) :Prop:=∀g,g<E.rZ->∃room,μ g=some ⟨g,0,room⟩
section
variable{P:Program}{E:Env}{σ:Nat->Int}{μ:Map}{h:ae}{w:World}{r:bE}{tmps:Array Value}
theorem SA{v:Value}{a:aa}(aH:E9 v=some a) :bL σ μ a v:=by
 unfold E9 at aH;split at aH<;>first|(cases aH;done) |(cases aH;first|rfl|skip)
 ·rename_i s;exact⟨SY _,by rw[Sb]⟩
 ·exact⟨#[], #[],rfl,rfl,rfl⟩
theorem Sz:∀{vs:List Value} {cY:List aa},E8 vs=some cY->cy σ μ cY vs
 |[],_,aH=>by cases aH;rfl
 |v::vs,cY,aH=>by
  unfold E8 at aH;split at aH
  ·rename_i a l h1 ab;cases aH;exact⟨v,vs,rfl,SA h1,Sz ab⟩
  ·cases aH
theorem JK{v:Value}{a:aa}(aH:zl v=some a) :bL σ μ a v:=by
 unfold zl at aH;split at aH
 ·rename_i cs;split at aH
  ·rename_i l ay;cases aH;exact⟨cs,rfl,Sz ay⟩
  ·cases aH
 ·cases aH;rfl
 ·exact SA aH
theorem uS(aN:k' E μ)(an:∀i,bL σ μ (r.get i) (tmps.getD i undef)){x:Operand}{v:aa}(he:ek E r x=some v) :bL σ μ v (gF tmps x):=by
 cases x with
 |tmp t=>simp only[ek]at he;cases he;exact an t
 |const c=>exact JK he
 |func f=>simp only[ek]at he;cases he;exact⟨#[], #[],rfl,rfl,rfl⟩
 |global g=>
  simp only[ek]at he;cases aj:Nat.blt g E.rZ with
  |false=>rw[aj]at he;cases he
  |true=>
   rw[aj]at he;cases he;obtain⟨room,hm⟩:=aN g (dM.1 aj);exact⟨_,hm,rfl⟩
theorem uT(aN:k' E μ)(an:∀i,bL σ μ (r.get i) (tmps.getD i undef)) :∀{xs:List Operand} {vs:List aa},lI E r xs=some vs->cy σ μ vs (xs.map (gF tmps))
 |[],_,he=>by cases he;rfl
 |x::xs,_,he=>by
  unfold lI at he;split at he
  ·rename_i v l h1 ab;cases he;exact⟨_,_,rfl,uS aN an h1,uT aN an ab⟩
  ·cases he
theorem wv(a b:Int) :pM a b=decide (a<=b):=by
 cases a with
 |ofNat m=>cases b with
  |ofNat n=>simp only[pM];rw[Bool.eq_iff_iff,ec];simp
  |negSucc n=>simp only[pM];rw[eq_comm,decide_eq_false_iff_not];have:=Int.negSucc_lt_zero n;have:=Int.natCast_nonneg m;simp only[Int.ofNat_eq_natCast];omega
 |negSucc m=>cases b with
  |ofNat n=>simp only[pM];rw[eq_comm,decide_eq_true_iff];have:=Int.negSucc_lt_zero m;have:=Int.natCast_nonneg n;simp only[Int.ofNat_eq_natCast];omega
  |negSucc n=>simp only[pM];rw[Bool.eq_iff_iff,ec];simp only[decide_eq_true_eq,Int.negSucc_eq];omega
theorem oi(a b:Int) :mm a b=decide (a<b):=by unfold mm;rw[wv,Bool.eq_iff_iff];simp
theorem rn(a b:Int) :jW a b=(a==b):=by
 rw[Bool.eq_iff_iff];cases a with
 |ofNat m=>cases b with
  |ofNat n=>simp only[jW,beq_true];simp only[Int.ofNat_eq_natCast,beq_iff_eq];omega
  |negSucc n=>simp[jW]
 |negSucc m=>cases b with
  |ofNat n=>simp[jW]
  |negSucc n=>simp only[jW,beq_true];simp
theorem J_{a b:Int} :jW a b=true↔a=b:=by rw[rn];simp
theorem l'{a b:IntKind} :lH a b=true↔a=b:=by cases a<;>cases b<;>simp[lH]
theorem wrap_small(k:IntKind)(m:Nat)(h:m<lS k) :k.wrap (m:Int)=m:=by cases k<;>simp only[lS]at h<;>simp only[IntKind.wrap,IntKind.bits,IntKind.signed]<;>simp<;>omega
theorem m_(k:IntKind)(n:Int) :b0 k n=k.wrap n:=by
 cases n with
 |ofNat m=>
  simp only[b0];cases aj:Nat.blt m (lS k)with
  |true=>rw[cond_true];exact(wrap_small k m (dM.1 aj)).symm
  |false=>rfl
 |negSucc m=>rfl
theorem Hf(k:IntKind)(m:Nat)(h:m<lS k) :(BitVec.ofInt k.bits (m:Int)).toNat=m:=by
 have aj:m<2^k.bits:=by cases k<;>simp only[lS,IntKind.bits]at h|- <;>omega
 rw[BitVec.ofInt_natCast,BitVec.toNat_ofNat,Nat.mod_eq_of_lt aj]
theorem akG(k:IntKind) :∃e,lS k=2^e:=by
 cases k
 ·exact⟨7,by decide⟩
 ·exact⟨15,by decide⟩
 ·exact⟨31,by decide⟩
 ·exact⟨63,by decide⟩
 ·exact⟨8,by decide⟩
 ·exact⟨16,by decide⟩
 ·exact⟨32,by decide⟩
 ·exact⟨64,by decide⟩
theorem RJ(k:IntKind)(a b:Int) :I_ k a b=jb k a b:=by
 unfold I_;split
 ·rename_i m n;cases aj:(Nat.blt m (lS k) &&Nat.blt n (lS k))with
  |false=>rfl
  |true=>
   have h1:=dM.1 (fR aj).1;have ab:=dM.1 (fR aj).2;simp only[cond_true,jb,BitVec.toNat_and,Int.ofNat_eq_natCast,Hf k m h1,Hf k n ab];have:m&&&n<lS k:=Nat.lt_of_le_of_lt Nat.and_le_left h1;exact(wrap_small k _ this).symm
 ·rfl
theorem WG(k:IntKind)(a b:Int) :M' k a b=r4 k a b:=by
 unfold M';split
 ·rename_i m n;cases aj:(Nat.blt m (lS k) &&Nat.blt n (lS k))with
  |false=>rfl
  |true=>
   have h1:=dM.1 (fR aj).1;have ab:=dM.1 (fR aj).2;simp only[cond_true,r4,BitVec.toNat_or,Int.ofNat_eq_natCast,Hf k m h1,Hf k n ab];obtain⟨e,he⟩:=akG k;have:m|||n<lS k:=by rw[he]at h1 ab|-;exact Nat.or_lt_two_pow h1 ab
   exact(wrap_small k _ this).symm
 ·rfl
theorem ah_{op:BinOp}(t:TypeId){k:IntKind}{a b:Int}{v:aa}(aA:kZ op=false)(ai:nz op k a b=some v)(w:World) :
  ∃x,(Go.binOp op t (.int k a) (.int k b)).run P w=.ok x w/\bL σ μ v x:=by
 cases op<;>simp only[nz]at ai<;>first|(cases aA;done) |(cases ai;done) |skip
 case add=>cases ai;exact⟨.int k (k.wrap (a+b)),by simp[Go.binOp,Op.intArith],by rw[bL,m_]⟩
 case sub=>cases ai;exact⟨.int k (k.wrap (a-b)),by simp[Go.binOp,Op.intArith],by rw[bL,m_]⟩
 case mul=>cases ai;exact⟨.int k (k.wrap (a*b)),by simp[Go.binOp,Op.intArith],by rw[bL,m_]⟩
 case quo=>
  cases aj:jW b 0 with
  |true=>rw[aj]at ai;cases ai
  |false=>
   rw[aj]at ai;cases ai;have:¬b=0:=λe=>by rw[e]at aj;cases aj
   exact⟨.int k (k.wrap (a.tdiv b)),by simp[Go.binOp,Op.intDiv,this],by rw[bL,m_]⟩
 case rem=>
  cases aj:jW b 0 with
  |true=>rw[aj]at ai;cases ai
  |false=>
   rw[aj]at ai;cases ai;have:¬b=0:=λe=>by rw[e]at aj;cases aj
   exact⟨.int k (a.tmod b),by simp[Go.binOp,Op.intDiv,this],rfl⟩
 case and=>cases ai;exact⟨.int k (jb k a b),by rw[show Go.binOp .and t (.int k a) (.int k b)=Op.intBits .and k a b by simp[Go.binOp]];rfl,by rw[bL,RJ]⟩
 case or=>cases ai;exact⟨.int k (r4 k a b),by rw[show Go.binOp .or t (.int k a) (.int k b)=Op.intBits .or k a b by simp[Go.binOp]];rfl,by rw[bL,WG]⟩
 case xor=>cases ai;exact⟨.int k (Is k a b),by rw[show Go.binOp .xor t (.int k a) (.int k b)=Op.intBits .xor k a b by simp[Go.binOp]];rfl,rfl⟩
 case andNot=>cases ai;exact⟨.int k (RL k a b),by rw[show Go.binOp .andNot t (.int k a) (.int k b)=Op.intBits .andNot k a b by simp[Go.binOp]];rfl,rfl⟩
 case eql=>cases ai;exact⟨.bool (a==b),by simp[Go.binOp,Op.intCmp],by rw[bL,rn]⟩
 case neq=>cases ai;exact⟨.bool (a !=b),by simp[Go.binOp,Op.intCmp],by rw[bL,rn];rfl⟩
 case lss=>cases ai;exact⟨.bool (decide (a<b)),by simp[Go.binOp,Op.intCmp],by rw[bL,oi]⟩
 case leq=>cases ai;exact⟨.bool (decide (a<=b)),by simp[Go.binOp,Op.intCmp],by rw[bL,wv]⟩
 case gtr=>cases ai;exact⟨.bool (decide (b<a)),by simp[Go.binOp,Op.intCmp],by rw[bL,oi]⟩
 case geq=>cases ai;exact⟨.bool (decide (b<=a)),by simp[Go.binOp,Op.intCmp],by rw[bL,wv]⟩
theorem aoT{op:BinOp}(t:TypeId){k et:IntKind}{a b:Int}{v:aa}(ai:Dw op k a b=some v)(w:World) :
  ∃x,(Go.binOp op t (.int k a) (.int et b)).run P w=.ok x w/\bL σ μ v x:=by
 cases b with
 |negSucc n=>cases ai
 |ofNat n=>
  have aw:¬((n:Int) <0):=by omega
  cases op<;>simp only[Dw]at ai<;>first|(cases ai;done) |skip
  case shl=>cases ai;exact⟨.int k (k.wrap (a*2^(min n k.bits))),by simp[Go.binOp,Op.shift,aw],by rw[bL,m_]⟩
  case shr=>cases ai;exact⟨.int k (a.fdiv (2^(min n k.bits))),by simp[Go.binOp,Op.shift,aw],rfl⟩
theorem S7{a b:BinOp}(he:BT a b=true) :a=b:=by cases a<;>cases b<;>first|rfl|cases he
theorem iB.beq_true{a b:iB}(he:a.beq b=true) :a=b:=by
 cases a<;>cases b<;>first|cases he|skip
 ·rw[J_.1 he]
 ·rw[Go.a8.beq_true.1 he]
theorem iB.abp(k:IntKind)(x:iB) :bL σ μ (x.eo k) (.int k (x.val σ)):=by cases x<;>rfl
theorem Fm{fs:List Fact}{op:BinOp}{k:IntKind}{x y:iB}{v:aa}(aJ:∀f,f∈fs->f.ok P σ)(ai:sG fs op k x y=some v)(t:TypeId)(w:World) :
  ∃u,(Go.binOp op t (.int k (x.val σ)) (.int k (y.val σ))).run P w=.ok u w/\bL σ μ v u:=by
 induction fs with
 |nil=>cases ai
 |cons f fs b1=>
  have x4:=b1 λg aN=>aJ g (List.mem_cons_of_mem _ aN)
  have h0:=aJ f List.mem_cons_self;cases f with
  |num o j a b c=>
   simp only[sG]at ai;cases aj:(BT o op&&lH j k&&a.beq x&&b.beq y)with
   |false=>rw[aj]at ai;exact x4 ai
   |true=>
    rw[aj]at ai;cases ai;simp only[Bool.and_eq_true]at aj;obtain⟨⟨⟨h1,ab⟩,al⟩,aE⟩:=aj;have aG:=S7 h1;have aT:=l'.1 ab;have bJ:=iB.beq_true al;have e0:=iB.beq_true aE;subst aG aT bJ e0;exact⟨_,h0 t w,iB.abp _ _⟩
  |test o j a b c=>
   simp only[sG]at ai;cases aj:(BT o op&&lH j k&&a.beq x&&b.beq y)with
   |false=>rw[aj]at ai;exact x4 ai
   |true=>
    rw[aj]at ai;cases ai;simp only[Bool.and_eq_true]at aj;obtain⟨⟨⟨h1,ab⟩,al⟩,aE⟩:=aj;have aG:=S7 h1;have aT:=l'.1 ab;have bJ:=iB.beq_true al;have e0:=iB.beq_true aE;subst aG aT bJ e0;exact⟨_,h0 t w,rfl⟩
  |fits a j=>exact x4 ai
theorem aeb{fs:List Fact}{e:Nat}{k:IntKind}(aJ:∀f,f∈fs->f.ok P σ)(ai:B2 fs e k=true) :k.wrap (σ e)=σ e:=by
 induction fs with
 |nil=>cases ai
 |cons f fs b1=>
  have x4:=b1 λg aN=>aJ g (List.mem_cons_of_mem _ aN)
  have h0:=aJ f List.mem_cons_self;cases f with
  |num o j a b c=>exact x4 ai
  |test o j a b c=>exact x4 ai
  |fits a j=>
   simp only[B2,Bool.or_eq_true,Bool.and_eq_true]at ai;rcases ai with⟨h1,ab⟩ |h
   ·have aG:=Go.a8.beq_true.1 h1;have aT:=l'.1 ab;subst aG aT;exact h0
   ·exact x4 h
theorem zu{k:IntKind}{x y:iB}{b:Bool}(ok:dL P E σ)(ai:BS E k x y=some b) :(x.val σ==y.val σ)=b:=by
 unfold BS at ai;split at ai
 ·rename_i c aJ;cases ai;obtain⟨u,hu,an⟩:=Fm (μ:=λ_=>none) ok.facts aJ 0 default;have e:u=.bool b:=an;subst e;simp only[Go.binOp,Op.intCmp,ne_eq,not_true_eq_false,if_false,Sem.run_pure]at hu;injection hu with h1 _;injection h1
 ·cases ai
theorem Dd(ok:dL P E σ){t:TypeId}{cs:List aa}{xs:Array Value}{off:Nat}{v:aa}(aH:cy σ μ cs xs.toList)(aI:o4 E t cs off=some v)(w:World) :
  ∃x,(part t xs off).run P w=.ok x w/\bL σ μ v x:=by
 unfold o4 at aI;split at aI
 ·rename_i i aW;unfold part;simp only[Sem.run_bind,Xs ok aW,Result.andThen_ok];cases aC:qF i.desc with
  |true=>
   rw[aC]at aI;cases aI;refine⟨_,by simp only[if_true,Sem.run_bind,nH ok aW,Result.andThen_ok,Sem.run_pure];rfl,⟨_,rfl,?_⟩⟩;have:=(aH.drop off).take i.size;simpa [Array.toList_extract,List.extract_eq_take_drop,Nat.add_sub_cancel_left]using this
  |false=>
   rw[aC]at aI;obtain⟨x,ag,an⟩:=aH.get off v aI;have hl:xs[off]? =some x:=by simpa using ag
   exact⟨x,by simp[hl],an⟩
 ·cases aI
end
section
variable{P:Program}{E:Env}{σ:Nat->Int}{μ:Map}{h:ae}{w:World}{r:bE}{tmps:Array Value}
theorem dV{α:Type}{c:Bool}{x:Option α}{b:α}(he:(bif c then x else none)=some b) :c=true/\x=some b:=by
 cases c with
 |true=>exact⟨rfl,he⟩
 |false=>cases he
theorem ES{α:Type}{c:Bool}{x:Option α}{b:α}(he:(bif c then none else x)=some b) :c=false/\x=some b:=by
 cases c with
 |true=>cases he
 |false=>exact⟨rfl,he⟩
theorem HQ{l n bQ ho:Nat}(h1:n<2^(8*l))(ab:ho<2^(8*bQ)) :(bytesOf l n==bytesOf bQ ho)=(Nat.beq l bQ&&Nat.beq n ho):=by
 rw[Bool.eq_iff_iff];simp only[beq_iff_eq,Bool.and_eq_true,beq_true];constructor
 ·intro e;have ay:l=bQ:=by rw[<-nR l n,<-nR bQ ho,e]
  subst ay;exact⟨rfl,Sc l n ho h1 ab e⟩
 ·rintro⟨rfl,rfl⟩;rfl
theorem AU(l:List UInt8) :(⟨l.toArray⟩ :ByteArray).toList=l:=by rw[ByteArray.toList_eq]
theorem anx{o:bT}(aF:o.wK=true) :∃size,o.row=some (size,false):=by
 cases o with
 |cells size st zero t=>cases st with
  |false=>exact⟨size,rfl⟩
  |true=>cases aF
 |bytes size st n=>cases st with
  |false=>exact⟨size,rfl⟩
  |true=>cases aF
 |ro size t=>cases aF
 |dead=>cases aF
 |map _ _=>cases aF
 |loop _ _ _ _ _ _ _ _=>cases aF
 |deferred=>cases aF
theorem anw{o:bT}(aF:o.wK=true) :o.live=true:=by cases o<;>first|rfl|cases aF
theorem W1(rel:dU σ μ h w.heap){id:Nat}{loc:Loc}(hm:μ id=some loc)(aF:(h.get id).wK=true) :
  ∃c E,w.heap[loc.b]? =some (.cells c E (0,0)):=by
 obtain⟨size,eK⟩:=anx aF;have aC:h.get id≠.dead:=λe=>by rw[e]at aF;cases aF
 obtain⟨c,E,fr,e,_,_,aT,_⟩:=(rel.obj id loc _ hm (ae.nk aC)).row eK;rw[aT rfl]at e;exact⟨c,E,e⟩
theorem aoF(rel:dU σ μ h w.heap){a b:Nat}{uJ uK:Loc}{o p:Nat}(Cr:μ a=some uJ)(zS:μ b=some uK)
  (Lr:(h.get a).wK=true) (xR:(h.get b).wK=true) :
  (sameAddr ⟨uJ.b,uJ.o+o,none⟩ ⟨uK.b,uK.o+p,none⟩).run P w=.ok (Nat.beq a b&&Nat.beq o p) w:=by
 obtain⟨dX,aaX,kT⟩:=W1 rel Cr Lr;obtain⟨sA,aaY,oM⟩:=W1 rel zS xR;have adU:∀o,w.frozen? ⟨uJ.b,o,none⟩=false:=λo=>by rw[Fy,kT];simp
 have fb:∀o,w.frozen? ⟨uK.b,o,none⟩=false:=λo=>by rw[Fy,oM];simp
 have Xy:w.shape? uJ.b=some (aaX,dX.size):=by simp[World.shape?,kT]
 have HE:w.shape? uK.b=some (aaY,sA.size):=by simp[World.shape?,oM]
 by_cases hO:a=b
 ·subst hO;rw[Cr]at zS;cases zS;have vW:Nat.beq a a=true:=beq_true.2 rfl;simp only[sameAddr,beq_self_eq_true,if_true,Sem.run_bind,Sem.run_pure,vW,Bool.true_and];congr 1;rw[Bool.eq_iff_iff,beq_true];simp
 ·have c':uJ.b≠uK.b:=λe=>by
   have TP:h.get b≠.dead:=λe=>by rw[e]at xR;cases xR
   refine hO (rel.inj a b uJ uK Cr zS e (λx ag=> ?_) ?_)
   ·have:=ae.get_eq ag;rw[this]at Lr;exact anw Lr
   ·rw[ae.nk TP];simpa using TP
  have vW:Nat.beq a b=false:=beq_false.2 hO;have agC:(uJ.b==uK.b)=false:=by simpa using c'
  simp[sameAddr,agC,vW,adU,fb,noView,viewAt,Xy,HE,mayBeOne,stringish]
theorem S4(ok:dL P E σ){d:Nat}{g:TypeId->aa->aa->Option Bool}
  (aN:∀t x y b,g t x y=some b->∀u v,bL σ μ x u->bL σ μ y v->(Op.equalIn d t u v).run P w=.ok b w) :
  ∀(fs:List Field) (xs en:List aa) (us vs:Array Value) (b:Bool),(∀f,f∈fs->f.name≠ "_")->eqFields E g fs xs en=some b->cy σ μ xs us.toList->cy σ μ en vs.toList->
   (Op.eqFields d us vs fs).run P w=.ok b w
 |[],xs,en,us,vs,b,_,he,_,_=>by simp only[eqFields]at he;cases he;simp[Op.eqFields]
 |f::fs,xs,en,us,vs,b,aw,he,ag,aq=>by
  simp only[eqFields]at he;have ns:=aw f List.mem_cons_self;cases h1:o4 E f.type xs f.offset with
  |none=>rw[h1]at he;cases he
  |some a=>
   cases ab:o4 E f.type en f.offset with
   |none=>rw[h1,ab]at he;cases he
   |some c=>
    rw[h1,ab]at he;simp only at he;obtain⟨u,hu,jj⟩:=Dd ok ag h1 w;obtain⟨v,ai,rv⟩:=Dd ok aq ab w;cases al:g f.type a c with
    |none=>rw[al]at he;cases he
    |some q=>
     rw[al]at he;have bJ:=aN _ _ _ _ al u v jj rv;simp only[Op.eqFields,ne_eq,ns,not_false_eq_true,if_true,Sem.run_bind,hu,ai,bJ,Result.andThen_ok];cases q with
     |false=>simp only at he;cases he;simp
     |true=>
      simp only at he;simp only[Bool.not_true,Bool.false_eq_true,if_false];exact S4 ok aN fs xs en us vs b (λf aJ=>aw f (List.mem_cons_of_mem _ aJ)) he ag aq
theorem S8(ok:dL P E σ)(rel:dU σ μ h w.heap) :∀(d D:Nat) (t:TypeId) (x y:aa) (b:Bool),d<=D->gE E h d t x y=some b->
  ∀u v,bL σ μ x u->bL σ μ y v->(Op.equalIn D t u v).run P w=.ok b w:=by
 intro d;induction d with
 |zero=>intro D t x y b _ he;cases he
 |succ d b1=>
  intro D t x y b aC he u v hu ai;obtain⟨D,rfl⟩ :∃aaW,D=aaW+1:=⟨D-1,by omega⟩;simp only[gE]at he;cases aW:E.ty t with
  |none=>rw[aW]at he;cases he
  |some i=>
   rw[aW]at he;simp only at he;have eI:=(ok.ty t i aW).eI;split at he
   ·rename_i aC;rw[aC]at eI;have bw:u=_:=hu;have cQ:v=_:=ai;subst bw cQ;cases he;exact run_equalIn_bool w D t _ _ eI
   ·rename_i aC;rw[aC]at eI;have bw:u=_:=hu;have cQ:v=_:=ai;subst bw cQ;replace he:=dV he;obtain⟨av,he⟩:=he;have ub:=l'.1 av;subst ub;cases he;rw[rn];exact run_equalIn_int w D t _ _ _ _ eI
   ·rename_i aC;rw[aC]at eI;have bw:u=_:=hu;have cQ:v=_:=ai;subst bw cQ;replace he:=dV he;obtain⟨av,he⟩:=he;have ub:=l'.1 av;subst ub;rw[<-zu ok he];exact run_equalIn_int w D t _ _ _ _ eI
   ·rename_i aC;rw[aC]at eI;have bw:u=_:=hu;have cQ:v=_:=ai;subst bw cQ;replace he:=dV he;obtain⟨av,he⟩:=he;have ub:=l'.1 av;subst ub;rw[<-zu ok he];exact run_equalIn_int w D t _ _ _ _ eI
   ·rename_i k a et dK aC;rw[aC]at eI;have bw:u=_:=hu;have cQ:v=_:=ai;subst bw cQ;replace he:=dV he;obtain⟨av,he⟩:=he;have ub:=l'.1 av;subst ub;rw[run_equalIn_int w D t _ _ _ _ eI];cases hO:Nat.beq a dK with
    |true=>
     rw[hO]at he;cases he;rw[beq_true.1 hO];simp
    |false=>
     rw[hO]at he;rw[<-zu ok he];rfl
   ·rename_i aC;rw[aC]at eI;obtain⟨pG,bw⟩:=hu;obtain⟨iH,cQ⟩:=ai;subst bw cQ;cases he;rw[run_equalIn_string w D t _ _ eI,AU,AU,HQ pG iH]
   ·rename_i aC;rw[aC]at eI;have bw:u=_:=hu;have cQ:v=_:=ai;subst bw cQ;cases he;simp[Op.equalIn,run_underlying eI]
   ·rename_i aC;rw[aC]at eI;obtain⟨l,_,cQ⟩:=ai;have bw:u=_:=hu;subst bw cQ;cases he;simp[Op.equalIn,run_underlying eI]
   ·rename_i aC;rw[aC]at eI;obtain⟨l,_,bw⟩:=hu;have cQ:v=_:=ai;subst bw cQ;cases he;simp[Op.equalIn,run_underlying eI]
   ·rename_i aC;rw[aC]at eI;obtain⟨uJ,Cr,bw⟩:=hu;obtain⟨uK,zS,cQ⟩:=ai;subst bw cQ;split at he
    ·rename_i ie fY;replace he:=ES he;obtain⟨h0,he⟩:=he;replace he:=dV he;obtain⟨aF,he⟩:=he;cases he;have aP:¬ie.size=0:=beq_false.1 h0;simp[Op.equalIn,run_underlying eI,nH ok fY,aP,aoF rel Cr zS (fR aF).1 (fR aF).2]
    ·cases he
   ·rename_i fs xs en aC;rw[aC]at eI;obtain⟨us,bw,jj⟩:=hu;obtain⟨vs,cQ,rv⟩:=ai;subst bw cQ;replace he:=dV he;obtain⟨aI,he⟩:=he;obtain⟨g',gO,ym⟩:=(ok.ty t i aW).plain aI;have aJ:P.fieldsOf t=fs:=by simp[Program.fieldsOf,eI]
    rw[run_equalIn_struct w D t us vs (by rw[aJ];exact eI) g',aJ];exact S4 ok (λj7 cG Eu dK bC eD eT pF fV=>b1 D j7 cG Eu dK (by omega) bC eD eT pF fV) fs.toList xs en us vs b (ym fs aC) he jj rv
   ·rename_i aC;rw[aC]at eI;have bw:u=_:=hu;have cQ:v=_:=ai;subst bw cQ;cases he;simp[Op.equalIn,run_underlying eI]
   ·rename_i aC;rw[aC]at eI;obtain⟨l,a,c,_,cQ,_⟩:=ai;have bw:u=_:=hu;subst bw cQ;cases he;simp[Op.equalIn,run_underlying eI]
   ·rename_i aC;rw[aC]at eI;obtain⟨l,a,c,_,bw,_⟩:=hu;have cQ:v=_:=ai;subst bw cQ;cases he;simp[Op.equalIn,run_underlying eI]
   ·rename_i aC;rw[aC]at eI;have bw:u=_:=hu;have cQ:v=_:=ai;subst bw cQ;cases he;simp[Op.equalIn,run_underlying eI]
   ·rename_i aC;rw[aC]at eI;obtain⟨l,_,cQ⟩:=ai;have bw:u=_:=hu;subst bw cQ;cases he;simp[Op.equalIn,run_underlying eI]
   ·rename_i aC;rw[aC]at eI;obtain⟨l,_,bw⟩:=hu;have cQ:v=_:=ai;subst bw cQ;cases he;simp[Op.equalIn,run_underlying eI]
   ·rename_i aC;rw[aC]at eI;have bw:u=_:=hu;have cQ:v=_:=ai;subst bw cQ;cases he;simp[Op.equalIn,run_underlying eI]
   ·rename_i aC;rw[aC]at eI;obtain⟨l,_,cQ,_⟩:=ai;have bw:u=_:=hu;subst bw cQ;cases he;simp[Op.equalIn,run_underlying eI]
   ·rename_i aC;rw[aC]at eI;obtain⟨l,_,bw,_⟩:=hu;have cQ:v=_:=ai;subst bw cQ;cases he;simp[Op.equalIn,run_underlying eI]
   ·cases he
theorem abB(ok:dL P E σ)(rel:dU σ μ h w.heap){op:BinOp}{t:TypeId}{x y:aa}{v:aa}(aj:ax E h op t x y=some v)(fo hV:Operand)
  {u z:Value} (hu:bL σ μ x u) (aP:bL σ μ y z) :
  ∃q,(do eqGuard op t fo hV u z;Go.binOp op t u z:Sem Value).run P w=.ok q w/\bL σ μ v q:=by
 have FB:∀(k et:IntKind) (a b:Int) (w:World),(eqGuard op t fo hV (.int k a) (.int et b)).run P w=.ok () w:=λk et a b w=>by cases op<;>simp[eqGuard]
 unfold ax at aj;split at aj
 ·rename_i k a et b;have bw:u=_:=hu;have dp:z=_:=aP;subst bw dp;simp only[Sem.run_bind,FB,Result.andThen_ok];cases aA:kZ op with
  |true=>rw[aA]at aj;exact aoT t aj w
  |false=>
   rw[aA]at aj;replace aj:=dV aj;obtain⟨av,aj⟩:=aj;rw[<-l'.1 av];exact ah_ t aA aj w
 ·rename_i k a et b;have bw:u=_:=hu;have dp:z=_:=aP;subst bw dp;simp only[Sem.run_bind,FB,Result.andThen_ok];replace aj:=dV aj;obtain⟨av,aj⟩:=aj;rw[<-l'.1 (fR av).1];exact Fm ok.facts aj t w
 ·rename_i k a et b;have bw:u=_:=hu;have dp:z=_:=aP;subst bw dp;simp only[Sem.run_bind,FB,Result.andThen_ok];replace aj:=dV aj;obtain⟨av,aj⟩:=aj;rw[<-l'.1 (fR av).1];exact Fm ok.facts aj t w
 ·rename_i k a et b;have bw:u=_:=hu;have dp:z=_:=aP;subst bw dp;simp only[Sem.run_bind,FB,Result.andThen_ok];replace aj:=dV aj;obtain⟨av,aj⟩:=aj;rw[<-l'.1 (fR av).1];exact Fm ok.facts aj t w
 ·rename_i l a bQ b;obtain⟨pG,bw⟩:=hu;obtain⟨pJ,dp⟩:=aP;subst bw dp;have g:(eqGuard op t fo hV (.string ⟨(bytesOf l a).toArray⟩) (.string ⟨(bytesOf bQ b).toArray⟩)).run P w=.ok () w:=by cases op<;>simp[eqGuard]
  simp only[Sem.run_bind,g,Result.andThen_ok];split at aj
  ·unfold AT at aj;replace aj:=dV aj;obtain⟨av,aj⟩:=aj;cases aj;have b6:=dM.1 av
   have eR:¬((((⟨(bytesOf l a).toArray⟩ :ByteArray).size+(⟨(bytesOf bQ b).toArray⟩ :ByteArray).size:Nat) :Int) >IntKind.i64.max):=by show¬((((bytesOf l a).toArray.size+(bytesOf bQ b).toArray.size:Nat) :Int) >IntKind.i64.max);simp only[List.size_toArray,nR,IntKind.max,IntKind.signed,IntKind.bits];simp;omega
   refine⟨.string (⟨(bytesOf l a).toArray⟩++⟨(bytesOf bQ b).toArray⟩),by simp only[Go.binOp,Op.stringOp,if_neg eR,Sem.run_pure],aik _ _ _ _ pG pJ,?_⟩;rw[Sd _ _ _ _ pG];congr 1
  ·cases aj;exact⟨.bool _,by simp only[Go.binOp,Op.stringOp,Sem.run_pure,AU,HQ pG pJ],rfl⟩
  ·cases aj;exact⟨.bool _,by simp only[Go.binOp,Op.stringOp,Sem.run_pure,AU,HQ pG pJ],rfl⟩
  ·cases aj
 ·replace aj:=dV aj;obtain⟨aF,aj⟩:=aj
  have main:∀b,gE E h 9 t x y=some b->(eqGuard op t fo hV u z).run P w=.ok () w->(Go.binOp .eql t u z=(do let b<-Op.equal t u z;pure (.bool b))/\Go.binOp .neq t u z=(do let b<-Op.equal t u z;pure (.bool !b)))->
    ∃q,(do eqGuard op t fo hV u z;Go.binOp op t u z:Sem Value).run P w=.ok q w/\bL σ μ v q:=by
   intro b he aN FM;have aA:=S8 ok rel 9 10000 t x y b (by omega) he u z hu aP;split at aj
   ·rename_i c aH;rw[he]at aH;cases aH;cases aj;exact⟨.bool b,by simp[aN,FM.1,FM.2,Op.equal,Op.maxDepth,aA],rfl⟩
   ·rename_i c aH;rw[he]at aH;cases aH;cases aj;exact⟨.bool !b,by simp[aN,FM.1,FM.2,Op.equal,Op.maxDepth,aA],rfl⟩
   ·cases aj
  have he:∃b,gE E h 9 t x y=some b:=by
   split at aj
   ·exact⟨_,by assumption⟩
   ·exact⟨_,by assumption⟩
   ·cases aj
  obtain⟨b,he⟩:=he;refine main b he ?_ ?_
  ·unfold uc at aF;split at aF
   ·have bw:u=_:=hu;have dp:z=_:=aP;subst bw dp;cases op<;>simp[eqGuard]
   ·have bw:u=_:=hu;have dp:z=_:=aP;subst bw dp;cases op<;>simp[eqGuard]
   ·have bw:u=_:=hu;obtain⟨_,_,dp⟩:=aP;subst bw dp;cases op<;>simp[eqGuard]
   ·have dp:z=_:=aP;obtain⟨_,_,bw⟩:=hu;subst bw dp;cases op<;>simp[eqGuard]
   ·obtain⟨_,_,dp⟩:=aP;obtain⟨_,_,bw⟩:=hu;subst bw dp;cases op<;>simp[eqGuard]
   ·obtain⟨_,dp,_⟩:=aP;obtain⟨_,bw,_⟩:=hu;subst bw dp
    have aI:P.eqGuardType P.depth t=false:=by
     simp only[gE]at he;cases aW:E.ty t with
     |none=>rw[aW]at he;cases he
     |some i=>
      rw[aW]at he;simp only at he;split at he<;>first|(cases he;done) |skip
      all_goals first|(rename_i ag aq;cases ag;done) |(rename_i ag aq _;cases ag;done) |skip
      all_goals (try (replace he:=dV he;obtain⟨aI,he⟩:=he;exact((ok.ty t i aW).plain aI).2.1))
    exact run_eqGuard_agg w op t fo hV _ _ aI
   ·have bw:u=_:=hu;have dp:z=_:=aP;subst bw dp;cases op<;>simp[eqGuard]
   ·have bw:u=_:=hu;obtain⟨_,_,_,_,dp,_⟩:=aP;subst bw dp;cases op<;>simp[eqGuard]
   ·have dp:z=_:=aP;obtain⟨_,_,_,_,bw,_⟩:=hu;subst bw dp;cases op<;>simp[eqGuard]
   ·have bw:u=_:=hu;have dp:z=_:=aP;subst bw dp;cases op<;>simp[eqGuard]
   ·have bw:u=_:=hu;obtain⟨_,_,dp⟩:=aP;subst bw dp;cases op<;>simp[eqGuard]
   ·have dp:z=_:=aP;obtain⟨_,_,bw⟩:=hu;subst bw dp;cases op<;>simp[eqGuard]
   ·have bw:u=_:=hu;have dp:z=_:=aP;subst bw dp;cases op<;>simp[eqGuard]
   ·have bw:u=_:=hu;obtain⟨_,_,dp,_⟩:=aP;subst bw dp;cases op<;>simp[eqGuard]
   ·have dp:z=_:=aP;obtain⟨_,_,bw,_⟩:=hu;subst bw dp;cases op<;>simp[eqGuard]
   ·cases aF
  ·unfold uc at aF;split at aF
   ·have bw:u=_:=hu;have dp:z=_:=aP;subst bw dp;exact⟨by simp[Go.binOp],by simp[Go.binOp]⟩
   ·have bw:u=_:=hu;have dp:z=_:=aP;subst bw dp;exact⟨by simp[Go.binOp],by simp[Go.binOp]⟩
   ·have bw:u=_:=hu;obtain⟨_,_,dp⟩:=aP;subst bw dp;exact⟨by simp[Go.binOp],by simp[Go.binOp]⟩
   ·have dp:z=_:=aP;obtain⟨_,_,bw⟩:=hu;subst bw dp;exact⟨by simp[Go.binOp],by simp[Go.binOp]⟩
   ·obtain⟨_,_,dp⟩:=aP;obtain⟨_,_,bw⟩:=hu;subst bw dp;exact⟨by simp[Go.binOp],by simp[Go.binOp]⟩
   ·obtain⟨_,dp,_⟩:=aP;obtain⟨_,bw,_⟩:=hu;subst bw dp;exact⟨by simp[Go.binOp],by simp[Go.binOp]⟩
   ·have bw:u=_:=hu;have dp:z=_:=aP;subst bw dp;exact⟨by simp[Go.binOp],by simp[Go.binOp]⟩
   ·have bw:u=_:=hu;obtain⟨_,_,_,_,dp,_⟩:=aP;subst bw dp;exact⟨by simp[Go.binOp],by simp[Go.binOp]⟩
   ·have dp:z=_:=aP;obtain⟨_,_,_,_,bw,_⟩:=hu;subst bw dp;exact⟨by simp[Go.binOp],by simp[Go.binOp]⟩
   ·have bw:u=_:=hu;have dp:z=_:=aP;subst bw dp;exact⟨by simp[Go.binOp],by simp[Go.binOp]⟩
   ·have bw:u=_:=hu;obtain⟨_,_,dp⟩:=aP;subst bw dp;exact⟨by simp[Go.binOp],by simp[Go.binOp]⟩
   ·have dp:z=_:=aP;obtain⟨_,_,bw⟩:=hu;subst bw dp;exact⟨by simp[Go.binOp],by simp[Go.binOp]⟩
   ·have bw:u=_:=hu;have dp:z=_:=aP;subst bw dp;exact⟨by simp[Go.binOp],by simp[Go.binOp]⟩
   ·have bw:u=_:=hu;obtain⟨_,_,dp,_⟩:=aP;subst bw dp;exact⟨by simp[Go.binOp],by simp[Go.binOp]⟩
   ·have dp:z=_:=aP;obtain⟨_,_,bw,_⟩:=hu;subst bw dp;exact⟨by simp[Go.binOp],by simp[Go.binOp]⟩
   ·cases aF
end
section
variable{P:Program}{E:Env}{σ:Nat->Int}{μ:Map}{h:ae}{w:World}{r:bE}{tmps:Array Value}
theorem aqM{op:UnOp}{x v:aa}{u:Value}(ai:gQ op x=some v)(hu:bL σ μ x u) :∃q,(Op.unary op u).run P w=.ok q w/\bL σ μ v q:=by
 unfold gQ at ai;split at ai
 ·rename_i k n;have bw:u=_:=hu;subst bw;cases ai;exact⟨.int k (k.wrap (0-n)),by simp[Op.unary,Op.intArith],by rw[bL,m_]⟩
 ·rename_i k n;have bw:u=_:=hu;subst bw;cases ai;refine⟨.int k (Is k (if k.signed then-1 else k.max) n),?_,by rw[bL];cases k.signed<;>rfl⟩;rfl
 ·have bw:u=_:=hu;subst bw;cases ai;exact⟨.bool _,rfl,rfl⟩
 ·cases ai
theorem L1{d:TypeDesc}(aC:jh d=true) :d=.int .u8:=by
 unfold jh at aC;split at aC
 ·rfl
 ·cases aC
def mJ(l n:Nat) :List Value:=(bytesOf l n).map λb=>.int .u8 b.toNat
theorem R8(l n:Nat) :(mJ l n).length=l:=by simp[mJ,nR]
theorem Jn(l n i:Nat) :(mJ l n)[i]? =if i<l then some (.int .u8 (dN n i:Nat))else none:=by
 unfold mJ;rw[List.getElem?_map,sy];by_cases af:i<l
 ·rw[if_pos af,if_pos af,Option.map_some];have:=vI n i;congr 3;simp;omega
 ·rw[if_neg af,if_neg af];rfl
theorem W_(rel:dU σ μ h w.heap){id off len n:Nat}{loc:Loc}(hm:μ id=some loc)(an:oo h id off len=some n) :
  n<2^(8*len)/\(loadCells ⟨loc.b,loc.o+off,none⟩ len).run P w=.ok (mJ len n).toArray w:=by
 unfold oo at an;split at an
 ·rename_i size st N aN;replace an:=dV an;obtain⟨hle,an⟩:=an;cases an;refine⟨JO _ _ _,?_⟩
  have:=run_loadCells_list (P:=P) w ⟨loc.b,loc.o+off,none⟩ (mJ len ((N>>> (8*off)) %2^(8*len))) λj v aO=>by
   rw[Jn]at aO;by_cases ay:j<len
   ·rw[if_pos ay,Jo _ _ _ _ ay]at aO;cases aO;have rL:=ec.1 hle
    obtain⟨x,ag,rx⟩:=wO (w:=w) rel hm (off:=off+j) (v:=.int .u8 (.ofNat (dN N (off+j)))) (by
     unfold bP;rw[aN]
     simp only[bT.cell,dM.2 (show off+j<size by omega),cond_true])
    have ex:x=_:=rx;subst ex;rw[y',Nat.add_assoc];exact ag
   ·rw[if_neg ay]at aO;cases aO
  rwa[R8]at this
 ·cases an
theorem foldl_push(l:List UInt8) :∀(s:ByteArray),((l.map λb=>((b.toNat:Nat) :Int)).foldl (λr n=>r.push (UInt8.ofNat n.toNat)) s)=⟨s.data++l.toArray⟩:=by
 induction l with
 |nil=>intro s;simp
 |cons b bs b1=>
  intro s;simp only[List.map_cons,List.foldl_cons,b1];apply ByteArray.ext;simp[ByteArray.push]
theorem acN(ok:dL P E σ)(rel:dU σ μ h w.heap){src dst:TypeId}{x v:aa}{u:Value}(ai:gB E h src dst x=some v)(hu:bL σ μ x u) :
  ∃q,(convert src dst u).run P w=.ok q w/\bL σ μ v q:=by
 unfold gB at ai;split at ai
 ·rename_i s d aA aC;have us:=ir (P:=P) ok aA w;have yO:=ir (P:=P) ok aC w;split at ai
  ·rename_i k n;have bw:u=_:=hu;subst bw;split at ai
   ·rename_i j aO;cases ai;exact⟨.int j (j.wrap n),by simp[convert,us,yO,aO,Conv.intToInt],by rw[bL,m_]⟩
   ·cases ai
  ·rename_i k e;have bw:u=_:=hu;subst bw;split at ai
   ·rename_i j aO;replace ai:=dV ai;obtain⟨aJ,ai⟩:=ai;cases ai;exact⟨.int j (j.wrap (σ e)),by simp[convert,us,yO,aO,Conv.intToInt],by rw[bL,aeb ok.facts aJ]⟩
   ·cases ai
  ·rename_i l n;have pF:=hu;obtain⟨_,bw⟩:=hu;subst bw;split at ai
   ·rename_i aO;cases ai;exact⟨_,by simp[convert,us,yO,aO],pF⟩
   ·cases ai
  ·have bw:u=_:=hu;subst bw;split at ai
   ·rename_i e zY xC;split at ai
    ·rename_i ie fY;replace ai:=dV ai;obtain⟨cz,ai⟩:=ai;cases ai;have he:P.underlying e=some (.int .u8):=by rw[<-L1 cz];exact(ok.ty e ie fY).eI
     refine⟨.string .empty,?_,by decide,rfl⟩;rw[run_convert_bytes_string w src dst e none 0 0 (by rw[<-zY];exact(ok.ty src s aA).eI) he (by rw[<-xC];exact(ok.ty dst d aC).eI)];rfl
    ·cases ai
   ·cases ai
  ·rename_i id off len cap cT ex;obtain⟨loc,a,c,hm,bw,mg,mb,_,bc,_⟩:=hu;subst bw;split at ai
   ·rename_i e zY xC;split at ai
    ·rename_i ie fY;replace ai:=dV ai;obtain⟨cz,ai⟩:=ai;have he:P.underlying e=some (.int .u8):=by rw[<-L1 cz];exact(ok.ty e ie fY).eI
     rw[run_convert_bytes_string w src dst e (some a) len c (by rw[<-zY];exact(ok.ty src s aA).eI) he (by rw[<-xC];exact(ok.ty dst d aC).eI)];cases h0:Nat.beq len 0 with
     |true=>
      rw[h0]at ai;cases ai;have:=beq_true.1 h0;subst this;refine⟨.string .empty,?_,by decide,rfl⟩;rw[run_bytesToString w a 0 c [] (by simp[loadCells,loadCellsFrom])];rfl
     |false=>
      rw[h0]at ai;simp only[cond_false]at ai;split at ai
      ·rename_i n aw;cases ai;have c':c≠0:=by have:=beq_false.1 h0;omega
       obtain⟨b6,ay⟩:=W_ (P:=P) rel hm aw;rw[<-bc c']at ay;refine⟨.string ⟨(bytesOf len n).toArray⟩,?_,b6,rfl⟩;rw[run_bytesToString w a len c ((bytesOf len n).map λb=>((b.toNat:Nat) :Int)) (by rw[ay];simp[mJ]),foldl_push];congr 2;apply ByteArray.ext;simp
      ·cases ai
    ·cases ai
   ·cases ai
  ·cases ai
 ·cases ai
theorem add_eq(b o n:Nat) :Addr.add ⟨b,o,none⟩ n=⟨b,o+n,none⟩:=by
 unfold Addr.add;by_cases aw:n=0
 ·rw[if_pos aw,aw,Nat.add_zero]
 ·rw[if_neg aw]
theorem vG{x:Int}{y m:Nat}(aj:ql x y=some m)(k:IntKind)(code:BoundsCode) :(Instr.sliceBound (.int k x) y code).run P w=.ok m w/\m<=y:=by
 cases x with
 |negSucc n=>cases aj
 |ofNat n=>
  simp only[ql]at aj;replace aj:=dV aj;obtain⟨hle,aj⟩:=aj;cases aj;have:=ec.1 hle;refine⟨?_,this⟩;have ab:(0:Int)<=(m:Int)/\(m:Int)<=(y:Int):=by omega
  simp[Instr.sliceBound,asIntOf,ab,this]
theorem R5{x:Int}{y Eu m:Nat}(aj:ql x y=some m)(aq:y<=Eu) :ql x Eu=some m:=by
 cases x with
 |negSucc n=>cases aj
 |ofNat n=>
  simp only[ql]at aj|-;replace aj:=dV aj;obtain⟨hle,aj⟩:=aj;cases aj;rw[ec.2 (Nat.le_trans (ec.1 hle) aq)];rfl
inductive sr:Option Int->Option Value->Prop
 |none:sr none none
 |some (n:Int) (k:IntKind) :sr (some n) (some (.int k n))
theorem M9(aN:k' E μ)(an:∀i,bL σ μ (r.get i) (tmps.getD i undef)){o:Option Operand}{z:Option Int}(he:tm E r o=some z) :sr z (o.map (gF tmps)):=by
 unfold tm at he;split at he
 ·cases he;exact .none
 ·rename_i x;split at he
  ·rename_i k m ag;cases he;have:=uS (σ:=σ) aN an ag;have e:gF tmps x=.int k m:=this;rw[Option.map_some,e];exact sr.some m k
  ·cases he
theorem EU{len cap c:Nat}{ex:Bool}{lo af gN:Option Int}{Ea D' Eb:Option Value}{l aD m:Nat}{gi:Bool}(aj:js len cap ex lo af gN=some (l,aD,m,gi))
  (mg:len<=cap) (aH:cap<=c) (hex:ex=true->c=cap) (iY:sr lo Ea) (wR:sr af D') (mx:sr gN Eb) (dg:Bool) :
  ∃M,(Instr.sliceBounds dg len c Ea D' Eb).run P w=.ok (l,aD,M) w/\m<=M/\(gi=true->M=m)/\l<=aD/\aD<=m/\M<=c:=by
 unfold js at aj;split at aj
 ·rename_i a b;cases mx with|some _ GI=> ?_
  cases wR with|some _ GH=> ?_
  split at aj
  ·rename_i fB hm;split at aj
   ·rename_i bC nr;obtain⟨s1,s2⟩:=vG (P:=P) (w:=w) (R5 hm aH) GI (if dg then .slice3Acap else .slice3Alen);obtain⟨dE,m2⟩:=vG (P:=P) (w:=w) nr GH .slice3B;have ath:fB<=cap:=(vG (P:=P) (w:=w) hm GI .slice3B).2;split at aj
    ·rename_i bQ;cases iY with|some _ lQ=> ?_
     split at aj
     ·rename_i U_ ay;cases aj;obtain⟨j6,qT⟩:=vG (P:=P) (w:=w) ay lQ .slice3C;exact⟨_,by simp[Instr.sliceBounds,s1,dE,j6],Nat.le_refl _,λ_=>rfl,qT,m2,s2⟩
     ·cases aj
    ·cases iY with|none=> ?_
     cases aj;exact⟨_,by simp[Instr.sliceBounds,s1,dE],Nat.le_refl _,λ_=>rfl,Nat.zero_le _,m2,s2⟩
   ·cases aj
  ·cases aj
 ·cases aj
 ·rename_i b;cases mx with|none=> ?_
  cases wR with|some _ GH=> ?_
  split at aj
  ·rename_i bC nr;obtain⟨dE,m2⟩:=vG (P:=P) (w:=w) (R5 nr aH) GH (if dg then .sliceAcap else .sliceAlen);have HC:=(vG (P:=P) (w:=w) nr GH .slice3B).2;split at aj
   ·rename_i bQ;cases iY with|some _ lQ=> ?_
    split at aj
    ·rename_i U_ ay;cases aj;obtain⟨j6,qT⟩:=vG (P:=P) (w:=w) ay lQ .sliceB;exact⟨c,by simp[Instr.sliceBounds,dE,j6],aH,hex,qT,HC,Nat.le_refl _⟩
    ·cases aj
   ·cases iY with|none=> ?_
    cases aj;exact⟨c,by simp[Instr.sliceBounds,dE],aH,hex,Nat.zero_le _,HC,Nat.le_refl _⟩
  ·cases aj
 ·cases mx with|none=> ?_
  cases wR with|none=> ?_
  split at aj
  ·rename_i bQ;cases iY with|some _ lQ=> ?_
   split at aj
   ·rename_i U_ ay;cases aj;obtain⟨j6,qT⟩:=vG (P:=P) (w:=w) ay lQ .sliceB;exact⟨c,by simp[Instr.sliceBounds,j6],aH,hex,qT,mg,Nat.le_refl _⟩
   ·cases aj
  ·cases iY with|none=> ?_
   cases aj;exact⟨c,by simp[Instr.sliceBounds],aH,hex,Nat.zero_le _,mg,Nat.le_refl _⟩
theorem ao4(ok:dL P E σ)(rel:dU σ μ h w.heap){t:TypeId}{x v:aa}{u:Value}{lo af gN:Option Int}{Ea D' Eb:Option Value}(ai:kl E h t x lo af gN=some v)(hu:bL σ μ x u)
  (iY:sr lo Ea) (wR:sr af D') (mx:sr gN Eb) :∃q,(Instr.sliceAt t u Ea D' Eb).run P w=.ok q w/\bL σ μ v q:=by
 unfold kl at ai;split at ai
 ·cases ai
 ·rename_i i aW;have ut:=ir (P:=P) ok aW w;split at ai
  ·rename_i len n aC;obtain⟨b6,bw⟩:=hu;subst bw;replace ai:=ES ai;obtain⟨agv,ai⟩:=ai;split at ai
   ·rename_i l aD m ex aj;cases ai;cases mx with|some _ _=>cases agv|none=> ?_
    obtain⟨M,an,Lh,_,Ld,K5,KD⟩:=EU (P:=P) (w:=w) (c:=len) aj (Nat.le_refl _) (Nat.le_refl _) (λ_=>rfl) iY wR .none false;have eR:(⟨(bytesOf len n).toArray⟩ :ByteArray).size=len:=by show(bytesOf len n).toArray.size=len;simp[nR]
    refine⟨.string ((⟨(bytesOf len n).toArray⟩ :ByteArray).extract l aD),by simp[Instr.sliceAt,Instr.slice,ut,aC,eR,an],JO _ _ _,?_⟩;rw[ab7 len n l (aD-l) (by omega)];congr 1;apply ByteArray.ext;simp[ByteArray.data_extract,List.extract_toArray,List.extract_eq_take_drop]
   ·cases ai
  ·rename_i e aC;have bw:u=_:=hu;subst bw;split at ai
   ·rename_i y ie aj fY;cases ai;obtain⟨l,aD,m,ex⟩:=y;obtain⟨M,an,Lh,_,Ld,K5,KD⟩:=EU (P:=P) (w:=w) (c:=0) aj (Nat.le_refl _) (Nat.le_refl _) (λ_=>rfl) iY wR mx true;obtain rfl:M=0:=by omega
    obtain rfl:l=0:=by omega
    obtain rfl:aD=0:=by omega
    exact⟨.slice none 0 0,by simp[Instr.sliceAt,Instr.slice,ut,aC,an,nH ok fY],rfl⟩
   ·cases ai
  ·rename_i e id off len cap cT ex aC;obtain⟨loc,a,c,hm,bw,mg,mb,hex,bc,iG⟩:=hu;subst bw;split at ai
   ·rename_i l aD m gi ie aj fY;replace ai:=dV ai;obtain⟨eR,ai⟩:=ai;cases ai;have LB:=beq_true.1 eR;obtain⟨M,an,Lh,Cd,Ld,K5,KD⟩:=EU (P:=P) (w:=w) aj mg mb hex iY wR mx true;refine⟨.slice (some (if M=l then a else a.add (l*cT))) (aD-l) (M-l),?_,loc,_,_,hm,rfl,by omega,by omega,λe=>by rw[Cd e],λc'=> ?_,?_⟩
    ·simp only[Instr.sliceAt,Instr.slice,ut,aC,an,nH ok fY,Sem.run_bind,Result.andThen_ok,Sem.run_pure,LB];by_cases e:M=l<;>simp[e]
    ·rw[if_neg (by omega),bc (by omega),add_eq,Nat.add_assoc]
    ·have:l*cT+(M-l) *cT<=c*cT:=by
      rw[<-Nat.add_mul];exact Nat.mul_le_mul_right _ (by omega)
     omega
   ·cases ai
  ·rename_i n e id off aC;obtain⟨loc,hm,bw⟩:=hu;subst bw;split at ai
   ·rename_i ie l aD m gi fY aj;split at ai
    ·rename_i size st eK;replace ai:=dV ai;obtain⟨hle,ai⟩:=ai;cases ai;have rL:=ec.1 hle;obtain⟨M,an,Lh,Cd,Ld,K5,KD⟩:=EU (P:=P) (w:=w) (c:=n) aj (Nat.le_refl _) (Nat.le_refl _) (λ_=>rfl) iY wR mx false
     have afL:gi=true:=by have:=aj;unfold js at this;split at this<;>(repeat' (split at this))<;>first|(cases this;rfl) |cases this
     obtain rfl:=Cd afL;have db:h.get id≠.dead:=λe=>by rw[e]at eK;cases eK
     obtain⟨kR,asn,fr,aG,aT,bJ,_⟩:=(rel.obj id loc _ hm (ae.nk db)).row eK;refine⟨.slice (some (if M=l then⟨loc.b,loc.o+off,none⟩else Addr.add ⟨loc.b,loc.o+off,none⟩ (l*ie.size))) (aD-l) (M-l),?_,loc,_,_,hm,rfl,by omega,Nat.le_refl _,λ_=>rfl,λc'=> ?_,?_⟩
     ·simp[Instr.sliceAt,Instr.sureAddr,ut,aC,an,nH ok fY]
     ·rw[if_neg (by omega),add_eq,Nat.add_assoc]
     ·have:l*ie.size+(M-l) *ie.size<=n*ie.size:=by
       rw[<-Nat.add_mul];exact Nat.mul_le_mul_right _ (by omega)
      omega
    ·cases ai
   ·cases ai
  ·cases ai
end
section
variable{P:Program}{E:Env}{σ:Nat->Int}{μ:Map}{h:ae}{w:World}{r:bE}{tmps:Array Value}
theorem ad0(ok:dL P E σ){s:TypeId}{x v:aa}{u:Value}{f:Nat}(ai:aQ E s x f=some v)(hu:bL σ μ x u) :
  ∃q,(Instr.fieldAt s u f).run P w=.ok q w/\bL σ μ v q:=by
 unfold aQ at ai;split at ai
 ·rename_i i id off aA;obtain⟨loc,hm,bw⟩:=hu;subst bw;split at ai
  ·rename_i fs aC;split at ai
   ·rename_i fd aJ;split at ai
    ·rename_i gJ rH;replace ai:=ES ai;obtain⟨h0,ai⟩:=ai;cases ai;have aP:¬gJ.size=0:=beq_false.1 h0;refine⟨.pointer (some ⟨loc.b,loc.o+(off+fd.offset),none⟩),?_,loc,hm,rfl⟩;simp[Instr.fieldAt,ir ok aA,aC,aJ,Instr.sureAddr,fieldPlace,nH ok rH,aP,add_eq,Nat.add_assoc]
    ·cases ai
   ·cases ai
  ·cases ai
 ·cases ai
theorem ad1(ok:dL P E σ){s:TypeId}{x v:aa}{u:Value}{f:Nat}(ai:Fo E s x f=some v)(hu:bL σ μ x u) :
  ∃q,(Instr.field s u f).run P w=.ok q w/\bL σ μ v q:=by
 unfold Fo at ai;split at ai
 ·rename_i i cs aA;obtain⟨vs,bw,rv⟩:=hu;subst bw;split at ai
  ·rename_i fs aC;split at ai
   ·rename_i fd aJ;obtain⟨q,aF,k6⟩:=Dd (P:=P) ok rv ai w;exact⟨q,by simp[Instr.field,ir ok aA,aC,aJ,asAgg,aF],k6⟩
   ·cases ai
  ·cases ai
 ·cases ai
theorem Gt{x:Int}{n j:Nat}(aO:oe x n=some j) :0<=x/\x<(n:Int)/\x.toNat=j/\j<n:=by
 cases x with
 |negSucc m=>cases aO
 |ofNat m=>
  simp only[oe]at aO;replace aO:=dV aO;obtain⟨b6,aO⟩:=aO;cases aO;have:=dM.1 b6;simp;omega
theorem ah5(ok:dL P E σ){t:TypeId}{x g_ v:aa}{u z:Value}(ai:cZ E t x g_=some v)(hu:bL σ μ x u)(aP:bL σ μ g_ z) :
  ∃q,(Instr.indexAt t u z).run P w=.ok q w/\bL σ μ v q:=by
 unfold cZ at ai;split at ai
 ·rename_i i k n aW;have dp:z=_:=aP;subst dp;have ut:=ir (P:=P) ok aW w;split at ai
  ·rename_i len e id off aC;obtain⟨loc,hm,bw⟩:=hu;subst bw;split at ai
   ·rename_i ie j fY aO;cases ai;obtain⟨a,b,c,d⟩:=Gt aO;refine⟨.pointer (some ⟨loc.b,loc.o+(off+j*ie.size),none⟩),?_,loc,hm,rfl⟩;simp[Instr.indexAt,asIntOf,ut,aC,Instr.sureAddr,nH ok fY,a,b,c,add_eq,Nat.add_assoc]
   ·cases ai
  ·rename_i e id off len cap cT ex aC;obtain⟨loc,ad,kR,hm,bw,mg,mb,hex,bc,iG⟩:=hu;subst bw;split at ai
   ·rename_i ie j fY aO;replace ai:=dV ai;obtain⟨eR,ai⟩:=ai;cases ai;obtain⟨a,b,c,d⟩:=Gt aO;have LB:=beq_true.1 eR;have oP:=bc (by omega);subst oP;refine⟨.pointer (some ⟨loc.b,loc.o+(off+j*cT),none⟩),?_,loc,hm,rfl⟩;simp[Instr.indexAt,asIntOf,ut,aC,nH ok fY,a,b,c,LB,add_eq,Nat.add_assoc]
   ·cases ai
  ·cases ai
 ·cases ai
theorem apr(l:List UInt8)(j:Nat) :(⟨l.toArray⟩ :ByteArray)[j]? =l[j]? :=by
 by_cases aO:j<l.length
 ·rw[getElem?_pos (⟨l.toArray⟩ :ByteArray) j (by show j<l.toArray.size;simpa using aO),List.getElem?_eq_getElem aO];rfl
 ·rw[getElem?_neg (⟨l.toArray⟩ :ByteArray) j (by show¬j<l.toArray.size;simpa using aO),List.getElem?_eq_none (by omega)]
theorem ah7(ok:dL P E σ){t:TypeId}{x g_ v:aa}{u z:Value}(ai:o2 E t x g_=some v)(hu:bL σ μ x u)(aP:bL σ μ g_ z) :
  ∃q,(Instr.index t u z).run P w=.ok q w/\bL σ μ v q:=by
 unfold o2 at ai;split at ai
 ·rename_i i k n aW;have dp:z=_:=aP;subst dp;have ut:=ir (P:=P) ok aW w;split at ai
  ·rename_i len e cs aC;obtain⟨vs,bw,rv⟩:=hu;subst bw;split at ai
   ·rename_i ie j fY aO;obtain⟨a,b,c,d⟩:=Gt aO;obtain⟨q,aF,k6⟩:=Dd (P:=P) ok rv ai w;exact⟨q,by simp[Instr.index,asIntOf,ut,aC,nH ok fY,a,b,c,aF],k6⟩
   ·cases ai
  ·rename_i len m aC;obtain⟨b6,bw⟩:=hu;subst bw;split at ai
   ·rename_i j aO;cases ai;obtain⟨a,b,c,d⟩:=Gt aO;have aN:(⟨(bytesOf len m).toArray⟩ :ByteArray)[j]? =some (UInt8.ofNat (dN m j)):=by rw[apr,sy,if_pos d]
    have aj:=vI m j;refine⟨.int .u8 (UInt8.ofNat (dN m j)).toNat,by simp[Instr.index,asIntOf,ut,aC,a,c,aN],?_⟩;rw[bL];congr 1;simp;omega
   ·cases ai
  ·cases ai
 ·cases ai
theorem Gv{d:TypeDesc}(aC:qG d=true) :(∃k,d=.int k)\/d=.string\/d=.bool:=by
 unfold qG at aC;split at aC
 ·exact .inl ⟨_,rfl⟩
 ·exact .inr (.inl rfl)
 ·exact .inr (.inr rfl)
 ·cases aC
theorem Sp(em:Bool)(D:Nat){t:TypeId}{d:TypeDesc}(hu:P.underlying t=some d)(aC:qG d=true)(u:Value) :(Instr.checkKey em (D+1) t u).run P w=.ok () w:=by rcases Gv aC with⟨k,rfl⟩ |rfl|rfl<;>simp[Instr.checkKey,run_underlying hu]
theorem GG{i:bK}{eG:TypeId}(av:wq E eG=true)(aW:E.ty eG=some i) :qG i.desc=true\/
  ∃fs,i.desc=.struct fs/\(Aq fs.toList 0=true/\i.size=fs.toList.length)/\∀f,f∈fs.toList->∃gJ,E.ty f.type=some gJ/\qG gJ.desc=true/\gJ.size=1:=by
 unfold wq at av;rw[aW]at av;simp only[Bool.or_eq_true]at av;rcases av with av|av
 ·exact .inl av
 ·right;split at av
  ·rename_i fs aC;simp only[Bool.and_eq_true,List.all_eq_true]at av;refine⟨fs,aC,⟨av.1.1.2,beq_true.1 av.1.2⟩,λf aJ=> ?_⟩;have:=av.2 f aJ;split at this
   ·rename_i gJ rH;exact⟨gJ,rH,(fR this).1,beq_true.1 (fR this).2⟩
   ·cases this
  ·cases av
theorem Sn(ok:dL P E σ)(em:Bool)(D:Nat){xs:List aa}{us:Array Value}(rx:cy σ μ xs us.toList){g:TypeId->aa->aa->Option Bool} :
  ∀(fs:List Field) (b:Bool),(∀f,f∈fs->∃gJ,E.ty f.type=some gJ/\qG gJ.desc=true)->eqFields E g fs xs xs=some true->
   (forIn fs PUnit.unit λf (_:PUnit)=>(if f.name≠ "_" then do
     let x<-part f.type us f.offset
     Instr.checkKey em (D+1) f.type x
     pure (ForInStep.yield PUnit.unit)else pure (ForInStep.yield PUnit.unit) :Sem (ForInStep PUnit))).run P w=.ok PUnit.unit w
 |[],b,_,_=>by simp
 |f::fs,b,aJ,he=>by
  simp only[eqFields]at he;cases h1:o4 E f.type xs f.offset with
  |none=>rw[h1]at he;cases he
  |some a=>
   rw[h1]at he;simp only at he;cases ab:g f.type a a with
   |none=>rw[ab]at he;cases he
   |some q=>
    rw[ab]at he;cases q with
    |false=>cases he
    |true=>
     simp only at he;obtain⟨x,ag,_⟩:=Dd (P:=P) ok rx h1 w;obtain⟨gJ,rH,av⟩:=aJ f List.mem_cons_self;have b1:=Sn ok em D rx fs b (λf pw=>aJ f (List.mem_cons_of_mem _ pw)) he;simp only[List.forIn_cons,Sem.run_bind,Sem.run_ite];by_cases aw:f.name≠ "_"
     ·rw[if_pos aw];simp only[Sem.run_bind,ag,Result.andThen_ok,Sp em D (ok.ty _ _ rH).eI av,Sem.run_pure];exact b1
     ·rw[if_neg aw];simp only[Sem.run_pure,Result.andThen_ok];exact b1
theorem J9{t:TypeId}{i:bK}{fs:Array Field}{d:Nat}{x y:aa}{b:Bool}(aW:E.ty t=some i)(aC:i.desc=.struct fs)(he:gE E h (d+1) t x y=some b) :
  ∃xs en,x=.agg xs/\y=.agg en/\i.plain=true/\eqFields E (gE E h d) fs.toList xs en=some b:=by
 simp only[gE,aW,aC]at he;split at he;all_goals first|contradiction|skip
 rename_i gs xs en aN;cases aN;replace he:=dV he;obtain⟨aI,he⟩:=he;exact⟨xs,en,rfl,rfl,aI,he⟩
theorem acy(ok:dL P E σ)(em:Bool)(D:Nat){eG:TypeId}{k:aa}{u:Value}(av:og E h eG k=true)(hu:bL σ μ k u) :(Instr.checkKey em (D+1+1) eG u).run P w=.ok () w:=by
 unfold og at av;obtain⟨h1,ab⟩:=fR (fR av).1;cases aW:E.ty eG with
 |none=>simp only[wq,aW]at h1;cases h1
 |some i=>
  rcases GG h1 aW with aJ|⟨fs,aC,aI,hD⟩
  ·exact Sp em (D+1) (ok.ty _ _ aW).eI aJ u
  ·split at ab
   ·rename_i b aj;subst ab;obtain⟨xs,en,rfl,aT,_,he⟩:=J9 aW aC aj;cases aT;obtain⟨us,bw,jj⟩:=hu;subst bw;have:=Sn (P:=P) (w:=w) ok em D jj fs.toList true (λf aJ=>let⟨gJ,a,b,_⟩:=hD f aJ;⟨gJ,a,b⟩) he;obtain⟨n,aw⟩ :∃n,n=D+1:=⟨_,rfl⟩;rw[<-aw]at this|-;simp only[Instr.checkKey,Sem.run_bind,ir ok aW,aC,Result.andThen_ok];rw[<-Array.forIn_toList];have e:=this;simp only[ne_eq,ite_not,bind_pure_comp]at e|-;rw[e];rfl
   ·cases ab
theorem xh(ok:dL P E σ)(em:Bool){eG:TypeId}{k:aa}{u:Value}(av:og E h eG k=true)(hu:bL σ μ k u) :(Instr.checkKey em 10000 eG u).run P w=.ok () w:=
 acy ok em 9998 av hu
def y5(σ:Nat->Int)(μ:Map)(u:Value)(cV:List MapEntry)(i:Nat) :Option (Nat×aa×Nat)->Option (Nat×Value)->Prop
 |none,x=>x=none
 |some (j,v,b),x=>∃y e,x=some (j,y)/\bL σ μ v y/\i<=j/\cV[j-i]? =some e/\e.key=u/\e.val=y/\e.born=b
theorem y5.step{u:Value}{e:MapEntry}{cV:List MapEntry}{i:Nat}{res:Option (Nat×aa×Nat)}{x:Option (Nat×Value)}(an:y5 σ μ u cV (i+1) res x) :y5 σ μ u (e::cV) i res x:=by
 cases res with
 |none=>exact an
 |some y=>
  obtain⟨j,v,b⟩:=y;obtain⟨y,de,h1,ab,al,aE,aL⟩:=an;refine⟨y,de,h1,ab,by omega,?_,aL⟩;rw[show j-i=(j-(i+1)) +1 by omega,List.getElem?_cons_succ];exact aE
theorem C0(ok:dL P E σ){eG:TypeId}{i:bK}(aW:E.ty eG=some i)(aJ:qG i.desc=true){d:Nat}{k et:aa}{b:Bool}{u eD:Value}(he:gE E h (d+1) eG k et=some b)
  (hu:bL σ μ k u) (pF:bL σ μ et eD) :Instr.sameNow i.desc u eD=some b/\(b=true->u=eD):=by
 simp only[gE,aW]at he;rcases Gv aJ with⟨j,aC⟩ |aC|aC
 ·rw[aC]at he|-;split at he;all_goals first|contradiction|skip
  ·have bw:u=_:=hu;have rp:eD=_:=pF;subst bw rp;replace he:=dV he;obtain⟨av,he⟩:=he;cases he;rw[l'.1 av,rn];exact⟨by simp[Instr.sameNow],λe=>by rw[beq_iff_eq.1 e]⟩
  ·have bw:u=_:=hu;have rp:eD=_:=pF;subst bw rp;replace he:=dV he;obtain⟨av,he⟩:=he;rw[l'.1 av,<-zu ok he];exact⟨by simp[Instr.sameNow,iB.val],λe=>by have:=beq_iff_eq.1 e;simp only[iB.val]at this;rw[this]⟩
  ·have bw:u=_:=hu;have rp:eD=_:=pF;subst bw rp;replace he:=dV he;obtain⟨av,he⟩:=he;rw[l'.1 av,<-zu ok he];exact⟨by simp[Instr.sameNow,iB.val],λe=>by have:=beq_iff_eq.1 e;simp only[iB.val]at this;rw[this]⟩
  ·rename_i k a et dK _;have bw:u=_:=hu;have rp:eD=_:=pF;subst bw rp;replace he:=dV he;obtain⟨av,he⟩:=he;rw[l'.1 av];cases hO:Nat.beq a dK with
   |true=>
    rw[hO]at he;cases he;rw[beq_true.1 hO];exact⟨by simp[Instr.sameNow],λ_=>rfl⟩
   |false=>
    rw[hO]at he;rw[<-zu ok he];exact⟨by simp[Instr.sameNow,iB.val],λe=>by have:=beq_iff_eq.1 e;simp only[iB.val]at this;rw[this]⟩
 ·rw[aC]at he|-;split at he;all_goals first|contradiction|skip
  obtain⟨h1,bw⟩:=hu;obtain⟨ab,rp⟩:=pF;subst bw rp;cases he;refine⟨by simp only[Instr.sameNow];rw[beq_toListBytes,AU,AU,HQ h1 ab],λe=> ?_⟩;rw[beq_true.1 (fR e).1,beq_true.1 (fR e).2]
 ·rw[aC]at he|-;split at he;all_goals first|contradiction|skip
  have bw:u=_:=hu;have rp:eD=_:=pF;subst bw rp;cases he;exact⟨rfl,λe=>by rw[beq_iff_eq.1 e]⟩
theorem S6(ok:dL P E σ){d:Nat}{xs en:List aa}{us vs:Array Value}(rx:cy σ μ xs us.toList)(iO:cy σ μ en vs.toList) :
  ∀(fs:List Field),(∀f,f∈fs->∃gJ,E.ty f.type=some gJ/\qG gJ.desc=true/\gJ.size=1)->eqFields E (gE E h (d+1)) fs xs en=some true->
   ∀f,f∈fs->us[f.offset]? =vs[f.offset]? /\(us[f.offset]?).isSome=true
 |[],_,_,f,aJ=>by cases aJ
 |f::fs,av,he,g,aN=>by
  simp only[eqFields]at he;obtain⟨gJ,rH,Cm,eR⟩:=av f List.mem_cons_self;have pr:qF gJ.desc=false:=by rcases Gv Cm with⟨k,e⟩ |e|e<;>rw[e]<;>rfl
  cases h1:o4 E f.type xs f.offset with
  |none=>rw[h1]at he;cases he
  |some a=>
   cases ab:o4 E f.type en f.offset with
   |none=>rw[h1,ab]at he;cases he
   |some c=>
    rw[h1,ab]at he;simp only at he;cases al:gE E h (d+1) f.type a c with
    |none=>rw[al]at he;cases he
    |some q=>
     rw[al]at he;cases q with
     |false=>cases he
     |true=>
      simp only at he;rcases List.mem_cons.1 aN with rfl|aN
      ·unfold o4 at h1 ab;rw[rH]at h1 ab;simp only[pr]at h1 ab;obtain⟨x,ag,cS⟩:=rx.get _ _ h1;obtain⟨y,aq,dm⟩:=iO.get _ _ ab;have:=(C0 ok rH Cm al cS dm).2 rfl;subst this;have hl:us[g.offset]? =some x:=by simpa using ag
       have od:vs[g.offset]? =some x:=by simpa using aq
       rw[hl,od];exact⟨rfl,rfl⟩
      ·exact S6 ok rx iO fs (λf aJ=>av f (List.mem_cons_of_mem _ aJ)) he g aN
theorem RN(ok:dL P E σ)(rel:dU σ μ h w.heap){eG:TypeId}{k:aa}{u:Value}(hu:bL σ μ k u)(same:∀et eD,L9 k et=true->gE E h 5 eG k et=some true->bL σ μ et eD->eD=u) :
  ∀(es:List (aa×aa×Nat)) (cV:List MapEntry) (i:Nat) (res:Option (Nat×aa×Nat)),lJ E h eG k es i=some res->hz σ μ es cV->
   ∃x,(Instr.findAsking eG u cV i).run P w=.ok x w/\y5 σ μ u cV i res x
 |[],_,i,res,he,an=>by simp only[lJ]at he;cases he;have:_=_:=an;subst this;exact⟨none,by simp[Instr.findAsking],rfl⟩
 |(et,v,b)::es,_,i,res,he,⟨e,cV,rfl,av,ai,aj,an⟩=>by
  simp only[lJ]at he;replace he:=dV he;obtain⟨xN,he⟩:=he;cases h1:gE E h 5 eG k et with
  |none=>rw[h1]at he;cases he
  |some q=>
   rw[h1]at he;have aF:=S8 ok rel 5 10000 eG k et q (by omega) h1 u e.key hu av;have qB:(Op.equal eG u e.key).run P w=.ok q w:=aF;cases q with
   |true=>
    simp only at he;cases he;refine⟨some (i,e.val),by simp[Instr.findAsking,qB],e.val,e,rfl,ai,Nat.le_refl _,by simp,same _ _ xN h1 av,rfl,aj⟩
   |false=>
    simp only at he;obtain⟨x,ag,aJ⟩:=RN ok rel hu same es cV (i+1) res he an;exact⟨x,by simp[Instr.findAsking,qB,ag],aJ.step⟩
theorem V3(ok:dL P E σ){eG:TypeId}{i:bK}(aW:E.ty eG=some i)(aJ:qG i.desc=true){k:aa}{u:Value}(hu:bL σ μ k u) :
  ∀(es:List (aa×aa×Nat)) (cV:List MapEntry) (n:Nat) (res:Option (Nat×aa×Nat)),lJ E h eG k es n=some res->hz σ μ es cV->
   ∃x,Instr.findNow i.desc u cV n=some x/\y5 σ μ u cV n res x
 |[],_,n,res,he,an=>by simp only[lJ]at he;cases he;have:_=_:=an;subst this;exact⟨none,rfl,rfl⟩
 |(et,v,b)::es,_,n,res,he,⟨e,cV,rfl,av,ai,aj,an⟩=>by
  simp only[lJ]at he;replace he:=dV he;obtain⟨xN,he⟩:=he;cases h1:gE E h 5 eG k et with
  |none=>rw[h1]at he;cases he
  |some q=>
   rw[h1]at he;obtain⟨aF,aA⟩:=C0 ok aW aJ h1 hu av;cases q with
   |true=>
    simp only at he;cases he;exact⟨some (n,e.val),by simp[Instr.findNow,aF],e.val,e,rfl,ai,Nat.le_refl _,by simp,(aA rfl).symm,rfl,aj⟩
   |false=>
    simp only at he;obtain⟨x,ag,mc⟩:=V3 ok aW aJ hu es cV (n+1) res he an;exact⟨x,by simp[Instr.findNow,aF,ag],mc.step⟩
end
section
variable{P:Program}{E:Env}{σ:Nat->Int}{μ:Map}{h:ae}{w:World}{r:bE}{tmps:Array Value}
theorem M0:∀(fs:List Field) (i:Nat),Aq fs i=true->∀j,j<fs.length->∃f,f∈fs/\f.offset=i+j
 |[],_,_,j,aO=>by simp at aO
 |f::fs,i,bg,0,_=>⟨f,List.mem_cons_self,by simp only[Aq]at bg;have:=beq_true.1 (fR bg).1;omega⟩
 |f::fs,i,bg,j+1,aO=>by simp only[Aq]at bg;obtain⟨g,aN,e⟩:=M0 fs (i+1) (fR bg).2 j (by simpa using aO);exact⟨g,List.mem_cons_of_mem _ aN,by omega⟩
theorem air(ok:dL P E σ){eG:TypeId}{k:aa}{u:Value}(av:og E h eG k=true)(hu:bL σ μ k u) :
  ∀et eD,L9 k et=true->gE E h 5 eG k et=some true->bL σ μ et eD->eD=u:=by
 intro et eD ay he pF;unfold og at av;obtain⟨dv,al⟩:=fR av;obtain⟨h1,ab⟩:=fR dv;cases aW:E.ty eG with
 |none=>simp only[wq,aW]at h1;cases h1
 |some i=>
  rcases GG h1 aW with aJ|⟨fs,aC,⟨bg,aA⟩,hD⟩
  ·exact((C0 ok aW aJ he hu pF).2 rfl).symm
  ·obtain⟨xs,en,rfl,rfl,_,he⟩:=J9 aW aC he;obtain⟨us,rfl,jj⟩:=hu;obtain⟨vs,rfl,rv⟩:=pF;have aw:=S6 ok jj rv fs.toList hD he;rw[aW]at al;have gM:xs.length=fs.toList.length:=by rw[beq_true.1 al,aA]
   have hR:xs.length=en.length:=beq_true.1 ay;have aG:=jj.length;have aT:=rv.length;congr 1;apply Array.ext_getElem?;intro j;by_cases aO:j<fs.toList.length
   ·obtain⟨f,aJ,qo⟩:=M0 fs.toList 0 bg j aO;have:=(aw f aJ).1;rw[qo,Nat.zero_add]at this;exact this.symm
   ·rw[Array.getElem?_eq_none (by simp only[Array.length_toList]at aG aT;omega),Array.getElem?_eq_none (by simp only[Array.length_toList]at aG aT;omega)]
theorem xo(ok:dL P E σ)(rel:dU σ μ h w.heap){eG:TypeId}{k:aa}{u:Value}(av:og E h eG k=true)(hu:bL σ μ k u){es:List (aa×aa×Nat)}{cV:List MapEntry}
  {res:Option (Nat×aa×Nat)} (he:lJ E h eG k es 0=some res) (an:hz σ μ es cV) :
  ∃x,(Instr.findKey eG u cV).run P w=.ok x w/\y5 σ μ u cV 0 res x:=by
 have kX:=av;unfold og at av;obtain⟨dv,al⟩:=fR av;obtain⟨h1,ab⟩:=fR dv;cases aW:E.ty eG with
 |none=>simp only[wq,aW]at h1;cases h1
 |some i=>
  rcases GG h1 aW with aJ|⟨fs,aC,_,hD⟩
  ·obtain⟨x,ag,mc⟩:=V3 ok aW aJ hu es cV 0 res he an;exact⟨x,by simp[Instr.findKey,ir ok aW,ag],mc⟩
  ·obtain⟨x,ag,mc⟩:=RN (P:=P) ok rel hu (air ok kX hu) es cV 0 res he an;refine⟨x,?_,mc⟩;simp only[Instr.findKey,Sem.run_bind,ir ok aW,aC,Result.andThen_ok];cases cV with
   |nil=>
    simp[Instr.findAsking]at ag;simp[Instr.findNow,ag]
   |cons e cV=>simpa [Instr.findNow,Instr.sameNow]using ag
theorem B4(rel:dU σ μ h w.heap){id:Nat}{loc:Loc}{es:List (aa×aa×Nat)}{clock:Nat}(hm:μ id=some loc)(aN:h.get id=.map es clock) :
  ∃cV,w.heap[loc.b]? =some (.map cV clock)/\hz σ μ es cV.toList/\(getObj loc.b).run P w=.ok (.map cV clock) w:=by
 have db:h.get id≠.dead:=by rw[aN];simp
 have:=rel.obj id loc _ hm (ae.nk db);rw[aN]at this;obtain⟨cV,e,r⟩:=this;exact⟨cV,e,r,by simp[getObj,Sem.run,e]⟩
theorem akO(ok:dL P E σ)(rel:dU σ μ h w.heap){t:TypeId}{x g_ v:aa}{u z:Value}{b:Bool}(ai:pN E h t x g_ b=some v)(hu:bL σ μ x u)(aP:bL σ μ g_ z) :
  ∃q,(Instr.lookup t u z b).run P w=.ok q w/\bL σ μ v q:=by
 unfold pN at ai;split at ai
 ·cases ai
 ·rename_i i aW;split at ai
  ·rename_i eG e aC;split at ai
   ·cases ai
   ·rename_i ie fY;replace ai:=dV ai;obtain⟨av,ai⟩:=ai;obtain⟨auo,UH,jk,_⟩:=yx (P:=P) ok fY
    have pair:∀(a:aa) (q:Value) (c:Bool),bL σ μ a q->bL σ μ (bif b then .tuple [a,.bool c]else a) (if b=true then .tuple #[q,.bool c]else q):=by
     intro a q c qS;cases b with
     |true=>exact⟨_,rfl,q,[.bool c],rfl,qS,.bool c,[],rfl,rfl,rfl⟩
     |false=>exact qS
    split at ai
    ·have bw:u=_:=hu;subst bw;split at ai
     ·rename_i kg;cases ai;refine⟨_,?_,pair _ _ false (jk μ)⟩;obtain⟨x,ag,mc⟩:=xo (P:=P) ok rel av aP kg (cV:=[]) rfl;have:x=none:=mc;subst this;simp[Instr.lookup,ir ok aW,aC,xh ok true av aP,ag,UH]
     ·cases ai
    ·rename_i id;obtain⟨loc,hm,bw⟩:=hu;subst bw;split at ai
     ·rename_i es clock aN;obtain⟨cV,aG,aT,bJ⟩:=B4 (P:=P) rel hm aN;split at ai
      ·rename_i j eT dK kg;cases ai;obtain⟨x,ag,mc⟩:=xo (P:=P) ok rel av aP kg aT;obtain⟨y,ent,x1,iO,_⟩:=mc;subst x1;refine⟨_,?_,pair _ _ true iO⟩;simp[Instr.lookup,ir ok aW,aC,bJ,xh ok cV.isEmpty av aP,ag]
      ·rename_i kg;cases ai;obtain⟨x,ag,mc⟩:=xo (P:=P) ok rel av aP kg aT;have:x=none:=mc;subst this;refine⟨_,?_,pair _ _ false (jk μ)⟩;simp[Instr.lookup,ir ok aW,aC,bJ,xh ok cV.isEmpty av aP,ag,UH]
      ·cases ai
     ·cases ai
    ·cases ai
  ·cases ai
theorem hz.length:∀{cY:List (aa×aa×Nat)} {es:List MapEntry},hz σ μ cY es->cY.length=es.length
 |[],_,e=>by have:_=_:=e;subst this;rfl
 |(k,v,b)::cY,_,⟨e,cV,rfl,_,_,_,r⟩=>by simp[hz.length r]
theorem aiN(ok:dL P E σ)(rel:dU σ μ h w.heap){t:TypeId}{x v:aa}{u:Value}(ts:Array TypeId)(oY:ts[0]? =some t)(rt:TypeId)(ai:dw E h t x=some v)(hu:bL σ μ x u) :
  ∃q,(Builtin.len_ ts rt #[u]).run P w=.ok q w/\bL σ μ v q:=by
 unfold dw at ai;split at ai
 ·cases ai
 ·rename_i i aW;have ut:=ir (P:=P) ok aW w;split at ai
  ·rename_i l n aC;obtain⟨_,bw⟩:=hu;subst bw;cases ai;have eR:(⟨(bytesOf l n).toArray⟩ :ByteArray).size=l:=by show(bytesOf l n).toArray.size=l;simp[nR]
   exact⟨.int .i64 l,by simp[Builtin.len_,oY,ut,aC,goInt,eR],rfl⟩
  ·rename_i n e aC;cases ai;exact⟨.int .i64 n,by simp[Builtin.len_,oY,ut,aC,goInt],rfl⟩
  ·rename_i e aC;have bw:u=_:=hu;subst bw;cases ai;exact⟨.int .i64 0,by simp[Builtin.len_,oY,ut,aC,goInt],rfl⟩
  ·rename_i e id off len cap cT ex aC;obtain⟨loc,a,c,_,bw,_⟩:=hu;subst bw;cases ai;exact⟨.int .i64 len,by simp[Builtin.len_,oY,ut,aC,goInt],rfl⟩
  ·rename_i a b aC;have bw:u=_:=hu;subst bw;cases ai;exact⟨.int .i64 0,by simp[Builtin.len_,oY,ut,aC,goInt],rfl⟩
  ·rename_i a b id aC;obtain⟨loc,hm,bw⟩:=hu;subst bw;split at ai
   ·rename_i es clock aN;cases ai;obtain⟨cV,aG,aT,bJ⟩:=B4 (P:=P) rel hm aN;refine⟨.int .i64 cV.size,by simp[Builtin.len_,oY,ut,aC,goInt,bJ],?_⟩;rw[bL,aT.length];simp
   ·cases ai
  ·cases ai
theorem acs(ok:dL P E σ){t:TypeId}{x v:aa}{u:Value}(ts:Array TypeId)(oY:ts[0]? =some t)(rt:TypeId)(ai:EY E t x=some v)(hu:bL σ μ x u) :
  ∃q,(Builtin.cap_ ts rt #[u]).run P w=.ok q w/\bL σ μ v q:=by
 unfold EY at ai;split at ai
 ·cases ai
 ·rename_i i aW;have ut:=ir (P:=P) ok aW w;split at ai
  ·rename_i e aC;have bw:u=_:=hu;subst bw;cases ai;exact⟨.int .i64 0,by simp[Builtin.cap_,oY,ut,aC,goInt],rfl⟩
  ·rename_i e id off len c cT aC;obtain⟨loc,a,kR,_,bw,_,_,hex,_⟩:=hu;subst bw;cases ai;exact⟨.int .i64 kR,by simp[Builtin.cap_,oY,ut,aC,goInt],by rw[hex rfl];rfl⟩
  ·cases ai
theorem VN:∀(xs:List aa) (x v:aa) (us:List Value) (u:Value),rX x xs=some v->bL σ μ x u->cy σ μ xs us->∃q,(us.foldlM Builtin.min2 u).run P w=.ok q w/\bL σ μ v q
 |[],x,v,us,u,ai,hu,an=>by simp only[rX]at ai;cases ai;rw[cy.j1.1 an];exact⟨u,by simp,hu⟩
 |y::en,x,v,_,u,ai,hu,⟨z,us,rfl,aP,an⟩=>by
  unfold rX at ai;split at ai
  ·rename_i heq;cases heq
  ·rename_i heq;cases heq;have bw:u=_:=hu;have dp:z=_:=aP;subst bw dp;obtain⟨q,aF,k6⟩:=VN _ _ v us _ ai rfl an;refine⟨q,?_,k6⟩;simp only[List.foldlM_cons,Sem.run_bind,Builtin.min2,Sem.run_pure,Result.andThen_ok];rw[oi,cond_decide]at aF;exact aF
  ·cases ai
theorem VK:∀(xs:List aa) (x v:aa) (us:List Value) (u:Value),pP x xs=some v->bL σ μ x u->cy σ μ xs us->∃q,(us.foldlM Builtin.max2 u).run P w=.ok q w/\bL σ μ v q
 |[],x,v,us,u,ai,hu,an=>by simp only[pP]at ai;cases ai;rw[cy.j1.1 an];exact⟨u,by simp,hu⟩
 |y::en,x,v,_,u,ai,hu,⟨z,us,rfl,aP,an⟩=>by
  unfold pP at ai;split at ai
  ·rename_i heq;cases heq
  ·rename_i heq;cases heq;have bw:u=_:=hu;have dp:z=_:=aP;subst bw dp;obtain⟨q,aF,k6⟩:=VK _ _ v us _ ai rfl an;refine⟨q,?_,k6⟩;simp only[List.foldlM_cons,Sem.run_bind,Builtin.max2,Sem.run_pure,Result.andThen_ok];rw[oi,cond_decide]at aF;exact aF
  ·cases ai
end
section
variable{P:Program}{E:Env}{σ:Nat->Int}{μ:Map}{h:ae}{w:World}{r:bE}{tmps:Array Value}
theorem cy.set:∀{cY:List aa} {vs:List Value},cy σ μ cY vs->∀(i:Nat) {a:aa} {v:Value},bL σ μ a v->cy σ μ (cY.set i a) (vs.set i v)
 |[],_,e,i,a,v,_=>by rw[cy.j1.1 e];rfl
 |b::cY,_,⟨u,us,rfl,p,q⟩,0,a,v,ai=>⟨v,us,rfl,ai,q⟩
 |b::cY,_,⟨u,us,rfl,p,q⟩,i+1,a,v,ai=>⟨u,_,rfl,p,cy.set q i ai⟩
theorem XM:∀(vs:List aa) (us:List Value) (cs:List aa) (xs:Array Value) (off n:Nat),cy σ μ vs us->cy σ μ cs xs.toList->
  cy σ μ (AL cs (off+n) vs) ((us.zipIdx n).foldl (λ(cs:Array Value) (p:Value×Nat)=>cs.setIfInBounds (off+p.2) p.1) xs).toList
 |[],us,cs,xs,off,n,ai,aH=>by rw[cy.j1.1 ai];exact aH
 |v::vs,_,cs,xs,off,n,⟨u,us,rfl,hu,oZ⟩,aH=>by simp only[AL,List.zipIdx_cons,List.foldl_cons];have:=XM vs us (cs.set (off+n) v) (xs.setIfInBounds (off+n) u) off (n+1) oZ (by rw[Array.toList_setIfInBounds];exact aH.set _ hu);rwa[<-Nat.add_assoc]at this
theorem XL:∀(vs cs:List aa) (i:Nat),(AL cs i vs).length=cs.length
 |[],cs,i=>rfl
 |v::vs,cs,i=>by simp only[AL,XL vs,List.length_set]
def ED(σ:Nat->Int)(μ:Map) :List (Nat×aa)->List (Nat×Value)->Prop
 |[],qs=>qs=[]
 |(i,v)::ps,qs=>∃x W0,qs=(i,x)::W0/\bL σ μ v x/\ED σ μ ps W0
theorem Nl(aN:k' E μ)(an:∀i,bL σ μ (r.get i) (tmps.getD i undef)) :∀{ps:List (Nat×Operand)} {l:List (Nat×aa)},sE E r ps=some l->
  ED σ μ l (ps.map λ(p:Nat×Operand)=>(p.1,gF tmps p.2))
 |[],_,he=>by cases he;rfl
 |(i,x)::ps,_,he=>by
  unfold sE at he;split at he
  ·rename_i v l h1 ab;cases he;exact⟨_,_,rfl,uS aN an h1,Nl aN an ab⟩
  ·cases he
theorem Fp{pl:Nat->Option (Nat×Nat)} :∀(ps:List (Nat×aa)) (qs:List (Nat×Value)) (cs lk:List aa) (xs:Array Value),nV pl cs ps=some lk->ED σ μ ps qs->cy σ μ cs xs.toList->
  ∃It,Instr.fill pl xs qs=some It/\cy σ μ lk It.toList
 |[],qs,cs,lk,xs,he,aI,aH=>by have:qs=[]:=aI;subst this;simp only[nV]at he;cases he;exact⟨xs,rfl,aH⟩
 |(i,v)::ps,_,cs,lk,xs,he,⟨x,qs,rfl,ag,aI⟩,aH=>by
  simp only[nV]at he;split at he
  ·cases he
  ·rename_i off size ky;replace he:=dV he;obtain⟨aj,he⟩:=he;have KO:=EZ ag;have gM:x.cells.size=size:=by rw[<-beq_true.1 (fR aj).1,KO.length,Array.length_toList]
   have hR:off+x.cells.size<=xs.size:=by have:=ec.1 (fR aj).2;rw[KO.length,aH.length,Array.length_toList,Array.length_toList]at this;exact this
   have ab:=XM v.cells x.cells.toList cs xs off 0 KO aH;obtain⟨It,e,rx⟩:=Fp ps qs _ lk _ he aI ab;refine⟨It,?_,rx⟩;have afr:(decide (x.cells.size≠size) ||decide (off+x.cells.size>xs.size))=false:=by simp[gM];omega
   simp only[Instr.fill,ky,afr,Bool.false_eq_true,if_false];rw[<-Array.foldl_toList,Array.toList_zipIdx];exact e
theorem ab5(ok:dL P E σ){t:TypeId}{ps:List (Nat×aa)}{qs:Array (Nat×Value)}{i:bK}{v:aa}(aW:E.ty t=some i)(aI:ED σ μ ps qs.toList)
  (ai:(match i.desc with
    | .struct _=>match nV (λk=>i.parts[k]?) i.zero ps with
     |some cs=>some (.agg cs)
     |none=>none
    | .array _ e=>match E.ty e with
     |some ie=>match nV (λk=>some (k*ie.size,ie.size)) i.zero ps with
      |some cs=>some (.agg cs)
      |none=>none
     |none=>none
    |_=>none)=some v) :∃q,(Instr.build t qs).run P w=.ok q w/\bL σ μ v q:=by
 obtain⟨z,aP,_,jk⟩:=yx (P:=P) ok aW;split at ai
 ·rename_i fs aC;split at ai
  ·rename_i cs aJ;cases ai;obtain⟨xs,ag,rx⟩:=Fp ps qs.toList i.zero cs z.cells aJ aI (jk μ);refine⟨.agg xs,?_,xs,rfl,rx⟩;have agV:=(ok.ty t i aW).parts fs aC w
   have hl:Instr.fill (λk=>i.parts.toArray[k]?) z.cells qs.toList=some xs:=by rw[<-ag];congr 1;funext k;simp
   simp only[Instr.build,Sem.run_bind,aP,Result.andThen_ok,ir ok aW,aC];rw[agV];simp only[Result.andThen_ok,hl,Sem.run_pure]
  ·cases ai
 ·rename_i n e aC;split at ai
  ·rename_i ie fY;split at ai
   ·rename_i cs aJ;cases ai;obtain⟨xs,ag,rx⟩:=Fp ps qs.toList i.zero cs z.cells aJ aI (jk μ);exact⟨.agg xs,by simp[Instr.build,aP,ir ok aW,aC,nH ok fY,ag],xs,rfl,rx⟩
   ·cases ai
  ·cases ai
 ·cases ai
theorem akN(ok:dL P E σ)(rel:dU σ μ h w.heap)(aN:k' E μ)(an:∀i,bL σ μ (r.get i) (tmps.getD i undef)){o:Oper}{v:aa}(ai:fi E r h o.op=some v) :
  ∃q,(execOp (gF tmps) o).run P w=.ok (.value q) w/\bL σ μ v q:=by
 obtain⟨dst,op,ty,pos,after,guard⟩:=o;simp only at ai
 have wrap:∀{s:Sem Value} {v:aa},(∃q,s.run P w=.ok q w/\bL σ μ v q)->∃q,(do pure (Next.value (<-s)) :Sem Next).run P w=.ok (.value q) w/\bL σ μ v q:=
  λ⟨q,e,k6⟩=>⟨q,by simp[e],k6⟩
 have O:=λ{x:Operand} {v:aa} (he:ek E r x=some v)=>uS (σ:=σ) aN an he
 cases op<;>simp only[fi]at ai<;>first|(cases ai;done) |skip
 case move x=>exact⟨_,rfl,O ai⟩
 case assign x=>exact⟨_,rfl,O ai⟩
 case pick c a b=>
  split at ai
  ·rename_i aH;have e:gF tmps c=_:=O aH;exact⟨_,by simp[execOp,e,asBool],O ai⟩
  ·rename_i aH;have e:gF tmps c=_:=O aH;exact⟨_,by simp[execOp,e,asBool],O ai⟩
  ·cases ai
 case build t parts=>
  split at ai
  ·rename_i i ps aW Cz;have:=Nl (σ:=σ) aN an Cz;refine wrap (ab5 (P:=P) ok aW (qs:=parts.map λ(i,x)=>(i,gF tmps x)) ?_ ai);rw[Array.toList_map];exact this
  ·cases ai
 case load t a=>
  split at ai
  ·rename_i id off bc;obtain⟨loc,hm,e⟩:=O bc;obtain⟨q,aF,k6⟩:=Vz (P:=P) ok rel hm ai;exact⟨q,by simp[execOp,Instr.loadAt,Instr.sureAddr,e,aF],k6⟩
  ·cases ai
 case nilCheck x=>
  split at ai
  ·rename_i id off bc;have ro:=O bc;obtain⟨loc,hm,e⟩:=ro;cases ai;exact⟨_,by simp only[execOp,e];rfl,loc,hm,rfl⟩
  ·rename_i f a b bc;have ro:=O bc;obtain⟨bU,aaN,e,qS,dO⟩:=ro;cases ai;exact⟨_,by simp only[execOp,e];rfl,bU,aaN,rfl,qS,dO⟩
  ·rename_i l bc;have ro:=O bc;obtain⟨loc,hm,e⟩:=ro;cases ai;exact⟨_,by simp only[execOp,e];rfl,loc,hm,rfl⟩
  ·cases ai
 case binOp op t x y asb=>
  split at ai
  ·rename_i a b bc aj;exact wrap (abB (P:=P) ok rel ai x y (O bc) (O aj))
  ·cases ai
 case unOp op t x=>
  split at ai
  ·rename_i a bc;exact wrap (aqM ai (O bc))
  ·cases ai
 case convert s d x=>
  split at ai
  ·rename_i a bc;exact wrap (acN (P:=P) ok rel ai (O bc))
  ·cases ai
 case makeFunc fn first captured=>
  split at ai
  ·rename_i f a b h1 ab;cases ai;have cS:=uT (σ:=σ) aN an h1;have dm:=uT (σ:=σ) aN an ab;exact⟨.func (.func f) (first.map (gF tmps)) (captured.map (gF tmps)),by simp[execOp,Instr.makeFunc],_,_,rfl,by rw[Array.toList_map];exact cS,by rw[Array.toList_map];exact dm⟩
  ·cases ai
 case slice t x lo af gN=>
  split at ai
  ·rename_i eT atQ fh atX h1 ab al aE;exact wrap (ao4 (P:=P) ok rel ai (O h1) (M9 (σ:=σ) aN an ab) (M9 (σ:=σ) aN an al) (M9 (σ:=σ) aN an aE))
  ·cases ai
 case fieldAddr s x f=>
  split at ai
  ·rename_i a bc;exact wrap (ad0 (P:=P) ok ai (O bc))
  ·cases ai
 case field s x f=>
  split at ai
  ·rename_i a bc;exact wrap (ad1 (P:=P) ok ai (O bc))
  ·cases ai
 case indexAddr t x g_=>
  split at ai
  ·rename_i a b bc aj;exact wrap (ah5 (P:=P) ok ai (O bc) (O aj))
  ·cases ai
 case index t x g_=>
  split at ai
  ·rename_i a b bc aj;exact wrap (ah7 (P:=P) ok ai (O bc) (O aj))
  ·cases ai
 case lookup t x g_ b=>
  split at ai
  ·rename_i a b bc aj;exact wrap (akO (P:=P) ok rel ai (O bc) (O aj))
  ·cases ai
 case extract t i=>
  split at ai
  ·rename_i vs bc;obtain⟨us,e,jj⟩:=O bc;obtain⟨q,aF,k6⟩:=jj.get i v ai;have qB:us[i]? =some q:=by simpa using aF
   exact⟨q,by simp[execOp,Instr.extract,e,qB],k6⟩
  ·cases ai
 case call c=>
  obtain⟨callee,args,argTypes⟩:=c;simp only at ai
  have EO:∀{x:aa},lI E r args.toList=some [x]->∃u,args.map (gF tmps)= #[u]/\bL σ μ x u:=by intro x ag;obtain⟨u,us,e,jj,r8⟩:=uT (σ:=σ) aN an ag;rw[cy.j1.1 r8]at e;refine⟨u,?_,jj⟩;apply Array.toList_inj.1;rw[Array.toList_map,e]
  split at ai
  ·rename_i x bc;split at ai
   ·rename_i t aW;obtain⟨u,e,jj⟩:=EO bc;obtain⟨q,aF,k6⟩:=aiN (P:=P) ok rel argTypes aW ty ai jj;exact⟨q,by simp[execOp,resolve,invoke,builtin,e,aF],k6⟩
   ·cases ai
  ·rename_i x bc;split at ai
   ·rename_i t aW;obtain⟨u,e,jj⟩:=EO bc;obtain⟨q,aF,k6⟩:=acs (P:=P) (w:=w) ok argTypes aW ty ai jj;exact⟨q,by simp[execOp,resolve,invoke,builtin,e,aF],k6⟩
   ·cases ai
  ·rename_i x xs bc;obtain⟨u,us,e,jj,r8⟩:=uT (σ:=σ) aN an bc;obtain⟨q,aF,k6⟩:=VN (P:=P) (w:=w) xs x v us u ai jj r8;have de:(args.map (gF tmps)).toList=u::us:=by rw[Array.toList_map,e]
   exact⟨q,by simp[execOp,resolve,invoke,builtin,Builtin.min_,e,aF],k6⟩
  ·rename_i x xs bc;obtain⟨u,us,e,jj,r8⟩:=uT (σ:=σ) aN an bc;obtain⟨q,aF,k6⟩:=VK (P:=P) (w:=w) xs x v us u ai jj r8;have de:(args.map (gF tmps)).toList=u::us:=by rw[Array.toList_map,e]
   exact⟨q,by simp[execOp,resolve,invoke,builtin,Builtin.max_,e,aF],k6⟩
  ·cases ai
end
section
variable{P:Program}{E:Env}{σ:Nat->Int}{μ:Map}{h:ae}{w:World}{r:bE}{tmps:Array Value}
theorem Sa:∀(cs:List aa) (n:Nat),EW cs=some n->∀i,i<cs.length->cs[i]? =some (.int .u8 (.ofNat (dN n i)))
 |[],_,_,i,af=>by simp at af
 |c::cs,n,he,i,af=>by
  unfold EW at he;split at he
  ·rename_i heq;cases heq
  ·rename_i b lk heq;cases heq;split at he
   ·rename_i m hm;replace he:=dV he;obtain⟨aj,he⟩:=he;cases he;have gK:=dM.1 aj;cases i with
    |zero=>simp[jE];omega
    |succ i=>
     have:=Sa cs m hm i (by simpa using af);have nU:(2:Nat) ^(8*1)=256:=by decide
     have e:(b+256*m) /2^(8*(i+1))=m/2^(8*i):=by rw[Nat.mul_add,Nat.add_comm (8*i),Nat.pow_add,<-Nat.div_div_eq_div_mul,nU];congr 1;omega
     rw[List.getElem?_cons_succ,this,jE,jE,e]
   ·cases he
  ·cases he
theorem Tq(n:Nat) :∀i,i<n->¬(((0,0) :Nat×Nat).1<=i/\i<((0,0) :Nat×Nat).2):=λi _ h=>by simp at h
theorem E0{cs:List aa}{xs:Array Value}{jT:TypeId}{loc:Loc}(bg:loc.o=0)(ay:loc.room=xs.size)(an:cy σ μ cs xs.toList){cell:Nat->Option aa}
  (aH:∀i,i<cs.length->cell i=cs[i]?) :la σ μ cell cs.length false loc (some (.cells xs jT)):=by
 refine⟨xs,jT,(0,0),rfl,by omega,by rw[ay,an.length,Array.length_toList];exact Nat.le_refl _,λ_=>rfl,Tq _,λi af=> ?_⟩;have aN:cs[i]? =some cs[i]:=List.getElem?_eq_getElem af;obtain⟨x,ag,rx⟩:=an.get i _ aN;exact⟨cs[i],x,by rw[aH i af,aN],by rw[bg,Nat.zero_add];simpa using ag,rx⟩
theorem MD{d:TypeDesc}{cs:List aa}{xs:Array Value}{jT:TypeId}{loc:Loc}(bg:loc.o=0)(ay:loc.room=xs.size)(an:cy σ μ cs xs.toList) :hq σ μ (te d cs) loc (some (.cells xs jT)):=by
 unfold te;split
 ·rename_i n h1 ab;refine E0 bg ay an λi af=> ?_
  simp only[bT.cell,dM.2 af,cond_true];rw[Sa cs n ab i af]
 ·refine E0 bg ay an λi af=> ?_
  simp only[bT.cell,dM.2 af,cond_true,bu.xu,List.getElem?_eq_getElem af]
theorem Hu(l:List aa) :∀(n k:Nat),l≠[]->(j5 n l)[k]? =if k<n*l.length then l[k%l.length]? else none
 |0,k,_=>by simp[j5]
 |n+1,k,ay=>by
  have ml:0<l.length:=List.length_pos_iff.2 ay;simp only[j5];by_cases av:k<l.length
  ·rw[List.getElem?_append_left av,if_pos (by rw[Nat.add_mul];omega),Nat.mod_eq_of_lt av]
  ·rw[List.getElem?_append_right (by omega),Hu l n (k-l.length) ay]
   have e:(k-l.length) %l.length=k%l.length:=by
    conv=>rhs;rw[show k=(k-l.length) +l.length by omega,Nat.add_mod_right]
   rw[e];by_cases ab:k-l.length<n*l.length
   ·rw[if_pos ab,if_pos (by rw[Nat.add_mul];omega)]
   ·rw[if_neg ab,if_neg (by rw[Nat.add_mul];omega)]
theorem wP(l:List aa) :∀n,(j5 n l).length=n*l.length
 |0=>by simp[j5]
 |n+1=>by simp only[j5,List.length_append,wP l n,Nat.add_mul];omega
theorem PC{zero:List aa}{z:Array Value}(aP:cy σ μ zero z.toList)(n:Nat)(c':zero≠[]) :cy σ μ (j5 n zero) ((Array.range (n*z.size)).map (z[· %z.size]!)).toList:=by
 have ay:zero.length=z.size:=by rw[aP.length,Array.length_toList]
 have ml:0<z.size:=by rw[<-ay];exact List.length_pos_iff.2 c'
 refine cy.pV (by rw[wP,ay];simp) λi a v bc ai=> ?_
 rw[Hu _ _ _ c']at bc;split at bc
 ·rename_i af;obtain⟨x,ag,rx⟩:=aP.get _ a bc;have fh:i<n*z.size:=by rw[<-ay];exact af
  have hm:i%z.size<z.size:=Nat.mod_lt _ ml
  have e:v=z[i%z.size]! :=by
   have:((Array.range (n*z.size)).map (z[· %z.size]!)).toList[i]? =some (z[i%z.size]!):=by simp[fh]
   rw[this]at ai;exact(Option.some.inj ai).symm
  rw[ay]at ag;have hl:z[i%z.size]? =some x:=by simpa using ag
  rw[e,getElem!_def,hl];exact rx
 ·cases bc
theorem Te{pl:Nat->Option (Nat×Nat)} :∀(ps:List (Nat×aa)) (cs lk:List aa),True->nV pl cs ps=some lk->lk.length=cs.length
 |[],cs,lk,_,he=>by simp only[nV]at he;cases he;rfl
 |(i,v)::ps,cs,lk,_,he=>by
  simp only[nV]at he;split at he
  ·cases he
  ·replace he:=dV he;obtain⟨_,he⟩:=he;rw[Te ps _ lk trivial he,XL]
def RE(P:Program)(σ:Nat->Int)(μ:Map)(tmps:Array Value)(o:Oper)(f:Nat->aa)(ob:bT)(w:World) :Prop:=
 ∃x obj room aZ,(execOp (gF tmps) o).run P w=.ok (.value x) aZ/\aZ.heap=w.heap.push obj/\dC w aZ/\
  ∀bS id,Ext μ bS->bS id=some ⟨w.heap.size,0,room⟩->bL σ bS (f id) x/\hq σ bS ob ⟨w.heap.size,0,room⟩ (some obj)
theorem acM(ok:dL P E σ){dst:TypeId}{a:aa}{l:Nat}{ob:bT}{u:Value}(ai:E' E dst a=some (l,ob))(hu:bL σ μ a u)(src:TypeId)(aA:∃d,P.underlying src=some d) :
  ∃x obj room aZ,(convert src dst u).run P w=.ok x aZ/\aZ.heap=w.heap.push obj/\dC w aZ/\
  ∀bS id,Ext μ bS->bS id=some ⟨w.heap.size,0,room⟩->bL σ bS (.slice id 0 l l 1 false) x/\hq σ bS ob ⟨w.heap.size,0,room⟩ (some obj):=by
 unfold E' at ai;split at ai
 ·rename_i d bQ n aC;obtain⟨b6,bw⟩:=hu;subst bw;split at ai
  ·rename_i e xC;split at ai
   ·rename_i ie fY;replace ai:=dV ai;obtain⟨cz,ai⟩:=ai;cases ai;obtain⟨ds,zJ⟩:=aA;have he:=L1 cz;have eR:(⟨(bytesOf l n).toArray⟩ :ByteArray).size=l:=by show(bytesOf l n).toArray.size=l;simp[nR]
    generalize aH:(Question.appendCap l 0 e).cut (w.tape w.drawn (.appendCap l 0 e))=c;have gj:l<=c:=by rw[<-aH];simp only[Question.cut];omega
    let row:Array Value:=((⟨(bytesOf l n).toArray⟩ :ByteArray).data.map λb=>Value.int .u8 b.toNat)++Array.replicate (c-l) (.int .u8 0);have eK:row.size=c:=by simp[row,nR];omega
    let ck:World:={w with drawn:=w.drawn+1,heap:=w.heap.push (.cells row e)};have s7:ck.heap[w.heap.size]? =some (.cells row e (0,0)):=by simp[ck]
    refine⟨.slice (some ⟨w.heap.size,0,none⟩) l c,.cells row e (row.size,row.size+1),c,{ck with heap:=w.heap.push (.cells row e (row.size,row.size+1))},?_,rfl,⟨rfl,rfl,rfl⟩,?_⟩
    ·have aft:(convert src dst (.string ⟨(bytesOf l n).toArray⟩)).run P w=(Conv.stringToBytes e ⟨(bytesOf l n).toArray⟩).run P w:=by
      simp[convert,run_underlying zJ,ir ok aC,xC,ir ok fY,he]
     rw[aft];unfold Conv.stringToBytes;simp only[Sem.run_bind,run_choose,Question.forced,Bool.false_eq_true,if_false,eR,aH,Result.andThen_ok,newRow,run_newObj,Sem.run_pure,markStringish,run_shape];have xU:ck.shape? w.heap.size=some (e,row.size):=by simp[World.shape?,s7]
     have fw:ck.freeze {block:=w.heap.size,off:=row.size} 1={ck with heap:=w.heap.push (.cells row e (row.size,row.size+1))}:=by
      simp only[World.freeze];rw[if_neg (by decide)];congr 1;apply Array.ext_getElem?;intro j;rw[Array.getElem?_modify];by_cases aO:w.heap.size=j
      ·subst aO;simp[ck]
      ·rw[if_neg aO];simp only[ck];by_cases b6:j<w.heap.size
       ·rw[Array.getElem?_push_lt b6,Array.getElem?_push_lt b6]
       ·rw[Array.getElem?_eq_none (by simp;omega),Array.getElem?_eq_none (by simp;omega)]
     show(Result.andThen (Sem.run P (match ck.shape? w.heap.size with|some (_,n)=>freeze {block:=w.heap.size,off:=n} 1|_=>pure ()) ck) _)=_;rw[xU];simp only[run_freeze,fw,Result.andThen_ok]
    ·intro bS id jH hid;refine⟨⟨_,_,_,hid,rfl,Nat.le_refl _,gj,(λe=>by cases e),λ_=>by simp,by simp⟩,?_⟩;refine⟨row,e,(row.size,row.size+1),rfl,by simp[eK],gj,(λe=>by cases e),λi af=>by simp;omega,λi af=> ?_⟩;refine⟨.int .u8 (.ofNat (dN n i)),.int .u8 (UInt8.ofNat (dN n i)).toNat,by simp only[bT.cell,dM.2 af,cond_true],?_,?_⟩
     ·have aN:(bytesOf l n)[i]? =some (UInt8.ofNat (dN n i)):=by rw[sy,if_pos af]
      simp only[row,Nat.zero_add];rw[Array.getElem?_append_left (by simp[nR];exact af)];simp[aN]
     ·have:=vI n i;rw[bL];congr 1;simp;omega
   ·cases ai
  ·cases ai
 ·cases ai
theorem VS(ok:dL P E σ)(aN:k' E μ)(an:∀i,bL σ μ (r.get i) (tmps.getD i undef)){o:Oper}{f:Nat->aa}{ob:bT}(ai:kA E r o.op=some (f,ob))(w:World) :
  RE P σ μ tmps o f ob w:=by
 obtain⟨dst,op,ty,pos,after,guard⟩:=o;simp only at ai;have O:=λ{x:Operand} {v:aa} (he:ek E r x=some v)=>uS (σ:=σ) aN an he
 cases op<;>simp only[kA]at ai<;>first|(cases ai;done) |skip
 case alloc t=>
  split at ai
  ·rename_i i aW;cases ai;obtain⟨z,aP,_,jk⟩:=yx (P:=P) ok aW;refine⟨_,.cells z.cells t,z.cells.size,{w with heap:=w.heap.push (.cells z.cells t)},by simp[execOp,Instr.alloc,aP,newVar,newRow],rfl,⟨rfl,rfl,rfl⟩,λbS id jH hid=>⟨⟨_,hid,rfl⟩,MD rfl rfl (jk bS)⟩⟩
  ·cases ai
 case box t x=>
  split at ai
  ·rename_i i v aW ag;cases ai;have rx:=O ag;refine⟨_,.cells (gF tmps x).cells t,(gF tmps x).cells.size,{w with heap:=w.heap.push (.cells (gF tmps x).cells t)},by simp[execOp,Instr.box,newVar,newRow],rfl,⟨rfl,rfl,rfl⟩,λbS id jH hid=>⟨⟨_,hid,rfl⟩,MD rfl rfl (EZ (bL.ext jH _ _ rx))⟩⟩
  ·cases ai
 case buildSlice t len parts=>
  split at ai
  ·rename_i i ps aW Cz;split at ai
   ·rename_i e aC;split at ai
    ·rename_i ie fY;replace ai:=dV ai;obtain⟨hle,ai⟩:=ai;split at ai
     ·rename_i cs aJ;cases ai;obtain⟨z,aP,_,jk⟩:=yx (P:=P) ok fY;have jg:ie.zero.length=ie.size:=(ok.ty _ _ fY).y2;have il:z.cells.size=ie.size:=by rw[<-jg,(jk μ).length,Array.length_toList]
      have rL:¬len*ie.size>2^24:=by have:=ec.1 hle;omega
      have agY:=Nl (σ:=σ) aN an Cz;let z0:Array Value:=if len*ie.size=0 then #[]else z.cells
      have rT:cy σ μ (j5 len ie.zero) ((Array.range (len*ie.size)).map (z0[· %z0.size]!)).toList:=by
       by_cases h0:len*ie.size=0
       ·have aG:j5 len ie.zero=[]:=by apply List.eq_nil_of_length_eq_zero;rw[wP,jg,h0]
        rw[aG,h0];simp[cy.j1]
       ·have c':ie.zero≠[]:=λe=>h0 (by rw[<-jg,e];simp)
        have:=PC (jk μ) len c';simp only[z0,if_neg h0];rw[il]at this|-;exact this
      obtain⟨xs,ag,rx⟩:=Fp ps ((parts.map λ(i,x)=>(i,gF tmps x)).toList) _ cs _ aJ (by rw[Array.toList_map];exact agY) rT
      have hlen:xs.size=len*ie.size:=by rw[<-Array.length_toList,<-rx.length];have:=Te _ _ _ trivial aJ;rw[this,wP,jg]
      refine⟨.slice (some ⟨w.heap.size,0,none⟩) len len,.cells xs e,xs.size,{w with heap:=w.heap.push (.cells xs e)},?_,rfl,⟨rfl,rfl,rfl⟩,λbS id jH hid=>⟨⟨_,_,_,hid,rfl,Nat.le_refl _,Nat.le_refl _,(λ_=>rfl),(λ_=>by simp),by simp[hlen]⟩,MD rfl rfl (cy.ext jH _ _ rx)⟩⟩;have lP:Instr.fill (λi=>some (i*ie.size,ie.size)) ((Array.range (len*ie.size)).map (z0[· %z0.size]!)) (Array.map (λ(x:Nat×Operand)=>(x.fst,gF tmps x.snd)) parts).toList=some xs:=ag;simp only[execOp,Instr.buildSlice,Sem.run_bind,ir ok aW,aC,Result.andThen_ok,nH ok fY,if_neg rL,Sem.run_pure];by_cases h0:len*ie.size=0
      ·simp only[z0,if_pos h0]at lP;rw[if_pos h0];simp only[Sem.run_bind,Sem.run_pure,Result.andThen_ok,lP,newRow,run_newObj]
      ·simp only[z0,if_neg h0]at lP;rw[if_neg h0];simp only[Sem.run_bind,Sem.run_pure,Result.andThen_ok,aP,lP,newRow,run_newObj]
     ·cases ai
    ·cases ai
   ·cases ai
  ·cases ai
 case makeMap t rv=>
  cases rv with
  |some x=>cases ai
  |none=>
   cases ai;exact⟨_,.map #[] 0,0,{w with heap:=w.heap.push (.map #[] 0)},by simp[execOp,Instr.makeMap],rfl,⟨rfl,rfl,rfl⟩,λbS id jH hid=>⟨⟨_,hid,rfl⟩, #[],rfl,rfl⟩⟩
 case makeSlice t l c=>
  split at ai
  ·rename_i a b bc aj;split at ai
   ·rename_i bQ h3 sz cg mT;cases ai;have qS:=O bc;have dO:=O aj;unfold wx at mT;split at mT
    ·rename_i i bk gM b_ bo aW;have kT:gF tmps l=_:=qS;have oM:gF tmps c=_:=dO;split at mT
     ·rename_i e aC;split at mT
      ·rename_i ie fY;replace mT:=dV mT;obtain⟨hle,mT⟩:=mT;obtain⟨inf,z,zO,af8,K9,T3,_,jk⟩:=HA (P:=P) ok fY;obtain⟨z2,aP,_,_⟩:=yx (P:=P) ok fY
       have dp:z2=z:=by have:=aP w;simp[zeroValue,zO,T3]at this;exact this.symm
       subst dp;have jg:ie.zero.length=ie.size:=(ok.ty _ _ fY).y2;have il:z2.cells.size=ie.size:=by rw[<-jg,(jk μ).length,Array.length_toList]
       have fS:=ec.1 (fR (fR hle).1).1;have ft:=ec.1 (fR (fR hle).1).2;have gV:=ec.1 (fR hle).2;have asY:bo<=140737488355328:=Nat.le_trans (Nat.le_mul_of_pos_left bo gV) ft;have wl:IntKind.i64.wrap (gM:Int)=gM:=wrap_small .i64 gM (by simp only[lS];omega);have yZ:IntKind.i64.wrap (bo:Int)=bo:=wrap_small .i64 bo (by simp only[lS];omega);let z0:Array Value:=if bo*ie.size=0 then #[]else z2.cells
       let xs:Array Value:=(Array.range (bo*ie.size)).map (z0[· %z0.size]!)
       have rT:∀bS,cy σ bS (j5 bo ie.zero) xs.toList:=by
        intro bS;by_cases h0:bo*ie.size=0
        ·have aG:j5 bo ie.zero=[]:=by apply List.eq_nil_of_length_eq_zero;rw[wP,jg,h0]
         simp only[xs];rw[aG,h0];simp[cy.j1]
        ·have c':ie.zero≠[]:=λe=>h0 (by rw[<-jg,e];simp)
         have:=PC (jk bS) bo c';simp only[xs,z0,if_neg h0];rw[il]at this|-;exact this
       have gm:xs.size=bo*ie.size:=by simp[xs]
       have agl:¬((bo:Int) <0):=by omega
       have aff:¬(((ie.bytes:Int) *(bo:Int)) >2^48):=by have:=Int.ofNat_le.2 ft;rw[Int.natCast_mul]at this;omega
       have v':¬((gM:Int) <0):=by omega
       have mg:¬((gM:Int) >(bo:Int)):=by omega
       have main:∀(mq:bT),(gM,bo,ie.size,mq)=(bQ,h3,sz,ob)->(∀bS,hq σ bS mq ⟨w.heap.size,0,xs.size⟩ (some (.cells xs e)))->
         RE P σ μ tmps {dst,op:=.makeSlice t l c,type:=ty,pos,after,guard} (λid=>.slice id 0 bQ h3 sz true) ob w:=by
        intro mq he Lo
        obtain⟨aG,aT,bJ,e0⟩ :gM=bQ/\bo=h3/\ie.size=sz/\mq=ob:=by injection he with a b;injection b with b c;injection c with c d;exact⟨a,b,c,d⟩
        rw[<-aG,<-aT,<-bJ,<-e0];refine⟨.slice (some ⟨w.heap.size,0,none⟩) gM bo,.cells xs e,xs.size,{w with heap:=w.heap.push (.cells xs e)},?_,rfl,⟨rfl,rfl,rfl⟩,λbS id jH hid=>⟨⟨_,_,_,hid,rfl,fS,Nat.le_refl _,(λ_=>rfl),(λ_=>by simp),by simp[gm]⟩,Lo bS⟩⟩
        have afd:(decide ((bo:Int) <0) ||decide ((ie.bytes:Int) *(bo:Int) >2^48) ||decide ((gM:Int) <0) ||decide ((gM:Int) >(bo:Int)))=false:=by simp only[agl,aff,v',mg,decide_false,Bool.or_false]
        simp only[execOp,Instr.makeSlice,kT,oM,asInt,asIntOf,Sem.run_bind,ir ok aW,aC,Sem.run_pure,Result.andThen_ok,zO,K9,Int.ofNat_eq_natCast,wl,yZ,afd,
         Bool.false_eq_true,if_false,run_askRoom,nH ok fY,Int.toNat_natCast]
        by_cases h0:bo*ie.size=0
        ·rw[if_pos h0];simp only[Sem.run_bind,Sem.run_pure,Result.andThen_ok,newRow,run_newObj,xs,z0,if_pos h0]
        ·rw[if_neg h0];simp only[Sem.run_bind,Sem.run_pure,Result.andThen_ok,newRow,run_newObj,xs,z0,if_neg h0,aP]
       split at mT
       ·rename_i cz pJ;refine main _ (Option.some.inj mT) λbS=> ?_
        have cS:=rT bS;have iW:ie.size=1:=by rw[<-jg,pJ];rfl
        have Co:(j5 bo ie.zero).length=bo:=by rw[wP,jg,iW,Nat.mul_one]
        have:=E0 (σ:=σ) (μ:=bS) (cs:=j5 bo ie.zero) (xs:=xs) (jT:=e) (loc:=⟨w.heap.size,0,xs.size⟩) rfl rfl cS (cell:=(bT.bytes bo false 0).cell) λi af=>by
         rw[Co]at af;simp only[bT.cell,dM.2 af,cond_true];rw[Hu _ _ _ (by rw[pJ];simp),if_pos (by rw[jg,iW];omega),pJ];have fU:dN 0 i=0:=by simp[jE]
         rw[fU,List.length_singleton,Nat.mod_one];rfl
        rw[Co]at this;exact this
       ·refine main _ (Option.some.inj mT) λbS=> ?_
        have cS:=rT bS;have Co:(j5 bo ie.zero).length=bo*ie.size:=by rw[wP,jg]
        have:=E0 (σ:=σ) (μ:=bS) (cs:=j5 bo ie.zero) (xs:=xs) (jT:=e) (loc:=⟨w.heap.size,0,xs.size⟩) rfl rfl cS (cell:=(bT.cells (bo*ie.size) false ie.zero .nil).cell) λi af=>by
         rw[Co]at af;have c':ie.zero≠[]:=λe=>by rw[<-jg,e]at af;simp at af
         simp only[bT.cell,dM.2 af,cond_true,bu.get_nil];rw[Hu _ _ _ c',if_pos (by rw[jg];exact af)]
        rw[Co]at this;exact this
      ·cases mT
     ·cases mT
    ·cases mT
   ·cases ai
  ·cases ai
 case convert s d x=>
  split at ai
  ·rename_i i0 a h0 bc;split at ai
   ·rename_i l cg aH;cases ai;obtain⟨cG,obj,room,aZ,h1,ab,al,aE⟩:=acM (P:=P) (w:=w) ok aH (O bc) s ⟨_,(ok.ty _ _ h0).eI⟩;exact⟨cG,obj,room,aZ,by simp[execOp,h1],ab,al,aE⟩
   ·cases ai
  ·cases ai
end
section
variable{P:Program}{E:Env}{σ:Nat->Int}{μ:Map}{h:ae}{w:World}{r:bE}{tmps:Array Value}
def ng:Nat->Nat->List aa
 |0,_=>[]
 |l+1,m=>.int .u8 (.ofNat (m%256))::ng l (m/256)
theorem ER:∀(l m:Nat),cy σ μ (ng l m) (mJ l m)
 |0,_=>rfl
 |l+1,m=>by refine⟨.int .u8 (UInt8.ofNat (m%256)).toNat,mJ l (m/256),rfl,?_,ER l (m/256)⟩;have:m%256<256:=Nat.mod_lt _ (by decide);rw[bL];congr 1;simp
theorem Se(size:Nat)(s:Bool) :∀(l m n off:Nat),off+l<=size->
  ∃ho,(bT.bytes size s n).writes off (ng l m)=some (.bytes size s ho)/\∀i,dN ho i=if off<=i/\i<off+l then dN m (i-off)else dN n i
 |0,m,n,off,_=>⟨n,rfl,λi=>by rw[if_neg (by omega)]⟩
 |l+1,m,n,off,hle=>by
  have aj:m%256<256:=Nat.mod_lt _ (by decide);obtain⟨ho,e,aw⟩:=Se size s l (m/256) (n-(dN n off) <<< (8*off) +(m%256) <<< (8*off)) (off+1) (by omega);refine⟨ho,?_,λi=> ?_⟩
  ·have aH:(Nat.blt off size&&Nat.blt (m%256) 256)=true:=by rw[dM.2 (by omega),dM.2 aj];rfl
   simp only[ng,bT.writes,bT.write,aH,cond_true];exact e
  ·rw[aw];have s5:=Jp n off 1 (m%256) i (by simpa using aj);have aG:(n>>> (8*off)) %2^(8*1)=dN n off:=rfl;rw[aG]at s5;rw[s5];have nU:(2:Nat) ^(8*1)=256:=by decide
   by_cases h1:off+1<=i/\i<off+1+l
   ·rw[if_pos h1,if_pos (by omega)];obtain⟨j,rfl⟩ :∃j,i=off+1+j:=⟨i-off-1,by omega⟩;rw[show off+1+j-(off+1)=j by omega,show off+1+j-off=j+1 by omega,jE,jE,Nat.mul_add,Nat.add_comm (8*j),Nat.pow_add,<-Nat.div_div_eq_div_mul,nU]
   ·rw[if_neg h1];by_cases ab:off<=i/\i<off+1
    ·obtain rfl:i=off:=by omega
     rw[if_pos ab,if_pos (by omega),Nat.sub_self,jE,jE];simp
    ·rw[if_neg ab,if_neg (by omega)]
theorem ab9{size:Nat}{st:Bool}{n ho:Nat}{loc:Loc}{x:Option Obj}(an:hq σ μ (.bytes size st n) loc x)(he:∀i,i<size->dN n i=dN ho i) :hq σ μ (.bytes size st ho) loc x:=by obtain⟨c,jT,fr,h1,ab,al,aE,aL,bm⟩:=an;refine⟨c,jT,fr,h1,ab,al,aE,aL,λi af=> ?_⟩;obtain⟨v,y,a,b,d⟩:=bm i af;refine⟨v,y,?_,b,d⟩;rw[<-a];simp only[bT.cell,he i af]
theorem y1(rel:dU σ μ h w.heap){id off len m:Nat}{loc:Loc}{bC:ae}(hm:μ id=some loc)(hw:qd h id off len m=some bC)(b6:m<2^(8*len)) :
  ∃aZ,(storeCells ⟨loc.b,loc.o+off,none⟩ (mJ len m)).run P w=.ok () aZ/\dC w aZ/\ej σ μ h w.heap μ bC aZ.heap:=by
 unfold qd at hw;split at hw
 ·rename_i size st n aN;replace hw:=dV hw;obtain⟨hle,hw⟩:=hw;cases hw;have rL:=ec.1 hle;have db:h.get id≠.dead:=by rw[aN];simp
  have bg:=ae.nk db;obtain⟨ho,e,aw⟩:=Se size st len m n off rL;have xP:=rel.obj id loc _ hm bg;rw[aN]at xP bg;obtain⟨aZ,a,b,c,d,f⟩:=Pu (P:=P) (ng len m) (mJ len m) (.bytes size st n) (.bytes size st ho) off 0 w xP e (ER len m);refine⟨aZ,a,b,rel.put hm bg rfl c d (ab9 f λi af=> ?_)⟩;rw[aw,Jp _ _ _ _ _ b6]
 ·cases hw
theorem HI(rel:dU σ μ h w.heap){id:Nat}{loc:Loc}{es es2:List (aa×aa×Nat)}{clock clock2:Nat}{cV:Array MapEntry}(hm:μ id=some loc)(aN:h.get id=.map es clock)
  (an:hz σ μ es2 cV.toList) :
  (setObj loc.b (.map cV clock2)).run P w=.ok () {w with heap:=w.heap.setIfInBounds loc.b (.map cV clock2)}/\
    ej σ μ h w.heap μ (h.put id (.map es2 clock2)) (w.heap.setIfInBounds loc.b (.map cV clock2)):=by
 have db:h.get id≠.dead:=by rw[aN];simp
 have bg:=ae.nk db;rw[aN]at bg;obtain⟨asK,e,_⟩:=rel.obj id loc _ hm bg;refine⟨by simp[setObj,Sem.run,e],rel.put hm bg rfl (by simp) (λb aj=>by rw[Array.getElem?_setIfInBounds_ne (Ne.symm aj)]) ⟨cV,?_,an⟩⟩;rw[Array.getElem?_setIfInBounds_self,if_pos (rel.lt id loc hm)]
theorem hz.snoc:∀{cY:List (aa×aa×Nat)} {es:List MapEntry} {k v:aa} {b:Nat} {e:MapEntry},hz σ μ cY es->bL σ μ k e.key->bL σ μ v e.val->e.born=b->hz σ μ (cY++[(k,v,b)]) (es++[e])
 |[],_,k,v,b,e,an,h1,ab,al=>by have:_=_:=an;subst this;exact⟨e,[],rfl,h1,ab,al,rfl⟩
 |(et,eT,dK)::cY,_,k,v,b,e,⟨de,cV,rfl,p,q,s,t⟩,h1,ab,al=>⟨de,_,rfl,p,q,s,hz.snoc t h1 ab al⟩
theorem hz.set:∀{cY:List (aa×aa×Nat)} {es:List MapEntry} (i:Nat) {v:aa} {x:Value},hz σ μ cY es->bL σ μ v x->hz σ μ (GR cY i v) (es.modify i λe=>{e with val:=x})
 |[],_,i,v,x,an,ai=>by have:_=_:=an;subst this;cases i<;>rfl
 |(et,eT,dK)::cY,_,0,v,x,⟨de,cV,rfl,p,q,s,t⟩,ai=>⟨{de with val:=x},cV,rfl,p,ai,s,t⟩
 |(et,eT,dK)::cY,_,i+1,v,x,⟨de,cV,rfl,p,q,s,t⟩,ai=>⟨de,_,rfl,p,q,s,hz.set i t ai⟩
theorem hz.erase:∀{cY:List (aa×aa×Nat)} {es:List MapEntry} (i:Nat),hz σ μ cY es->hz σ μ (cY.eraseIdx i) (es.eraseIdx i)
 |[],_,i,an=>by have:_=_:=an;subst this;cases i<;>rfl
 |(et,eT,dK)::cY,_,0,⟨de,cV,rfl,p,q,s,t⟩=>t
 |(et,eT,dK)::cY,_,i+1,⟨de,cV,rfl,p,q,s,t⟩=>⟨de,_,rfl,p,q,s,hz.erase i t⟩
def Fq:Value->Bool
 | .int _ _| .bool _| .string _=>true
 |_=>false
theorem Xz{v:Value}(ai:Fq v=true)(n:Nat) :Instr.sameBits n v v=true:=by
 cases v<;>first|cases ai|skip
 ·cases n<;>simp[Instr.sameBits]
 ·cases n<;>simp[Instr.sameBits]
 ·cases n<;>simp[Instr.sameBits,beq_toListBytes]
theorem XB{d:TypeDesc}{u eD:Value}{b:Bool}(aA:Instr.sameNow d u eD=some b) :Fq u=true:=by unfold Instr.sameNow at aA;split at aA<;>first|rfl|cases aA
theorem XA(n:Nat) :∀(l:List Value),(∀v,v∈l->Fq v=true)->(l.zip l).all (λp=>Instr.sameBits n p.1 p.2)=true
 |[],_=>rfl
 |v::l,ay=>by simp only[List.zip_cons_cons,List.all_cons,Xz (ay v List.mem_cons_self),Bool.true_and];exact XA n l λu hu=>ay u (List.mem_cons_of_mem _ hu)
theorem S5(ok:dL P E σ){d:Nat}{xs:List aa}{us:Array Value}(rx:cy σ μ xs us.toList) :
  ∀(fs:List Field),(∀f,f∈fs->∃gJ,E.ty f.type=some gJ/\qG gJ.desc=true/\gJ.size=1)->eqFields E (gE E h (d+1)) fs xs xs=some true->
   ∀f,f∈fs->∃x,us[f.offset]? =some x/\Fq x=true
 |[],_,_,f,aJ=>by cases aJ
 |f::fs,av,he,g,aN=>by
  simp only[eqFields]at he;obtain⟨gJ,rH,Cm,eR⟩:=av f List.mem_cons_self;have pr:qF gJ.desc=false:=by rcases Gv Cm with⟨k,e⟩ |e|e<;>rw[e]<;>rfl
  cases h1:o4 E f.type xs f.offset with
  |none=>rw[h1]at he;cases he
  |some a=>
   rw[h1]at he;simp only at he;cases al:gE E h (d+1) f.type a a with
   |none=>rw[al]at he;cases he
   |some q=>
    rw[al]at he;cases q with
    |false=>cases he
    |true=>
     simp only at he;rcases List.mem_cons.1 aN with rfl|aN
     ·unfold o4 at h1;rw[rH]at h1;simp only[pr]at h1;obtain⟨x,ag,cS⟩:=rx.get _ _ h1;exact⟨x,by simpa using ag,XB (C0 ok rH Cm al cS cS).1⟩
     ·exact S5 ok rx fs (λf aJ=>av f (List.mem_cons_of_mem _ aJ)) he g aN
theorem aip(ok:dL P E σ){eG:TypeId}{k:aa}{u:Value}(av:og E h eG k=true)(hu:bL σ μ k u)(n:Nat) :Instr.sameBits (n+1) u u=true:=by
 unfold og at av;obtain⟨dv,al⟩:=fR av;obtain⟨h1,ab⟩:=fR dv;cases aW:E.ty eG with
 |none=>simp only[wq,aW]at h1;cases h1
 |some i=>
  split at ab
  ·rename_i b aj;subst ab;rcases GG h1 aW with aJ|⟨fs,aC,⟨bg,aA⟩,hD⟩
   ·exact Xz (XB (C0 ok aW aJ aj hu hu).1) _
   ·obtain⟨xs,en,rfl,aT,_,he⟩:=J9 aW aC aj;cases aT;obtain⟨us,rfl,jj⟩:=hu;have aw:=S5 ok jj fs.toList hD he;rw[aW]at al;have gM:xs.length=fs.toList.length:=by rw[beq_true.1 al,aA]
    have aG:=jj.length;simp only[Instr.sameBits,beq_self_eq_true,Bool.true_and];refine XA n us.toList λv ai=> ?_
    obtain⟨j,aO,kr⟩:=List.getElem_of_mem ai;obtain⟨f,aJ,qo⟩:=M0 fs.toList 0 bg j (by omega);obtain⟨x,ag,lu⟩:=aw f aJ;rw[qo,Nat.zero_add]at ag;have:us.toList[j]? =some v:=by rw[List.getElem?_eq_getElem aO,kr]
    have hl:us.toList[j]? =some x:=by simpa using ag
    rw[this]at hl;cases hl;exact lu
  ·cases ab
theorem apk(ok:dL P E σ){eG:TypeId}{k:aa}{u:Value}(av:og E h eG k=true)(hu:bL σ μ k u) :(Instr.keyThatStays u u).run P w=.ok u w:=by have:=aip ok av hu 9999;simp[Instr.keyThatStays,this]
theorem alu{es:Array MapEntry}{i:Nat}{e:MapEntry}{u x:Value}(he:es.toList[i]? =some e)(av:e.key=u) :
  (es.modify i λe=>{e with key:=u,val:=x}).toList=es.toList.modify i λe=>{e with val:=x}:=by
 rw[Array.toList_modify];apply List.ext_getElem?;intro j;rw[List.getElem?_modify,List.getElem?_modify];by_cases aO:i=j
 ·subst aO;rw[he];simp[av]
 ·simp[aO]
theorem VJ(ok:dL P E σ)(rel:dU σ μ h w.heap){t:TypeId}{x k v:aa}{u z y:Value}{bC:ae}(ai:td E h t x k v=some bC)(hu:bL σ μ x u)(aP:bL σ μ k z)(aq:bL σ μ v y) :
  ∃aZ,(Instr.mapUpdate t u z y).run P w=.ok () aZ/\dC w aZ/\ej σ μ h w.heap μ bC aZ.heap:=by
 unfold td at ai;split at ai
 ·rename_i i id aW;obtain⟨loc,hm,bw⟩:=hu;subst bw;split at ai
  ·rename_i eG e es clock aC aN;replace ai:=dV ai;obtain⟨av,ai⟩:=ai;obtain⟨cV,aG,aT,bJ⟩:=B4 (P:=P) rel hm aN;split at ai
   ·rename_i j eT dK kg;cases ai;obtain⟨q,aF,asc,ent,Ls,iO,hle,lr,xL,lO,aj⟩:=xo (P:=P) ok rel av aP kg aT;subst Ls;rw[Nat.sub_zero]at lr;have afH:cV[j]? =some ent:=by simpa using lr
    obtain⟨s1,s2⟩:=HI (P:=P) rel hm aN (es2:=GR es j v) (clock2:=clock) (cV:=cV.modify j λe=>{e with key:=z,val:=y}) (by rw[alu lr xL];exact hz.set j aT aq);refine⟨{w with heap:=w.heap.setIfInBounds loc.b (.map _ _)},?_,⟨rfl,rfl,rfl⟩,s2⟩;simp[Instr.mapUpdate,ir ok aW,aC,bJ,xh ok false av aP,aF,afH,xL,apk ok av aP,s1]
   ·rename_i kg;cases ai;obtain⟨q,aF,mc⟩:=xo (P:=P) ok rel av aP kg aT;have:q=none:=mc;subst this;obtain⟨s1,s2⟩:=HI (P:=P) rel hm aN (es2:=es++[(k,v,clock)]) (clock2:=clock+1) (cV:=cV.push {key:=z,val:=y,born:=clock}) (by rw[Array.toList_push];exact hz.snoc aT aP aq rfl);refine⟨{w with heap:=w.heap.setIfInBounds loc.b (.map _ _)},?_,⟨rfl,rfl,rfl⟩,s2⟩;simp[Instr.mapUpdate,ir ok aW,aC,bJ,xh ok false av aP,aF,s1]
   ·cases ai
  ·cases ai
 ·cases ai
theorem ac'(ok:dL P E σ)(rel:dU σ μ h w.heap){t:TypeId}{x k:aa}{u z:Value}{bC:ae}(ts:Array TypeId)(oY:ts[0]? =some t)(rt:TypeId)(ai:vN E h t x k=some bC)(hu:bL σ μ x u)(aP:bL σ μ k z) :
  ∃aZ,(Builtin.delete_ ts rt #[u,z]).run P w=.ok (.tuple #[]) aZ/\dC w aZ/\ej σ μ h w.heap μ bC aZ.heap:=by
 unfold vN at ai;split at ai
 ·rename_i i id aW;obtain⟨loc,hm,bw⟩:=hu;subst bw;split at ai
  ·rename_i eG e es clock aC aN;replace ai:=dV ai;obtain⟨av,ai⟩:=ai;obtain⟨cV,aG,aT,bJ⟩:=B4 (P:=P) rel hm aN;split at ai
   ·rename_i j eT dK kg;cases ai;obtain⟨q,aF,asc,ent,Ls,iO,hle,lr,xL,lO,aj⟩:=xo (P:=P) ok rel av aP kg aT;subst Ls;obtain⟨s1,s2⟩:=HI (P:=P) rel hm aN (es2:=es.eraseIdx j) (clock2:=clock) (cV:=cV.eraseIdxIfInBounds j) (by rw[Array.toList_eraseIdxIfInBounds];exact hz.erase j aT);refine⟨{w with heap:=w.heap.setIfInBounds loc.b (.map _ _)},?_,⟨rfl,rfl,rfl⟩,s2⟩;simp[Builtin.delete_,oY,ir ok aW,aC,bJ,xh ok cV.isEmpty av aP,aF,s1]
   ·rename_i kg;cases ai;obtain⟨q,aF,mc⟩:=xo (P:=P) ok rel av aP kg aT;have:q=none:=mc;subst this
    have pE:w.heap.setIfInBounds loc.b (.map cV clock)=w.heap:=by
     apply Array.ext_getElem?;intro b;by_cases aj:loc.b=b
     ·subst aj;rw[Array.getElem?_setIfInBounds_self,if_pos (rel.lt id loc hm),aG]
     ·rw[Array.getElem?_setIfInBounds_ne aj]
    refine⟨w,?_,dC.refl _,ej.refl rel⟩;simp[Builtin.delete_,oY,ir ok aW,aC,bJ,xh ok cV.isEmpty av aP,aF,setObj,Sem.run,aG,pE]
   ·cases ai
  ·cases ai
 ·cases ai
end
section
variable{P:Program}{E:Env}{σ:Nat->Int}{μ:Map}{h:ae}{w:World}{r:bE}{tmps:Array Value}
theorem dU.anV(rel:dU σ μ h w.heap){id off:Nat}{loc:Loc}{cg:bT}{kJ:Array Obj}(hm:μ id=some loc)(ay:(h.get id).live=true)(aA:kJ.size=w.heap.size)
  (aJ:∀b,b≠loc.b->kJ[b]? =w.heap[b]?) (an:hq σ (μ.az h.next ⟨loc.b,loc.o+off,loc.room-off⟩) cg ⟨loc.b,loc.o+off,loc.room-off⟩ kJ[loc.b]?) :
  ej σ μ h w.heap (μ.az h.next ⟨loc.b,loc.o+off,loc.room-off⟩) ((h.put id .dead).new cg) kJ:=by
 have db:h.get id≠.dead:=λe=>by rw[e]at ay;cases ay
 have bg:=ae.nk db;have aw:=rel.hW h.next (Nat.le_refl _);have c':id≠h.next:=λe=>by rw[e,aw]at hm;cases hm
 have as8:id<h.next:=by apply Classical.byContradiction;intro rI;have:=rel.hW id (by omega);rw[this]at hm;cases hm
 have dS:∀j,((h.put id .dead).new cg).dS.get j=if j=h.next then some cg else if j=id then some .dead else h.dS.get j:=λj=>by rw[oy,nJ];rfl
 have live:h.wr id:=λx ag=>by rw[bg]at ag;cases ag;exact ay
 exact
  {ext:=Map.q7 _ _ aw
   next:=by simp[ae.new,ae.put]
   nC:=λj aO ag=>by rw[Map.kn _ _ (by omega)];exact ag
   kept:=λj aO ag=>by
    have:j≠id:=λe=>by
     rcases ag with ag|ag
     ·rw[e,hm]at ag;cases ag
     ·rw[e,bg]at ag;cases ag
    rw[dS,if_neg (by omega),if_neg this]
   size:=Nat.le_of_eq aA.symm
   own:=λb aj ⟨j,l,q,aO,aF,aC,n_⟩=>by
    by_cases e:j=h.next
    ·rw[e,Map.iS]at aO;cases aO;exact⟨id,loc,_,hm,bg,ay,n_⟩
    ·rw[Map.kn _ _ e]at aO;rw[dS,if_neg e]at aF;by_cases aT:j=id
     ·rw[if_pos aT]at aF;cases aF;cases aC
     ·rw[if_neg aT]at aF;exact⟨j,l,q,aO,aF,aC,n_⟩
   frame:=λb aj wc=>aJ b λe=>wc ⟨id,loc,_,hm,bg,ay,e.symm⟩
   rel:=
    {obj:=λj l q aO aF=>by
      rw[dS]at aF;by_cases e:j=h.next
      ·rw[if_pos e]at aF;cases aF;rw[e,Map.iS]at aO;cases aO;exact an
      ·rw[if_neg e]at aF;rw[Map.kn _ _ e]at aO;by_cases aT:j=id
       ·rw[if_pos aT]at aF;cases aF;trivial
       ·rw[if_neg aT]at aF;by_cases aC:q=.dead
        ·rw[aC];trivial
        ·have aj:l.b≠loc.b:=λaj=>aT (rel.inj id j loc l hm aO aj.symm live (by rw[aF];simpa using aC)).symm
         rw[aJ _ aj];exact(rel.obj j l q aO aF).ext (Map.q7 _ _ aw)
     inj:=λi j l bQ af aO aj CP jv=>by
      rw[dS]at jv;by_cases oN:i=h.next
      ·by_cases kr:j=h.next
       ·rw[oN,kr]
       ·rw[oN,Map.iS]at af;cases af;rw[Map.kn _ _ kr]at aO;rw[if_neg kr]at jv;by_cases aT:j=id
        ·rw[if_pos aT]at jv;exact absurd rfl jv
        ·rw[if_neg aT]at jv;exact absurd (rel.inj id j loc bQ hm aO aj live jv).symm aT
      ·rw[Map.kn _ _ oN]at af;have Gm:i≠id->h.wr i:=λaT x ag=>CP x (by rw[dS,if_neg oN,if_neg aT];exact ag)
       have hid:i≠id:=λaT=>by have:=CP .dead (by rw[dS,if_neg oN,if_pos aT]);cases this
       by_cases kr:j=h.next
       ·rw[kr,Map.iS]at aO;cases aO;have:=rel.inj i id l loc af hm aj (Gm hid) (by rw[bg];simpa using db);exact absurd this hid
       ·rw[Map.kn _ _ kr]at aO;rw[if_neg kr]at jv;by_cases aT:j=id
        ·rw[if_pos aT]at jv;exact absurd rfl jv
        ·rw[if_neg aT]at jv;exact rel.inj i j l bQ af aO aj (Gm hid) jv
     lt:=λj l aO=>by
      rw[aA];by_cases e:j=h.next
      ·rw[e,Map.iS]at aO;cases aO;exact rel.lt id loc hm
      ·rw[Map.kn _ _ e]at aO;exact rel.lt j l aO
     hW:=λj aO=>by simp only[ae.new,ae.put]at aO;rw[Map.kn _ _ (by omega)];exact rel.hW j (by omega)
     k8:=λj aO=>by
      simp only[ae.new,ae.put]at aO;rw[dS,if_neg (by omega),if_neg (by omega)]
      exact rel.k8 j (by omega)}}
theorem dU.kill(rel:dU σ μ h w.heap){id:Nat}{loc:Loc}(hm:μ id=some loc)(ay:(h.get id).live=true) :ej σ μ h w.heap μ (h.put id .dead) w.heap:=by
 have db:h.get id≠.dead:=λe=>by rw[e]at ay;cases ay
 exact rel.put hm (ae.nk db) ay rfl (λ_ _=>rfl) trivial
theorem Xo{o:bT}{x:Nat×Bool}(an:o.row=some x) :o.live=true:=by cases o<;>first|rfl|cases an
theorem TB(qO:Nat) :∀(rounds c:Nat),c<=2*qO+200->Builtin.growBy qO rounds c<=2*qO+200
 |0,c,aH=>aH
 |rounds+1,c,aH=>by
  simp only[Builtin.growBy];by_cases h1:c≥qO
  ·rw[if_pos h1];exact aH
  ·rw[if_neg h1];exact TB qO rounds _ (by omega)
theorem alM(qO cap:Nat)(aH:cap<=qO) :Builtin.nextslicecap qO cap<=2*qO+200:=by
 unfold Builtin.nextslicecap;split
 ·omega
 ·split
  ·omega
  ·exact TB qO 4 cap (by omega)
structure App(P:Program)(w:World)(argTypes:Array TypeId)(elem:TypeId)(size bytes:Nat)(x:Value)(n:Nat)(new:List Value) :Prop where
 st:∃t u d,argTypes[0]? =some t/\argTypes[1]? =some u/\(∀w,(underlying t).run P w=.ok (.slice elem) w)/\(∀w,(underlying u).run P w=.ok d w)/\(match d with| .slice _| .string=>true|_=>false)=true
 qC:∀w,(sizeOf elem).run P w=.ok size w
 af6:∃inf z,(∀w,(typeInfo elem).run P w=.ok inf w)/\inf.bytes=bytes/\(∀w,(zeroValue elem).run P w=.ok z w)
 hlen:∀w,(Builtin.lenOf x).run P w=.ok n w
 oR:∀aZ,aZ.heap=w.heap->(Builtin.firstCells size n x).run P aZ=.ok new.toArray aZ
theorem za{argTypes:Array TypeId}{elem:TypeId}{size bytes:Nat}{x:Value}{n:Nat}{new:List Value}(a:App P w argTypes elem size bytes x n new)(rt:TypeId){ad:Addr}{len cap:Nat}
  (aH:len+n<=cap) {aZ:World} (aA:(storeCells (ad.add (len*size)) new).run P w=.ok () aZ) :
  (Builtin.append_ argTypes rt #[.slice (some ad) len cap,x]).run P w=.ok (.slice (some ad) (len+n) cap) aZ:=by
 obtain⟨t,u,d,h1,ab,al,aE,aL⟩:=a.st;have oR:=a.oR w rfl;cases d<;>first|cases aL|skip
 all_goals simp[Builtin.append_,h1,ab,al,aE,a.qC,a.hlen,aH,oR,aA]
theorem RM{argTypes:Array TypeId}{elem:TypeId}{size bytes:Nat}{x:Value}{new:List Value}(a:App P w argTypes elem size bytes x 0 new)(rt:TypeId)(aw:new=[])(u:Value)(hu:u=.slice none 0 0\/∃ad len cap,u=.slice (some ad) len cap/\len<=cap) :
  (Builtin.append_ argTypes rt #[u,x]).run P w=.ok u w:=by
 obtain⟨t,eD,d,h1,ab,al,aE,aL⟩:=a.st;have oR:=a.oR w rfl;subst aw;rcases hu with rfl|⟨ad,len,cap,rfl,hle⟩
 ·cases d<;>first|cases aL|skip
  all_goals simp[Builtin.append_,h1,ab,al,aE,a.qC,a.hlen,oR]
 ·cases d<;>first|cases aL|skip
  all_goals simp[Builtin.append_,h1,ab,al,aE,a.qC,a.hlen,oR,hle,storeCells]
theorem Ja{argTypes:Array TypeId}{elem:TypeId}{size bytes:Nat}{x:Value}{n:Nat}{new:List Value}(a:App P w argTypes elem size bytes x n new)(rt:TypeId){base:Option Addr}{len cap:Nat}{old:List Value}
  (aH:¬len+n<=cap) (hle:len<=cap) (iG:roomy (len+n) bytes=true) (hold:∀aZ,aZ.heap=w.heap->(Builtin.firstCells size len (.slice base len cap)).run P aZ=.ok old.toArray aZ) :
  ∃c rest aZ,(Builtin.append_ argTypes rt #[.slice base len cap,x]).run P w=.ok (.slice (some ⟨w.heap.size,0,none⟩) (len+n) c) aZ/\aZ.heap=w.heap.push (.cells (old++new++rest).toArray elem)/\dC w aZ/\
   len+n<=c/\∀z,(zeroValue elem).run P w=.ok z w->rest.length=(c-(len+n)) *z.cells.size:=by
 obtain⟨t,u,d,h1,ab,al,aE,aL⟩:=a.st;obtain⟨inf,z,zO,aj,aP⟩:=a.af6;have an:=fR iG;have cS:=ec.1 an.1;have dm:=ec.1 an.2;have mQ:=alM (len+n) cap (by omega)
 have hbound:¬(Builtin.nextslicecap (len+n) cap*inf.bytes>2^48):=by rw[aj];have:=Nat.mul_le_mul_right bytes mQ;omega
 have atq:len+n<=140737488355328:=by have:(2*(len+n) +200) *1<=(2*(len+n) +200) *bytes:=Nat.mul_le_mul_left _ dm;omega
 have T_:¬((((len+n:Nat) :Int) >IntKind.i64.max)/\(False\/inf.bytes=0)):=by
  rintro⟨_,ag|ag⟩
  ·exact ag
  ·omega
 generalize aF:(Question.appendCap (len+n) cap elem).cut (w.tape w.drawn (.appendCap (len+n) cap elem))=c;have rB:len+n<=c:=by rw[<-aF];simp only[Question.cut];omega
 let ck:World:={w with drawn:=w.drawn+1};have oR:=a.oR ck rfl;have agQ:=hold ck rfl;refine⟨c,(Builtin.zeroCells z.cells (c-(len+n))).toList,{ck with heap:=w.heap.push (.cells (old++new++(Builtin.zeroCells z.cells (c-(len+n))).toList).toArray elem)},?_,rfl,⟨rfl,rfl,rfl⟩,rB,?_⟩
 ·have as0:(choose (.appendCap (len+n) cap elem)).run P w=.ok c ck:=by
   simp[run_choose,Question.forced,aF,ck]
  have hzero:(∀w,(zeroValue elem).run P w=.ok z w):=aP;have rM:¬(IntKind.i64.max<(len:Int) +(n:Int)/\inf.bytes=0):=λh=>by have:=h.2;omega
  have pt:¬(2^48<Builtin.nextslicecap (len+n) cap*inf.bytes):=hbound;cases d<;>first|cases aL|skip
  all_goals have F1:¬((9223372036854775807:Int) <(len:Int) +(n:Int)/\inf.bytes=0):=λh=>by have:=h.2;omega
  all_goals have afQ:(Question.appendCap (len+n) cap elem).forced=false:=rfl
  all_goals have afp:(Builtin.firstCells size n x).run P w.drew=.ok new.toArray w.drew:=oR
  all_goals have agR:(Builtin.firstCells size len (.slice base len cap)).run P w.drew=.ok old.toArray w.drew:=agQ
  all_goals simp[Builtin.append_,h1,ab,al,aE,a.qC,a.hlen,aH,zO,F1,pt,afQ,aF,afp,agR,aP,newRow]
  all_goals rw[show old.toArray++(new.toArray++Builtin.zeroCells z.cells (c-(len+n)))=(old++(new++(Builtin.zeroCells z.cells (c-(len+n))).toList)).toArray by apply Array.toList_inj.1;simp]
  all_goals rfl
 ·intro aaO nx;rw[aP]at nx;cases nx;simp[Builtin.zeroCells]
theorem Vf{x:aa}{u:Value}{n:Nat}(ay:lx x=some n)(hu:bL σ μ x u)(w:World) :(Builtin.lenOf u).run P w=.ok n w:=by
 cases x<;>simp only[lx]at ay<;>first|(cases ay;done) |skip
 ·rename_i l m;cases ay;obtain⟨_,e⟩:=hu;subst e;have eR:(⟨(bytesOf n m).toArray⟩ :ByteArray).size=n:=by show(bytesOf n m).toArray.size=n;simp[nR]
  simp only[Builtin.lenOf,Sem.run_pure,eR]
 ·cases ay;have e:u=_:=hu;subst e;simp[Builtin.lenOf]
 ·cases ay;obtain⟨loc,a,c,_,e,_⟩:=hu;subst e;simp[Builtin.lenOf]
theorem Ti(rel:dU σ μ h w.heap){x:aa}{u:Value}{n m:Nat}{l:Nat}(ay:lx x=some l)(aw:n<=l)(aj:BE h x n=some m)(hu:bL σ μ x u)(ml:0<n)(aZ:World)(hw:aZ.heap=w.heap) :
  m<2^(8*n)/\(Builtin.firstCells 1 n u).run P aZ=.ok (mJ n m).toArray aZ:=by
 cases x<;>simp only[BE]at aj<;>first|(cases aj;done) |skip
 ·rename_i bQ q;cases aj;obtain⟨b6,e⟩:=hu;subst e;simp only[lx]at ay;cases ay;refine⟨Nat.mod_lt _ (yo _),?_⟩;simp only[Builtin.firstCells,Sem.run_pure];congr 1;apply Array.toList_inj.1;apply List.ext_getElem?;intro i;simp only[Jn];by_cases af:i<n
  ·rw[if_pos af,R_ _ _ _ af];have aN:(bytesOf l q)[i]? =some (UInt8.ofNat (dN q i)):=by rw[sy,if_pos (by omega)]
   have aj:=vI q i;simp[ByteArray.data_extract,List.extract_toArray,List.extract_eq_take_drop,List.getElem?_take,af,aN];omega
  ·rw[if_neg af];simp[ByteArray.data_extract,List.extract_toArray,List.extract_eq_take_drop,List.getElem?_take,af]
 ·rename_i id off len cap cT ex;obtain⟨loc,a,c,hm,e,mg,mb,_,bc,_⟩:=hu;subst e;simp only[lx]at ay;cases ay;have AB:dU σ μ h aZ.heap:=by rw[hw];exact rel
  obtain⟨h1,ab⟩:=W_ (P:=P) (w:=aZ) AB hm aj;rw[<-bc (by omega)]at ab;exact⟨h1,by simp[Builtin.firstCells,ab]⟩
theorem Tj(rel:dU σ μ h w.heap){id off len cap cT:Nat}{ex:Bool}{u:Value}{n:Nat}{l:List aa}(aw:n<=len)(aj:j4 h id off (n*cT)=some l)(hu:bL σ μ (.slice id off len cap cT ex) u)(ml:0<n) :
  ∃xs,cy σ μ l xs/\∀aZ,aZ.heap=w.heap->(Builtin.firstCells cT n u).run P aZ=.ok xs.toArray aZ:=by
 obtain⟨loc,a,c,hm,e,mg,mb,_,bc,_⟩:=hu;subst e;obtain⟨xs,h1,ab,al⟩:=W9 (P:=P) (w:=w) rel hm aj;refine⟨xs,h1,λaZ hw=> ?_⟩;have AB:dU σ μ h aZ.heap:=by rw[hw];exact rel
 obtain⟨mU,oV⟩:=bT.Az _ _ _ aj
 have:(loadCells ⟨loc.b,loc.o+off,none⟩ (n*cT)).run P aZ=.ok xs.toArray aZ:=by
  have ay:=run_loadCells_list (P:=P) aZ ⟨loc.b,loc.o+off,none⟩ xs λj v aO=>by
   have py:j<xs.length:=by apply Classical.byContradiction;intro rI;rw[List.getElem?_eq_none (by omega)]at aO;cases aO
   have aP:w.cell? (Addr.add ⟨loc.b,loc.o+off,none⟩ j)=some v:=by
    rw[y'];obtain⟨eT,fV⟩ :∃eT,l[j]? =some eT:=⟨l[j]'(by rw[mU,<-ab];exact py),List.getElem?_eq_getElem _⟩;obtain⟨x,ag,_⟩:=wO (w:=w) rel hm (oV j eT fV);rw[<-Nat.add_assoc]at ag;have ry:=al;have mR:w.cell? ⟨loc.b,loc.o+off+j,none⟩=some x:=ag
    rw[run_loadCells w ⟨loc.b,loc.o+off,none⟩ (n*cT) (λi=>(w.cell? ⟨loc.b,loc.o+off+i,none⟩).getD undef) (λi af=>by
     rw[y'];obtain⟨v2,pH⟩ :∃v2,l[i]? =some v2:=⟨l[i]'(by rw[mU];exact af),List.getElem?_eq_getElem _⟩;obtain⟨eY,lP,_⟩:=wO (w:=w) rel hm (oV i v2 pH);rw[<-Nat.add_assoc]at lP
     rw[lP];rfl)]at ry
    have aG:((List.range (n*cT)).map (λi=>(w.cell? ⟨loc.b,loc.o+off+i,none⟩).getD undef)).toArray=xs.toArray:=by injection ry
    have aT:(List.range (n*cT)).map (λi=>(w.cell? ⟨loc.b,loc.o+off+i,none⟩).getD undef)=xs:=by have:=congrArg Array.toList aG;simpa using this
    rw[<-aT,List.getElem?_map,List.getElem?_range (by rw[<-ab];exact py)]at aO;simp only[Option.map_some,mR,Option.getD_some]at aO;rw[mR,aO]
   unfold World.cell? at aP|-;rw[hw];exact aP
  rwa[ab]at ay
 rw[<-bc (by omega)]at this;simp[Builtin.firstCells,this]
theorem NH{cellNew:Nat->Option aa}{lenc nc:Nat}{old new:List aa}{us vs:List Value}(ro:cy σ μ old us)(r8:cy σ μ new vs)(e1:old.length=lenc)(mS:new.length=nc)
  (aH:∀i,i<lenc+nc->cellNew i=(old++new)[i]?) {st:Bool} {loc:Loc} {rest:List Value} {jT:TypeId} (bg:loc.o=0) (iG:loc.room=(us++vs++rest).length) :
  la σ μ cellNew (lenc+nc) st loc (some (.cells (us++vs++rest).toArray jT)):=by
 have qS:=ro.append r8;have qy:(old++new).length=lenc+nc:=by rw[List.length_append,e1,mS]
 refine⟨_,jT,(0,0),rfl,by simp[bg,iG],by rw[iG,List.length_append,<-qS.length,qy];omega,λ_=>rfl,Tq _,λi af=> ?_⟩;have aN:(old++new)[i]? =some ((old++new)[i]'(by rw[qy];exact af)):=List.getElem?_eq_getElem _;obtain⟨x,ag,rx⟩:=qS.get i _ aN;refine⟨_,x,by rw[aH i af,aN],?_,rx⟩;rw[bg,Nat.zero_add];simp only[List.getElem?_toArray];rw[List.getElem?_append_left (by rw[<-qS.length,qy];exact af)];exact ag
theorem Ya{b:Nat} :∀(xs:List Value) (o i:Nat) (c:Array Value) (jT:TypeId) (fr:Nat×Nat) (w:World),w.heap[b]? =some (.cells c jT fr)->(∀j,j<c.size->¬(fr.1<=j/\j<fr.2))->
  (∀x,x∈xs->x.oneCell'=true)->o+i+xs.length<=c.size->
  ∃aZ h3,(storeCells ⟨b,o,none⟩ xs i).run P w=.ok () aZ/\dC w aZ/\aZ.heap.size=w.heap.size/\(∀j,j≠b->aZ.heap[j]? =w.heap[j]?)/\aZ.heap[b]? =some (.cells h3 jT fr)/\h3.size=c.size/\
   (∀j,h3[j]? =if o+i<=j/\j<o+i+xs.length then xs[j-(o+i)]? else c[j]?)
 |[],o,i,c,jT,fr,w,hw,fw,h1,hle=>⟨w,c,by simp[storeCells],dC.refl _,rfl,λ_ _=>rfl,hw,rfl,λj=>by rw[if_neg (by simp only[List.length_nil];omega)]⟩
 |x::xs,o,i,c,jT,fr,w,hw,fw,h1,hle=>by
  have b6:o+i<c.size:=by simp at hle;omega
  have s7:(w.setCell ⟨b,o+i,none⟩ x).heap[b]? =some (.cells (c.setIfInBounds (o+i) x) jT fr):=by rw[HG,if_pos rfl,hw];rfl
  obtain⟨aZ,h3,ao,a2,a3,a4,a5,hZ,ri⟩:=Ya xs o (i+1) (c.setIfInBounds (o+i) x) jT fr (w.setCell ⟨b,o+i,none⟩ x) s7 (by simpa using fw) (λy aq=>h1 y (List.mem_cons_of_mem _ aq)) (by simp at hle|-;omega);refine⟨aZ,h3,?_,(dC.setCell _ _ _).trans a2,by rw[a3,XJ],λj aO=>by rw[a4 j aO,HG,if_neg (Ne.symm aO)],a5,by rw[hZ];simp,λj=> ?_⟩
  ·have mR:w.cell? ⟨b,o+i,none⟩=some c[o+i]:=by rw[BG,hw];simp[b6]
   have Cf:w.frozen? ⟨b,o+i,none⟩=false:=by rw[Fy,hw];have:=fw (o+i) b6;simp only[Bool.and_eq_false_iff,decide_eq_false_iff_not];omega
   simp only[storeCells,add_eq,Sem.run_bind,run_store P w _ x .plain (h1 x List.mem_cons_self),mR,Cf,Bool.false_eq_true,if_false,Result.andThen_ok];exact ao
  ·rw[ri];by_cases ab:o+(i+1)<=j/\j<o+(i+1) +xs.length
   ·rw[if_pos ab,if_pos (by simp only[List.length_cons];omega)];obtain⟨m,hm⟩ :∃m,j-(o+i)=m+1:=⟨j-(o+i) -1,by omega⟩;rw[hm,show j-(o+(i+1))=m by omega,List.getElem?_cons_succ]
   ·rw[if_neg ab];by_cases al:j=o+i
    ·subst al;rw[if_pos (by simp only[List.length_cons];omega),Nat.sub_self,Array.getElem?_setIfInBounds_self,if_pos b6];rfl
    ·rw[if_neg (by simp only[List.length_cons];omega),Array.getElem?_setIfInBounds_ne (Ne.symm al)]
end
section
variable{P:Program}{E:Env}{σ:Nat->Int}{μ:Map}{h:ae}{w:World}{r:bE}{tmps:Array Value}
theorem hq.Wv{o:bT}{size:Nat}{st:Bool}{loc:Loc}{x:Option Obj}(h1:o.row=some (size,st))(an:la σ μ o.cell size st loc x) :hq σ μ o loc x:=by cases o<;>simp only[bT.row]at h1<;>first|(cases h1;done) |(cases h1;exact an)
theorem XD:∀{cY:List aa} {vs:List Value},cy σ μ cY vs->cY.all dH=true->∀v,v∈vs->v.oneCell'=true
 |[],_,an,_,v,ai=>by rw[cy.j1.1 an]at ai;cases ai
 |a::cY,_,⟨x,xs,rfl,ag,gm⟩,aA,v,ai=>by
  simp only[List.all_cons,Bool.and_eq_true]at aA;rcases List.mem_cons.1 ai with rfl|ai
  ·exact XC aA.1 ag
  ·exact XD gm aA.2 v ai
theorem Kw(rel:dU σ μ h w.heap){id off len cap cT n:Nat}{ex:Bool}{o:Bool->bT}{g:ae}{old new:List aa}{vs:List Value}{us:Value}{l3:Value}{argTypes:Array TypeId}{e:TypeId}{bytes:Nat}{zc:Nat}
  (rt:TypeId) (aN:nX h id ex o=some g) (hu:bL σ μ (.slice id off len cap cT ex) us) (aH:¬len+n<=cap) (a:App P w argTypes e cT bytes l3 n vs) (iG:roomy (len+n) bytes=true)
  (aP:∀z,(zeroValue e).run P w=.ok z w->z.cells.size=cT) (ahW:∃z,(zeroValue e).run P w=.ok z w)
  (hold:old.length=len*cT/\∀j v,old[j]? =some v->(h.get id).cell (off+j)=some v) (fK:cy σ μ new vs) (mS:new.length=n*cT) (s6:new.all dH=true)
  (mR:∀st i,i<(len+n) *cT->(o st).cell i=(old++new)[i]?) (eK:∀st,(o st).row=some ((len+n) *cT,st)) :
  ∃q aZ bS,(Builtin.append_ argTypes rt #[us,l3]).run P w=.ok q aZ/\dC w aZ/\ej σ μ h w.heap bS g aZ.heap/\bL σ bS (.slice h.next 0 (len+n) (len+n) cT false) q:=by
 obtain⟨loc,ad,kR,hm,rfl,mg,mb,hex,oP,pD⟩:=hu
 obtain⟨xs,gm,x2,T8⟩ :∃xs:List Value,cy σ μ old xs/\xs.length=len*cT/\∀aZ,aZ.heap=w.heap->(Builtin.firstCells cT len (.slice (some ad) len kR)).run P aZ=.ok xs.toArray aZ:=by
  by_cases h0:len=0
  ·subst h0;have:old=[]:=List.eq_nil_of_length_eq_zero (by rw[hold.1];simp);subst this;exact⟨[],rfl,by simp,λaZ hw=>by simp[Builtin.firstCells,loadCells,loadCellsFrom]⟩
  ·obtain⟨xs,p,q⟩:=Vw (σ:=σ) (μ:=μ) (f:=λj=>w.cell? ⟨loc.b,loc.o+off+j,none⟩) old λj v aO=>by
    obtain⟨x,ag,rx⟩:=wO (w:=w) rel hm (off:=off+j) (v:=v) (hold.2 j v aO);rw[<-Nat.add_assoc]at ag;exact⟨x,ag,rx⟩
   have ay:xs.length=len*cT:=by rw[<-p.length,hold.1]
   refine⟨xs,p,ay,λaZ hw=> ?_⟩
   have:=run_loadCells_list (P:=P) aZ ⟨loc.b,loc.o+off,none⟩ xs λj v aO=>by rw[y'];have:=q j v aO;unfold World.cell? at this|-;rw[hw];exact this
   rw[ay,<-oP (by omega)]at this;simp[Builtin.firstCells,this]
 by_cases fZ:len+n<=kR
 ·
  have Ce:ex=false:=by
   cases ex with
   |false=>rfl
   |true=>have:=hex rfl;omega
  subst Ce;unfold nX at aN;simp only at aN;split at aN
  ·rename_i sz st zX;cases aN;have afo:kR≠0:=by omega
   have ua:=oP afo;subst ua;have db:h.get id≠.dead:=λe=>by rw[e]at zX;cases zX
   obtain⟨c,jT,fr,aG,aT,bJ,e0,fJ,kc⟩:=(rel.obj id loc _ hm (ae.nk db)).row zX;have ate:(len+n) *cT<=kR*cT:=Nat.mul_le_mul_right _ fZ;have xW:(len+n) *cT=len*cT+n*cT:=Nat.add_mul _ _ _;have z1:vs.length=n*cT:=by rw[<-fK.length,mS]
   obtain⟨aZ,h3,s1,s2,dE,m2,j6,qT,aoB⟩:=Ya (P:=P) vs (loc.o+off+len*cT) 0 c jT fr w aG fJ (XD fK s6) (by rw[z1];omega);have ae3:=za a rt fZ (aZ:=aZ) (ad:=⟨loc.b,loc.o+off,none⟩) (by rw[add_eq];exact s1);have aw:=rel.hW h.next (Nat.le_refl _);have jH:Ext μ (μ.az h.next ⟨loc.b,loc.o+off,loc.room-off⟩):=Map.q7 _ _ aw;have qS:=(gm.append fK);have qy:(old++new).length=(len+n) *cT:=by rw[List.length_append,hold.1,mS,xW]
   have xS:la σ (μ.az h.next ⟨loc.b,loc.o+off,loc.room-off⟩) (o st).cell ((len+n) *cT) st ⟨loc.b,loc.o+off,loc.room-off⟩ aZ.heap[loc.b]? :=by
    refine⟨h3,jT,fr,j6,by rw[qT];simp only;omega,by simp only;omega,e0,by rw[qT];exact fJ,λi af=> ?_⟩;have TX:(old++new)[i]? =some ((old++new)[i]'(by rw[qy];exact af)):=List.getElem?_eq_getElem _;obtain⟨x,ag,rx⟩:=qS.get i _ TX;refine⟨_,x,by rw[mR st i af,TX],?_,bL.ext jH _ _ rx⟩;simp only;rw[aoB];by_cases h1:len*cT<=i
    ·rw[if_pos (by rw[z1];omega),show loc.o+off+i-(loc.o+off+len*cT+0)=i-len*cT by omega];rw[List.getElem?_append_right (by rw[x2];exact h1),x2]at ag;exact ag
    ·rw[if_neg (by omega)];have fh:i<old.length:=by rw[hold.1];omega
     rw[List.getElem?_append_left (by rw[x2];omega)]at ag;have agP:old[i]? =some old[i]:=List.getElem?_eq_getElem fh;have T0:=T8 w rfl;have ml:len≠0:=λe=>by rw[e]at h1;simp at h1
     obtain⟨y,aq,iO⟩:=wO (w:=w) rel hm (off:=off+i) (v:=old[i]) (hold.2 i _ agP);rw[BG,aG]at aq;simp only at aq;have oS:(Builtin.firstCells cT len (.slice (some ⟨loc.b,loc.o+off,none⟩) len kR)).run P w=(loadCells ⟨loc.b,loc.o+off,none⟩ (len*cT)).run P w:=by simp[Builtin.firstCells]
     rw[oS,run_loadCells w ⟨loc.b,loc.o+off,none⟩ (len*cT) (λk=>(w.cell? ⟨loc.b,loc.o+off+k,none⟩).getD undef) (λk av=>by
      rw[y'];have kX:k<old.length:=by rw[hold.1];exact av
      obtain⟨eY,lP,_⟩:=wO (w:=w) rel hm (off:=off+k) (v:=old[k]) (hold.2 k _ (List.getElem?_eq_getElem kX));rw[<-Nat.add_assoc]at lP
      rw[lP];rfl)]at T0
     have vQ:(List.range (len*cT)).map (λk=>(w.cell? ⟨loc.b,loc.o+off+k,none⟩).getD undef)=xs:=by injection T0 with cr;have:=congrArg Array.toList cr;simpa using this
     rw[<-vQ,List.getElem?_map,List.getElem?_range (by omega)]at ag;simp only[Option.map_some,BG,aG]at ag;rw[show loc.o+off+i=loc.o+(off+i)by omega]at ag|-;rw[aq]at ag|-;exact ag
   refine⟨_,aZ,_,ae3,s2,rel.anV (off:=off) (cg:=o st) hm (Xo zX) dE m2 (hq.Wv (eK st) xS),?_⟩;refine⟨_,_,_,Map.iS _ _ _,rfl,Nat.le_refl _,fZ,(λe=>by cases e),λ_=>rfl,?_⟩;simp only;omega
  ·cases aN
 ·
  obtain⟨z,rT⟩:=ahW;obtain⟨c,rest,aZ,g1,g2,g3,g4,g5⟩:=Ja a rt fZ (by omega) iG (old:=xs) T8;have pC:=g5 z rT;rw[aP z rT]at pC;have z1:vs.length=n*cT:=by rw[<-fK.length,mS]
  have xW:(len+n) *cT=len*cT+n*cT:=Nat.add_mul _ _ _;have rC:c*cT=(len+n) *cT+(c-(len+n)) *cT:=by rw[<-Nat.add_mul];congr 1;omega
  have ahk:(xs++vs++rest).length=c*cT:=by simp only[List.length_append,x2,z1,pC];omega
  have agG:∀(bS:Map) (st:Bool),Ext μ bS->hq σ bS (o st) ⟨w.heap.size,0,c*cT⟩ (some (.cells (xs++vs++rest).toArray e)):=by intro bS st jH;refine hq.Wv (eK st) ?_;rw[xW];exact NH (cy.ext jH _ _ gm) (cy.ext jH _ _ fK) hold.1 mS (λi af=>mR st i (by rw[xW];exact af)) rfl (by simp only[ahk])
  have Ue:∀(aD:ae) (st:Bool),aD.next=h.next->ej σ μ h w.heap μ aD w.heap->ej σ μ h w.heap (μ.az h.next ⟨w.heap.size,0,c*cT⟩) (aD.new (o st)) aZ.heap:=by intro aD st kx m;have aw:=rel.hW h.next (Nat.le_refl _);have:=m.rel.new (x:=.cells (xs++vs++rest).toArray e) (o:=o st) (room:=c*cT) (by rw[kx];exact agG _ st (Map.q7 _ _ aw));rw[<-g2,kx]at this;exact m.trans this
  have ai:bL σ (μ.az h.next ⟨w.heap.size,0,c*cT⟩) (.slice h.next 0 (len+n) (len+n) cT false) (.slice (some ⟨w.heap.size,0,none⟩) (len+n) c):=
   ⟨_,_,_,Map.iS _ _ _,rfl,Nat.le_refl _,g4,(λe=>by cases e),λ_=>by simp,by simp⟩
  unfold nX at aN;cases ex with
  |true=>
   cases aN;exact⟨_,aZ,_,g1,g3,Ue h false rfl (ej.refl rel),ai⟩
  |false=>
   simp only at aN;split at aN
   ·rename_i sz st zX;cases aN;exact⟨_,aZ,_,g1,g3,Ue (h.put id .dead) st rfl (rel.kill hm (Xo zX)),ai⟩
   ·cases aN
end
section
variable{P:Program}{E:Env}{σ:Nat->Int}{μ:Map}{h:ae}{w:World}{r:bE}{tmps:Array Value}
theorem xc:∀(l m:Nat),(ng l m).length=l
 |0,_=>rfl
 |l+1,m=>by simp[ng,xc l]
theorem Bz:∀(l m i:Nat),(ng l m)[i]? =if i<l then some (.int .u8 (.ofNat (dN m i)))else none
 |0,m,i=>by simp[ng]
 |l+1,m,0=>by simp[ng,jE]
 |l+1,m,i+1=>by
  have nU:(2:Nat) ^(8*1)=256:=by decide
  simp only[ng,List.getElem?_cons_succ,Bz l (m/256) i]
  have:dN (m/256) i=dN m (i+1):=by rw[jE,jE,Nat.mul_add,Nat.add_comm (8*i),Nat.pow_add,<-Nat.div_div_eq_div_mul,nU]
  rw[this];by_cases h:i<l
  ·rw[if_pos h,if_pos (by omega)]
  ·rw[if_neg h,if_neg (by omega)]
theorem RR:∀(l m:Nat),(ng l m).all dH=true
 |0,_=>rfl
 |l+1,m=>by simp[ng,dH,RR l]
theorem Jq{size:Nat}{st:Bool}{n i:Nat}(af:i<size) :(bT.bytes size st n).cell i=some (.int .u8 (.ofNat (dN n i))):=by simp only[bT.cell,dM.2 af,cond_true]
theorem anM{id off len n:Nat}(an:oo h id off len=some n) :n<2^(8*len)/\∀j v,(ng len n)[j]? =some v->(h.get id).cell (off+j)=some v:=by
 unfold oo at an;split at an
 ·rename_i size st N aN;replace an:=dV an;obtain⟨hle,an⟩:=an;cases an;have rL:=ec.1 hle;refine⟨JO _ _ _,λj v aO=> ?_⟩;rw[Bz]at aO;split at aO
  ·rename_i py;cases aO;rw[aN,Jq (by omega),Jo _ _ _ _ py]
  ·cases aO
 ·cases an
theorem B1{x:aa}{u:Value}{l:Nat}(ay:lx x=some l)(hu:bL σ μ x u)(size:Nat)(aZ:World) :(Builtin.firstCells size 0 u).run P aZ=.ok #[] aZ:=by
 cases x<;>simp only[lx]at ay<;>first|(cases ay;done) |skip
 ·obtain⟨_,e⟩:=hu;subst e;simp[Builtin.firstCells,ByteArray.data_extract]
 ·have e:u=_:=hu;subst e;simp[Builtin.firstCells]
 ·obtain⟨loc,a,c,_,e,_⟩:=hu;subst e;simp[Builtin.firstCells,loadCells,loadCellsFrom]
theorem abl(ok:dL P E σ)(rel:dU σ μ h w.heap){NN Pz:TypeId}{s x v:aa}{bC:ae}{us l3:Value}{argTypes:Array TypeId}(h0:argTypes[0]? =some NN)(h1:argTypes[1]? =some Pz)(rt:TypeId)
  (ai:h2 E h NN Pz s x=some (v,bC)) (aA:bL σ μ s us) (ag:bL σ μ x l3) :
  ∃q aZ bS,(Builtin.append_ argTypes rt #[us,l3]).run P w=.ok q aZ/\dC w aZ/\ej σ μ h w.heap bS bC aZ.heap/\bL σ bS v q:=by
 unfold h2 at ai;split at ai
 ·rename_i si PA n ag7 ahF hlen;split at ai
  ·rename_i e ag9 UC;split at ai
   ·cases ai
   ·rename_i ie fY;obtain⟨inf,z,zO,af8,K9,T3,_,jk⟩:=HA (P:=P) ok fY;obtain⟨z2,aP,_,aou⟩:=yx (P:=P) ok fY;have jg:ie.zero.length=ie.size:=(ok.ty _ _ fY).y2;have il:z2.cells.size=ie.size:=by rw[<-jg,(aou μ).length,Array.length_toList]
    have mkApp:∀(m:Nat) (new:List Value),lx x=some m->(∀aZ,aZ.heap=w.heap->(Builtin.firstCells ie.size m l3).run P aZ=.ok new.toArray aZ)->App P w argTypes e ie.size ie.bytes l3 m new:=by
     intro m new ay aH;refine⟨⟨NN,Pz,PA.desc,h0,h1,λw=>by rw[ir ok ag7,ag9],λw=>ir ok ahF w,?_⟩,λw=>nH ok fY w,⟨inf,z2,zO,K9,aP⟩,λw=>Vf ay ag w,aH⟩;split at UC
     ·first|rfl|(rename_i aC;rw[aC])
     ·first|rfl|(rename_i aC;rw[aC])
     ·cases UC
    have pJ:∀z,(zeroValue e).run P w=.ok z w->z.cells.size=ie.size:=λaaO nx=>by rw[aP]at nx;cases nx;exact il
    split at ai
    ·
     have a:=mkApp 0 [] hlen λaZ _=>by simpa using B1 (P:=P) hlen ag ie.size aZ
     split at ai
     ·cases ai;have aG:us=_:=aA;subst aG;exact⟨_,w,μ,RM a rt rfl _ (.inl rfl),dC.refl _,ej.refl rel,rfl⟩
     ·cases ai;have kj:=aA;obtain⟨loc,ad,kR,_,aG,mg,mb,_⟩:=aA;subst aG;exact⟨_,w,μ,RM a rt rfl _ (.inr ⟨ad,_,kR,rfl,by omega⟩),dC.refl _,ej.refl rel,kj⟩
     ·cases ai
    ·rename_i n;split at ai
     ·
      replace ai:=dV ai;obtain⟨eR,ai⟩:=ai;have iW:=beq_true.1 eR;split at ai
      ·cases ai
      ·rename_i new fK;have rG:=λaZ iI=>Ti (P:=P) rel hlen (Nat.le_refl _) fK ag (by omega) aZ iI
       have agI:=(rG w rfl).1;have a:=mkApp (n+1) (mJ (n+1) new) hlen λaZ iI=>by rw[iW];exact(rG aZ iI).2
       rw[iW]at a pJ;split at ai
       ·
        replace ai:=dV ai;obtain⟨iG,ai⟩:=ai;cases ai;have aG:us=_:=aA;subst aG;obtain⟨c,rest,aZ,g1,g2,g3,g4,g5⟩:=Ja a rt (base:=none) (len:=0) (cap:=0) (by omega) (Nat.le_refl _) (by simpa using iG) (old:=[]) λaZ _=>by simp[Builtin.firstCells]
        have pC:=g5 z2 (aP w);rw[pJ z2 (aP w)]at pC
        have eK:∀bS,hq σ bS (.bytes (n+1) false new) ⟨w.heap.size,0,c⟩ (some (.cells ([]++mJ (n+1) new++rest).toArray e)):=by
         intro bS
         have:=NH (σ:=σ) (μ:=bS) (old:=[]) (new:=ng (n+1) new) (us:=[]) (vs:=mJ (n+1) new) (lenc:=0) (nc:=n+1) (cellNew:=(bT.bytes (n+1) false new).cell) rfl (ER _ _) rfl (xc _ _)
          (λi af=>by rw[Jq (by omega),List.nil_append,Bz,if_pos (by omega)]) (st:=false) (loc:=⟨w.heap.size,0,c⟩) (rest:=rest) (jT:=e) rfl (by simp only[List.nil_append,List.length_append,R8,pC];omega)
         rw[Nat.zero_add]at this;exact this
        have m:=rel.new (x:=.cells ([]++mJ (n+1) new++rest).toArray e) (o:=.bytes (n+1) false new) (room:=c) (eK _);rw[<-g2]at m;refine⟨_,aZ,_,g1,g3,m,_,_,_,Map.iS _ _ _,by rw[Nat.zero_add],Nat.le_refl _,by omega,(λe=>by cases e),λ_=>rfl,by simp⟩
       ·rename_i id off len cap cT ex;replace ai:=dV ai;obtain⟨sV,ai⟩:=ai;have afM:=beq_true.1 sV;subst afM;cases mQ:Nat.ble (len+(n+1)) cap with
        |true=>
         rw[mQ]at ai;simp only[cond_true]at ai;split at ai
         ·rename_i g hw;cases ai;have vY:=ec.1 mQ;have kj:=aA;obtain⟨loc,ad,kR,hm,aG,mg,mb,hex,oP,pD⟩:=aA;subst aG;have ua:=oP (by omega);subst ua;obtain⟨aZ,s1,s2,dE⟩:=y1 (P:=P) rel hm hw agI;refine⟨_,aZ,μ,za a rt (by omega) (aZ:=aZ) ?_,s2,dE,loc,_,kR,hm,rfl,vY,mb,hex,λ_=>rfl,pD⟩;rw[add_eq,Nat.mul_one,Nat.add_assoc];exact s1
         ·cases ai
        |false=>
         rw[mQ]at ai;simp only[cond_false]at ai;have vY:¬len+(n+1)<=cap:=λh=>by rw[ec.2 h]at mQ;cases mQ
         split at ai
         ·cases ai
         ·rename_i old hold;replace ai:=dV ai;obtain⟨iG,ai⟩:=ai;split at ai
          ·rename_i g Ci;cases ai;obtain⟨agS,agM⟩:=anM hold
           obtain⟨q,aZ,bS,fS,ft,gV,jq⟩:=Kw (zc:=0) rel rt Ci aA vY a iG pJ ⟨z2,aP w⟩ (old:=ng len old) ⟨by rw[xc,Nat.mul_one],agM⟩ (ER (n+1) new) (by rw[xc,Nat.mul_one]) (RR _ _)
            (λst i af=>by
              rw[Nat.mul_one]at af;rw[Jq af,R9 _ _ _ _ agS];by_cases h1:i<len
              ·rw[if_pos h1,List.getElem?_append_left (by rw[xc];exact h1),Bz,if_pos h1]
              ·rw[if_neg h1,List.getElem?_append_right (by rw[xc];omega),Bz,xc,if_pos (by omega)])
            (λst=>by rw[Nat.mul_one];rfl)
           exact⟨q,aZ,bS,fS,ft,gV,jq⟩
          ·cases ai
       ·cases ai
     ·
      split at ai
      ·rename_i xid xoff ar5 xcap Et xex;replace ai:=dV ai;obtain⟨aj,ai⟩:=ai;have x1:=beq_true.1 (fR aj).1;have ml:=ec.1 (fR aj).2;subst x1;simp only[lx]at hlen;cases hlen;split at ai
       ·cases ai
       ·rename_i new fK;obtain⟨vs,jf,oS⟩:=Tj (P:=P) rel (Nat.le_refl _) fK ag (by omega);have a:=mkApp (n+1) vs rfl oS;have mS:new.length=(n+1) *ie.size:=(bT.Az _ _ _ fK).1;split at ai
        ·
         replace ai:=dV ai;obtain⟨iG,ai⟩:=ai;cases ai;have aG:us=_:=aA;subst aG;obtain⟨c,rest,aZ,g1,g2,g3,g4,g5⟩:=Ja a rt (base:=none) (len:=0) (cap:=0) (by omega) (Nat.le_refl _) (by simpa using iG) (old:=[]) λaZ _=>by simp[Builtin.firstCells]
         have pC:=g5 z2 (aP w);rw[il]at pC;have z1:vs.length=(n+1) *ie.size:=by rw[<-jf.length,mS]
         have rC:c*ie.size=(n+1) *ie.size+(c-(0+(n+1))) *ie.size:=by rw[<-Nat.add_mul];congr 1;omega
         have eK:∀bS,Ext μ bS->hq σ bS (.cells ((n+1) *ie.size) false [] (bu.ofList new)) ⟨w.heap.size,0,c*ie.size⟩ (some (.cells ([]++vs++rest).toArray e)):=by
          intro bS jH
          have:=NH (σ:=σ) (μ:=bS) (old:=[]) (new:=new) (us:=[]) (vs:=vs) (lenc:=0) (nc:=(n+1) *ie.size) (cellNew:=(bT.cells ((n+1) *ie.size) false [] (bu.ofList new)).cell) rfl (cy.ext jH _ _ jf) rfl mS
           (λi af=>by
             have fh:i<new.length:=by rw[mS];omega
             simp only[bT.cell,dM.2 (show i<(n+1) *ie.size by omega),cond_true,bu.xu,List.nil_append,List.getElem?_eq_getElem fh]) (st:=false) (loc:=⟨w.heap.size,0,c*ie.size⟩) (rest:=rest) (jT:=e) rfl (by simp only[List.nil_append,List.length_append,z1,pC,rC])
          rw[Nat.zero_add]at this;exact this
         have aw:=rel.hW h.next (Nat.le_refl _);have m:=rel.new (x:=.cells ([]++vs++rest).toArray e) (o:=.cells ((n+1) *ie.size) false [] (bu.ofList new)) (room:=c*ie.size) (eK _ (Map.q7 _ _ aw));rw[<-g2]at m;refine⟨_,aZ,_,g1,g3,m,_,_,_,Map.iS _ _ _,by rw[Nat.zero_add],Nat.le_refl _,by omega,(λe=>by cases e),λ_=>rfl,by simp⟩
        ·rename_i id off len cap cT ex;replace ai:=dV ai;obtain⟨pt,ai⟩:=ai;have sV:=beq_true.1 (fR pt).1;have s6:=(fR pt).2;subst sV;cases mQ:Nat.ble (len+(n+1)) cap with
         |true=>
          rw[mQ]at ai;simp only[cond_true]at ai;split at ai
          ·rename_i g hw;cases ai;have vY:=ec.1 mQ;obtain⟨loc,ad,kR,hm,aG,mg,mb,hex,oP,pD⟩:=aA;subst aG;have ua:=oP (by omega);subst ua
           have fA:new≠[]:=λe=>by have aI:0<(n+1) *ie.size:=Nat.mul_pos (by omega) ml;rw[e]at mS;simp only[List.length_nil]at mS;omega
           obtain⟨aZ,s1,s2,dE⟩:=HP (P:=P) (E:=E) rel hm fA hw jf;refine⟨_,aZ,μ,za a rt (by omega) (aZ:=aZ) ?_,s2,dE,loc,_,kR,hm,rfl,vY,mb,hex,λ_=>rfl,pD⟩;rw[add_eq,Nat.add_assoc];exact s1
          ·cases ai
         |false=>
          rw[mQ]at ai;simp only[cond_false]at ai;have vY:¬len+(n+1)<=cap:=λh=>by rw[ec.2 h]at mQ;cases mQ
          replace ai:=dV ai;obtain⟨iG,ai⟩:=ai;have xW:(len+(n+1)) *ie.size=len*ie.size+(n+1) *ie.size:=Nat.add_mul _ _ _;split at ai
          ·
           rename_i size X6 zero t jX agN;replace ai:=dV ai;obtain⟨hle,ai⟩:=ai;have rL:=ec.1 hle;have agO:=beq_true.1 agN;subst agO;split at ai
           ·rename_i g Ci;cases ai;have kj:=aA;obtain⟨loc,ad,kR,hm,aG,mg,mb,hex,oP,pD⟩:=kj;have db:h.get id≠.dead:=by rw[jX];simp
            have xP:=rel.obj id loc _ hm (ae.nk db);rw[jX]at xP;obtain⟨fm,asm,aew,_,_,_,_,_,oR⟩:=xP;have me:∀i,i<len*ie.size->∃v,(bT.cells size X6 zero t).cell i=some v:=λi af=>let⟨v,_,ai,_⟩:=oR i (by omega);⟨v,ai⟩
            let old:List aa:=(List.range (len*ie.size)).map λi=>((bT.cells size X6 zero t).cell i).getD .undef
            have zV:old.length=len*ie.size:=by simp[old]
            have Ul:∀j v,old[j]? =some v->(h.get id).cell (0+j)=some v:=by
             intro j v aO
             have py:j<len*ie.size:=by apply Classical.byContradiction;intro rI;rw[List.getElem?_eq_none (by rw[zV];omega)]at aO;cases aO
             obtain⟨eT,fV⟩:=me j py;simp only[old,List.getElem?_map,List.getElem?_range py,Option.map_some,fV,Option.getD_some]at aO;cases aO;rw[jX,Nat.zero_add];exact fV
            obtain⟨q,aZ,bS,fS,ft,gV,jq⟩:=Kw (zc:=0) rel rt Ci aA vY a iG pJ ⟨z2,aP w⟩ (old:=old) ⟨zV,Ul⟩ jf mS s6
             (λst i af=>by
               have rK:i<len*ie.size+(n+1) *ie.size:=by rw[<-xW];exact af
               by_cases h1:i<len*ie.size
               ·rw[List.getElem?_append_left (by rw[zV];exact h1)];have T4:old[i]? =some (old[i]'(by rw[zV];exact h1)):=List.getElem?_eq_getElem _;rw[T4,<-Ul i _ T4,jX,Nat.zero_add];simp only[bT.cell,dM.2 af,dM.2 (show i<size by omega),cond_true,bu.xv];rw[if_neg (by omega)]
               ·rw[List.getElem?_append_right (by rw[zV];omega),zV];have T1:i-len*ie.size<new.length:=by rw[mS];omega
                simp only[bT.cell,dM.2 af,cond_true,bu.xv]
                rw[if_pos (by rw[mS];omega),List.getElem?_eq_getElem T1])
             (λst=>rfl)
            exact⟨q,aZ,bS,fS,ft,gV,jq⟩
           ·cases ai
          ·
           rename_i o e7;split at ai
           ·cases ai
           ·rename_i old hold;split at ai
            ·rename_i g Ci;cases ai;obtain⟨cS,dm⟩:=bT.Az _ _ _ hold
             obtain⟨q,aZ,bS,fS,ft,gV,jq⟩:=Kw (zc:=0) rel rt Ci aA vY a iG pJ ⟨z2,aP w⟩ (old:=old) ⟨cS,dm⟩ jf mS s6
              (λst i af=>by
                have rK:i<(old++new).length:=by rw[List.length_append,cS,mS,<-xW];exact af
                simp only[bT.cell,dM.2 af,cond_true,bu.xu,List.getElem?_eq_getElem rK])
              (λst=>rfl)
             exact⟨q,aZ,bS,fS,ft,gV,jq⟩
            ·cases ai
        ·cases ai
      ·cases ai
  ·cases ai
 ·cases ai
theorem acP(ok:dL P E σ)(rel:dU σ μ h w.heap){JQ:TypeId}{d x v:aa}{bC:ae}{yO l3:Value}{argTypes:Array TypeId}(h0:argTypes[0]? =some JQ)(rt:TypeId)
  (ai:pg E h JQ d x=some (v,bC)) (aC:bL σ μ d yO) (ag:bL σ μ x l3) :
  ∃q aZ,(Builtin.copy_ argTypes rt #[yO,l3]).run P w=.ok q aZ/\dC w aZ/\ej σ μ h w.heap μ bC aZ.heap/\bL σ μ v q:=by
 unfold pg at ai;split at ai
 ·rename_i SI a b afw qy n_;split at ai
  ·rename_i e xC;split at ai
   ·cases ai
   ·rename_i ie fY;have F0:=Vf (P:=P) qy ag;have Gh:∀w,(underlying JQ).run P w=.ok (.slice e) w:=λw=>by rw[ir ok afw,xC]
    have eR:=λw=>nH (P:=P) ok fY w
    have xF:(d=.bI/\b=0)\/∃id off cap cT ex,d=.slice id off b cap cT ex:=by
     cases d<;>simp only[lx]at n_<;>first|(cases n_;done) |skip
     ·cases n_;exact .inl ⟨rfl,rfl⟩
     ·cases n_;exact .inr ⟨_,_,_,_,_,rfl⟩
    split at ai
    ·rename_i rN;cases ai;rcases xF with⟨rfl,rfl⟩ |⟨id,off,cap,cT,ex,rfl⟩
     ·have bw:yO=_:=aC;subst bw;refine⟨.int .i64 0,w,?_,dC.refl _,ej.refl rel,rfl⟩;have aP:=B1 (P:=P) qy ag ie.size w;simp[Builtin.copy_,h0,Gh,eR,F0,aP,goInt]
     ·obtain⟨loc,ad,kR,hm,bw,mg,mb,hex,oP,pD⟩:=aC;subst bw;refine⟨.int .i64 0,w,?_,dC.refl _,ej.refl rel,rfl⟩;have aP:=B1 (P:=P) qy ag ie.size w;have zR:Nat.min a b=0:=rN;simp[Builtin.copy_,h0,Gh,eR,F0,zR,aP,goInt,storeCells]
    ·rename_i n rN;have Ua:Nat.min a b=n+1:=rN;have pA:n+1<=a:=Nat.le_trans (Nat.le_of_eq rN.symm) (Nat.min_le_left a b);have atp:n+1<=b:=Nat.le_trans (Nat.le_of_eq rN.symm) (Nat.min_le_right a b);split at ai
     ·rename_i id off len cap cT ex;simp only[lx]at n_;cases n_;replace ai:=dV ai;obtain⟨sV,ai⟩:=ai;have KY:=beq_true.1 sV;subst KY;obtain⟨loc,ad,kR,hm,bw,mg,mb,hex,oP,pD⟩:=aC;subst bw;have ua:=oP (by omega);subst ua;split at ai
      ·replace ai:=dV ai;obtain⟨iW,ai⟩:=ai;have Uv:=beq_true.1 iW;split at ai
       ·rename_i new fK;split at ai
        ·rename_i g hw;cases ai;obtain⟨b6,oS⟩:=Ti (P:=P) rel qy pA fK ag (by omega) w rfl;obtain⟨aZ,s1,s2,dE⟩:=y1 (P:=P) rel hm hw b6;refine⟨.int .i64 ((n+1:Nat) :Int),aZ,?_,s2,dE,rfl⟩;simp only[Builtin.copy_,h0,List.getElem?_toArray,List.getElem?_cons_zero,List.getElem?_cons_succ,Sem.run_bind,Gh,Result.andThen_ok,F0,Ua,eR,Uv,oS,s1,Sem.run_pure,goInt]
        ·cases ai
       ·cases ai
      ·split at ai
       ·rename_i xid xoff ar5 xcap Et xex;replace ai:=dV ai;obtain⟨x1,ai⟩:=ai;have ahG:=beq_true.1 (fR x1).1;subst ahG;simp only[lx]at qy;cases qy;split at ai
        ·rename_i cs rC;split at ai
         ·rename_i g hw;cases ai;obtain⟨vs,jf,oS⟩:=Tj (P:=P) rel pA rC ag (by omega)
          have c':cs≠[]:=λe=>by have ay:=(bT.Az _ _ _ rC).1;have aI:0<(n+1) *ie.size:=Nat.mul_pos (by omega) (ec.1 (fR x1).2);rw[e]at ay;simp only[List.length_nil]at ay;omega
          obtain⟨aZ,s1,s2,dE⟩:=HP (P:=P) (E:=E) rel hm c' hw jf;refine⟨.int .i64 ((n+1:Nat) :Int),aZ,?_,s2,dE,rfl⟩;simp only[Builtin.copy_,h0,List.getElem?_toArray,List.getElem?_cons_zero,List.getElem?_cons_succ,Sem.run_bind,Gh,Result.andThen_ok,F0,Ua,eR,oS w rfl,s1,Sem.run_pure,goInt]
         ·cases ai
        ·cases ai
       ·cases ai
     ·cases ai
  ·cases ai
 ·cases ai
theorem asg{zero:List aa}{z:Array Value}(aP:cy σ μ zero z.toList)(n:Nat)(c':zero≠[]) :cy σ μ (j5 n zero) (Builtin.zeroCells z n).toList:=PC aP n c'
theorem acA(ok:dL P E σ)(rel:dU σ μ h w.heap){t:TypeId}{x:aa}{bC:ae}{l3:Value}{argTypes:Array TypeId}(h0:argTypes[0]? =some t)(rt:TypeId)
  (ai:pf E h t x=some bC) (ag:bL σ μ x l3) :
  ∃aZ,(Builtin.clear_ argTypes rt #[l3]).run P w=.ok (.tuple #[]) aZ/\dC w aZ/\ej σ μ h w.heap μ bC aZ.heap:=by
 unfold pf at ai;split at ai
 ·cases ai
 ·rename_i i aW;have ut:=ir (P:=P) ok aW w;split at ai
  ·cases ai;have bw:l3=_:=ag;subst bw;exact⟨w,by simp[Builtin.clear_,h0,ut],dC.refl _,ej.refl rel⟩
  ·cases ai;have bw:l3=_:=ag;subst bw;exact⟨w,by simp[Builtin.clear_,h0,ut],dC.refl _,ej.refl rel⟩
  ·rename_i id off len cap cT ex;obtain⟨loc,ad,kR,hm,bw,mg,mb,hex,oP,pD⟩:=ag;subst bw;split at ai
   ·cases ai;exact⟨w,by simp[Builtin.clear_,h0,ut],dC.refl _,ej.refl rel⟩
   ·rename_i n;have ua:=oP (by omega);subst ua;split at ai
    ·rename_i e aC;split at ai
     ·cases ai
     ·rename_i ie fY;obtain⟨z,aP,_,jk⟩:=yx (P:=P) ok fY;have jg:ie.zero.length=ie.size:=(ok.ty _ _ fY).y2;have il:z.cells.size=ie.size:=by rw[<-jg,(jk μ).length,Array.length_toList]
      replace ai:=dV ai;obtain⟨sV,ai⟩:=ai;have KY:=beq_true.1 sV;subst KY;split at ai
      ·rename_i cz rT;replace ai:=dV ai;obtain⟨iW,ai⟩:=ai;have Uv:=beq_true.1 iW;obtain⟨aZ,s1,s2,dE⟩:=y1 (P:=P) rel hm ai (yo _);refine⟨aZ,?_,s2,dE⟩
       have oR:(Builtin.zeroCells z.cells (n+1)).toList=mJ (n+1) 0:=by
        have ahU:z.cells.toList=[.int .u8 0]:=by have:=jk μ;rw[rT]at this;obtain⟨y,en,aG,aT,bJ⟩:=this;have adp:y=_:=aT;rw[aG,cy.j1.1 bJ,adp];rfl
        have ahV:z.cells= #[.int .u8 0]:=Array.toList_inj.1 (by rw[ahU]);apply List.ext_getElem?;intro j;rw[Jn];have ae8:dN 0 j=0:=by simp[jE]
        rw[ae8,ahV];by_cases aO:j<n+1
        ·rw[if_pos aO];simp[Builtin.zeroCells,aO,Nat.mod_one]
        ·rw[if_neg aO];simp[Builtin.zeroCells,aO]
       simp[Builtin.clear_,h0,ut,aC,aP,oR,s1]
      ·replace ai:=dV ai;obtain⟨aI,ai⟩:=ai;have nv:=ec.1 aI;have c':ie.zero≠[]:=λe=>by rw[e]at jg;simp at jg;omega
       have an:=asg (jk μ) (n+1) c'
       have fA:j5 (n+1) ie.zero≠[]:=λe=>by have:=wP ie.zero (n+1);rw[e,jg]at this;have nw:0<(n+1) *ie.size:=Nat.mul_pos (by omega) nv;simp only[List.length_nil]at this;omega
       obtain⟨aZ,s1,s2,dE⟩:=HP (P:=P) (E:=E) rel hm fA ai an;exact⟨aZ,by simp[Builtin.clear_,h0,ut,aC,aP,s1],s2,dE⟩
    ·cases ai
  ·rename_i id;obtain⟨loc,hm,bw⟩:=ag;subst bw;split at ai
   ·rename_i es clock aN;cases ai;obtain⟨cV,aG,aT,bJ⟩:=B4 (P:=P) rel hm aN;obtain⟨s1,s2⟩:=HI (P:=P) rel hm aN (es2:=[]) (clock2:=clock) (cV:= #[]) rfl;exact⟨{w with heap:=w.heap.setIfInBounds loc.b (.map #[] clock)},by simp[Builtin.clear_,h0,ut,bJ,s1],⟨rfl,rfl,rfl⟩,s2⟩
   ·cases ai
  ·cases ai
end
section
variable{P:Program}{E:Env}{σ:Nat->Int}{μ:Map}{h:ae}{w:World}{r:bE}{tmps:Array Value}
def RF(P:Program)(σ:Nat->Int)(μ:Map)(h:ae)(w:World)(tmps:Array Value)(o:Oper) :o9->Prop
 | .value v bC=>∃q aZ bS,(execOp (gF tmps) o).run P w=.ok (.value q) aZ/\dC w aZ/\ej σ μ h w.heap bS bC aZ.heap/\bL σ bS v q
 | .skip bC=>∃aZ bS,(execOp (gF tmps) o).run P w=.ok .skip aZ/\dC w aZ/\ej σ μ h w.heap bS bC aZ.heap
 | .call f args=>∃u us,bL σ μ f u/\cy σ μ args us.toList/\execOp (gF tmps) o=(do let d<-Deferred.ofValue u us;invoke d.target d.args)
 | .bad=>True
theorem aa8(ok:dL P E σ)(rel:dU σ μ h w.heap)(aN:k' E μ)(an:∀i,bL σ μ (r.get i) (tmps.getD i undef))(o:Oper) :
  RF P σ μ h w tmps o (oE E r h o.op):=by
 have O:∀{x:Operand} {v:aa},ek E r x=some v->bL σ μ v (gF tmps x):=λe=>uS aN an e
 obtain⟨dst,op,ty,pos,after,guard⟩:=o;cases op<;>simp only[oE]<;>try trivial
 case store t a x=>
  split
  ·rename_i id off v bc ag;cases aA:storeT E h t id off v with
   |none=>trivial
   |some bC=>
    obtain⟨loc,hm,e⟩:=O bc;obtain⟨aZ,h1,ab,al⟩:=apq (P:=P) ok rel hm aA (O ag);exact⟨aZ,μ,by simp[execOp,Instr.storeAt,Instr.sureAddr,e,h1],ab,al⟩
  ·trivial
 case mapUpdate t m k x=>
  split
  ·rename_i fB et cG h1 ab al;cases aA:td E h t fB et cG with
   |none=>trivial
   |some bC=>
    obtain⟨aZ,aG,aT,bJ⟩:=VJ (P:=P) ok rel aA (O h1) (O ab) (O al);exact⟨aZ,μ,by simp[execOp,aG],aT,bJ⟩
  ·trivial
 case insert t m k x=>
  split
  ·rename_i fB et cG h1 ab al;cases aA:td E h t fB et cG with
   |none=>trivial
   |some bC=>
    obtain⟨aZ,aG,aT,bJ⟩:=VJ (P:=P) ok rel aA (O h1) (O ab) (O al);exact⟨aZ,μ,by simp[execOp,aG],aT,bJ⟩
  ·trivial
 case call c=>
  obtain⟨callee,args,argTypes⟩:=c
  have EO:∀{x:aa},lI E r args.toList=some [x]->∃u,args.map (gF tmps)= #[u]/\bL σ μ x u:=by intro x ag;obtain⟨u,us,e,jj,r8⟩:=uT (σ:=σ) aN an ag;rw[cy.j1.1 r8]at e;refine⟨u,?_,jj⟩;apply Array.toList_inj.1;rw[Array.toList_map,e]
  have Jd:∀{x y:aa},lI E r args.toList=some [x,y]->∃u v,args.map (gF tmps)= #[u,v]/\bL σ μ x u/\bL σ μ y v:=by intro x y ag;obtain⟨u,us,e,jj,v,vs,aT,rv,r8⟩:=uT (σ:=σ) aN an ag;rw[cy.j1.1 r8]at aT;refine⟨u,v,?_,jj,rv⟩;apply Array.toList_inj.1;rw[Array.toList_map,e,aT]
  cases callee with
  |builtin b=>
   simp only;split
   ·rename_i s x bc;split
    ·rename_i t u h0 h1;cases aA:h2 E h t u s x with
     |none=>trivial
     |some p=>
      obtain⟨v,bC⟩:=p;obtain⟨us,l3,e,cS,dm⟩:=Jd bc;obtain⟨q,aZ,bS,aG,aT,bJ,e0⟩:=abl (P:=P) ok rel h0 h1 ty aA cS dm;exact⟨q,aZ,bS,by simp[execOp,resolve,invoke,builtin,e,aG],aT,bJ,e0⟩
    ·trivial
   ·rename_i d x bc;split
    ·rename_i t h0;cases aA:pg E h t d x with
     |none=>trivial
     |some p=>
      obtain⟨v,bC⟩:=p;obtain⟨us,l3,e,cS,dm⟩:=Jd bc;obtain⟨q,aZ,aG,aT,bJ,e0⟩:=acP (P:=P) ok rel h0 ty aA cS dm;exact⟨q,aZ,μ,by simp[execOp,resolve,invoke,builtin,e,aG],aT,bJ,e0⟩
    ·trivial
   ·rename_i x bc;split
    ·rename_i t h0;cases aA:pf E h t x with
     |none=>trivial
     |some bC=>
      obtain⟨l3,e,cS⟩:=EO bc;obtain⟨aZ,aG,aT,bJ⟩:=acA (P:=P) ok rel h0 ty aA cS;exact⟨.tuple #[],aZ,μ,by simp[execOp,resolve,invoke,builtin,e,aG],aT,bJ,rfl⟩
    ·trivial
   ·rename_i m k bc;split
    ·rename_i t h0;cases aA:vN E h t m k with
     |none=>trivial
     |some bC=>
      obtain⟨us,l3,e,cS,dm⟩:=Jd bc;obtain⟨aZ,aG,aT,bJ⟩:=ac' (P:=P) ok rel argTypes h0 ty aA cS dm;exact⟨.tuple #[],aZ,μ,by simp[execOp,resolve,invoke,builtin,e,aG],aT,bJ,rfl⟩
    ·trivial
   ·trivial
  |value f=>
   simp only;split
   ·rename_i ht cY aJ bc;exact⟨gF tmps f,args.map (gF tmps),O aJ,by rw[Array.toList_map];exact uT (σ:=σ) aN an bc,by simp[execOp,resolve]⟩
   ·trivial
  |invoke _ _=>trivial
theorem amA(ok:dL P E σ)(rel:dU σ μ h w.heap)(aN:k' E μ)(an:∀i,bL σ μ (r.get i) (tmps.getD i undef))(o:Oper) :
  RF P σ μ h w tmps o (jN E r h o.op):=by
 unfold jN;split
 ·cases ay:fi E r h o.op with
  |none=>trivial
  |some v=>
   obtain⟨q,h1,ab⟩:=akN (P:=P) ok rel aN an ay;exact⟨q,w,μ,h1,dC.refl _,ej.refl rel,ab⟩
 ·cases aw:kA E r o.op with
  |none=>trivial
  |some p=>
   obtain⟨v,ob⟩:=p;obtain⟨x,obj,room,aZ,h1,ab,al,aE⟩:=VS (P:=P) ok aN an aw w;have ag:=aE (μ.az h.next ⟨w.heap.size,0,room⟩) h.next (Map.q7 _ _ (rel.hW _ (Nat.le_refl _))) (Map.iS _ _ _);exact⟨x,aZ,_,h1,al,by rw[ab];exact rel.new ag.2,ag.1⟩
 ·exact aa8 ok rel aN an o
end
def vA(μ:Map) :List Nat->List Deferred->Prop
 |[],ds=>ds=[]
 |d::ids,ds=>∃loc zq,ds={target:=.collected loc.b,args:= #[]}::zq/\μ d=some loc/\vA μ ids zq
theorem vA.ext{μ bS:Map}(h:Ext μ bS) :∀{ids:List Nat} {ds:List Deferred},vA μ ids ds->vA bS ids ds
 |[],_,r=>r
 |d::ids,_,⟨loc,zq,e,hm,r⟩=>⟨loc,zq,e,h _ _ hm,vA.ext h r⟩
theorem k'.ext{E:Env}{μ bS:Map}(h:Ext μ bS)(aN:k' E μ) :k' E bS:=λg ay=>let⟨room,e⟩:=aN g ay;⟨room,h _ _ e⟩
structure kM(E:Env)(σ:Nat->Int)(μ:Map)(s:cU)(a:Act)(w:World) :Prop where
 g:k' E μ
 h:dU σ μ s.h w.heap
 r:l6 σ μ s.n s.r a.tmps
 d:vA μ s.ds a.defers
def ss(μ:Map)(ro:Option Nat)(b:Frame) :Prop:=
 match ro with
 |none=>b.roundOf=none
 |some l=>∃loc,μ l=some loc/\b.roundOf=some loc.b
theorem ss.ext{μ bS:Map}(h:Ext μ bS){ro:Option Nat}{b:Frame}(r:ss μ ro b) :ss bS ro b:=by
 cases ro with
 |none=>exact r
 |some l=>obtain⟨loc,h1,ab⟩:=r;exact⟨loc,h _ _ h1,ab⟩
def vw(P:Program)(m:Machine)(b:Frame)(k:List Item)(cs:List Frame)(a:Act)(w:World) :eb->Prop
 | .normal=>Steps P m (lone (b.atR a k) cs w)
 | .exit id=>∃k₁,exitTo id k₁=exitTo id k/\Steps P m (lone (b.atR a (.code (.exit id)::k₁)) cs w)
 | .goto l=>∃k₁,gotoIn l k₁=gotoIn l k/\Steps P m (lone (b.atR a (.code (.goto l)::k₁)) cs w)
 | .ret=>∃k₁,Steps P m (lone (b.atR a (.code .ret::k₁)) cs w)
theorem vw.of_steps{P:Program}{m fB:Machine}{b:Frame}{k:List Item}{cs:List Frame}{a:Act}{w:World}{x:eb}(h:Steps P m fB)(r:vw P fB b k cs a w x) :vw P m b k cs a w x:=by
 cases x with
 |normal=>exact h.trans r
 |exit id=>obtain⟨k₁,e,r⟩:=r;exact⟨k₁,e,h.trans r⟩
 |goto l=>obtain⟨k₁,e,r⟩:=r;exact⟨k₁,e,h.trans r⟩
 |ret=>obtain⟨k₁,r⟩:=r;exact⟨k₁,h.trans r⟩
def Ends(P:Program)(E:Env)(σ:Nat->Int)(b:Frame)(μ:Map)(h:ae)(w:World)(m:Machine)(k:List Item)(cs:List Frame)(x:eb)(aY:cU) :Prop:=
 ∃bS aZ e',ej σ μ h w.heap bS aY.h aZ.heap/\dC w aZ/\kM E σ bS aY e' aZ/\vw P m b k cs e' aZ x
theorem Ends.of_steps{P:Program}{E:Env}{σ:Nat->Int}{b:Frame}{μ:Map}{h:ae}{w:World}{m fB:Machine}{k:List Item}{cs:List Frame}{x:eb}{aY:cU}
  (aA:Steps P m fB) (r:Ends P E σ b μ h w fB k cs x aY) :Ends P E σ b μ h w m k cs x aY:=by
 obtain⟨bS,aZ,e',h1,ab,al,aE⟩:=r;exact⟨bS,aZ,e',h1,ab,al,aE.of_steps aA⟩
theorem Ends.after{P:Program}{E:Env}{σ:Nat->Int}{b:Frame}{μ aaR:Map}{h UK:ae}{w w₁:World}{m m₁:Machine}{k:List Item}{cs:List Frame}{x:eb}{aY:cU}
  (hm:ej σ μ h w.heap aaR UK w₁.heap) (al:dC w w₁) (aA:Steps P m m₁) (r:Ends P E σ b aaR UK w₁ m₁ k cs x aY) :Ends P E σ b μ h w m k cs x aY:=by
 obtain⟨bS,aZ,e',aG,aT,bJ,e0⟩:=r;exact⟨bS,aZ,e',hm.trans aG,al.trans aT,bJ,e0.of_steps aA⟩
abbrev inv(u:Value)(us:Array Value) :Sem Next:=do let d<-Deferred.ofValue u us;invoke d.target d.args
def vy(P:Program)(σ:Nat->Int)(μ:Map)(h:ae)(w:World)(u:Value)(us:Array Value)(v:aa)(bC:ae) :Prop:=
 (∃f args,(inv u us).run P w=.ok (.enter f args) w/\∀cs,∃fr q aZ bS,Steps P (lone (Frame.enter P f args .normal) cs w) (lone fr cs aZ)/\fr.fn=f/\fr.leaving P aZ (.returned q)/\
   dC w aZ/\ej σ μ h w.heap bS bC aZ.heap/\bL σ bS v q)\/
 (∃l f tmps assign body,(inv u us).run P w=.ok (.round l f tmps assign body) w/\∀c cs,∃q aZ bS,Steps P (lone (Frame.round l f tmps assign body .normal) (c::cs) w) (lone (c.finish q) cs aZ)/\
   dC w aZ/\ej σ μ h w.heap bS bC aZ.heap/\bL σ bS v q)\/
 (∃q aZ bS,(inv u us).run P w=.ok (.value q) aZ/\dC w aZ/\ej σ μ h w.heap bS bC aZ.heap/\bL σ bS v q)
structure lB(P:Program)(E:Env)(σ:Nat->Int)(F:gT) :Prop where
 code:∀ro c s x aY,F.code ro c s=some (x,aY)->∀μ w a b k cs,kM E σ μ s a w->ss μ ro b->Ends P E σ b μ s.h w (lone (b.atR a (.code c::k)) cs w) k cs x aY
 call:∀f args h v bC,F.call f args h=some (v,bC)->∀μ w u us,k' E μ->dU σ μ h w.heap->bL σ μ f u->cy σ μ args us.toList->vy P σ μ h w u us v bC
section
variable{P:Program}{E:Env}{σ:Nat->Int}{μ:Map}{h bC:ae}{w:World}
def B6(fr:Frame)(cs:List Frame)(w:World) :GStep:=.go {frame:=fr,callers:=cs,status:=.running,dying:=none} w
theorem Sj{u:Value}{us:Array Value}{v:aa}(aH:vy P σ μ h w u us v bC)(fr:Frame)(cs:List Frame)
  (av:(∃ops l k,fr.todo=.inRegion ops l::k)\/∃l k,fr.todo=.inRangeFunc l::k) :
  ∃q aZ bS,dC w aZ/\ej σ μ h w.heap bS bC aZ.heap/\bL σ bS v q/\
   ∀m,(∀sI lk yW,(stepG.apply P true fr cs none (inv u us) w).bare=B6 sI lk yW->step P m=.next (lone sI lk yW))->Steps P m (lone (fr.finish q) cs aZ):=by
 rcases aH with⟨f,args,an,um⟩ |⟨l,f,tmps,assign,body,an,um⟩ |⟨q,aZ,bS,an,al,hm,ai⟩
 ·obtain⟨asP,q,aZ,bS,aA,iD,ay,al,hm,ai⟩:=um (fr::cs);refine⟨q,aZ,bS,al,hm,ai,λm oa=> ?_⟩
  have:=oa (Frame.enter P f args .normal) (fr::cs) w (by
   rcases av with⟨ops,l,k,e⟩ |⟨l,k,e⟩<;>simp[stepG.apply,an,e,B6])
  exact .head this (aA.trans (.one (step_leave_returned ay)))
 ·obtain⟨q,aZ,bS,aA,al,hm,ai⟩:=um fr cs;refine⟨q,aZ,bS,al,hm,ai,λm oa=> ?_⟩
  have:=oa (Frame.round l f tmps assign body .normal) (fr::cs) w (by
   rcases av with⟨ops,l,k,e⟩ |⟨l,k,e⟩<;>simp[stepG.apply,an,e,B6])
  exact .head this aA
 ·refine⟨q,aZ,bS,al,hm,ai,λm oa=> ?_⟩
  exact .one (oa (fr.finish q) cs aZ (by
   rcases av with⟨ops,l,k,e⟩ |⟨l,k,e⟩<;>simp[stepG.apply,an,e,B6]))
theorem l6.put{n:Nat}{r:bE}{tmps:Array Value}{d:Nat}{v:aa}{q:Value}(an:l6 σ μ n r tmps)(aC:d<n)(ai:bL σ μ v q) :l6 σ μ n (r.set d v) (tmps.setIfInBounds d q):=by
 refine⟨by simpa using an.1,λi=> ?_⟩;by_cases e:i=d
 ·subst e;have h1:bE.get (bu.set r i v) i=v:=by simp[bE.get,bu.lL]
  have ab:(tmps.setIfInBounds i q).getD i undef=q:=by
   have:i<tmps.size:=by rw[an.1];exact aC
   simp[this]
  rw[h1,ab];exact ai
 ·have h1:bE.get (bu.set r d v) i=bE.get r i:=by simp[bE.get,bu.lL,e]
  have ab:(tmps.setIfInBounds d q).getD i undef=tmps.getD i undef:=by simp[Array.getElem?_setIfInBounds_ne (Ne.symm e)]
  rw[h1,ab];exact an.2 i
theorem HJ{s aY:cU}{a:Act}{d:Option Tmp}{v:aa}{q:Value}{bC:ae}{aZ:World}{bS:Map}(aA:p0 s d v bC=some aY)(rel:kM E σ μ s a w)
  (hm:ej σ μ s.h w.heap bS bC aZ.heap) (ai:bL σ bS v q) :kM E σ bS aY (a.put d q) aZ/\aY.h=bC:=by
 unfold p0 at aA;cases d with
 |none=>
  cases aA;exact⟨⟨rel.g.ext hm.ext,hm.rel,rel.r.ext hm.ext,rel.d.ext hm.ext⟩,rfl⟩
 |some d=>
  simp only at aA;replace aA:=dV aA;obtain⟨aj,aA⟩:=aA;cases aA;exact⟨⟨rel.g.ext hm.ext,hm.rel,(rel.r.ext hm.ext).put (dM.1 aj) ai,rel.d.ext hm.ext⟩,rfl⟩
theorem abV{v:aa}{b:Bool} :bL σ μ v (.bool b)↔v=.bool b:=by
 constructor
 ·intro ai
  cases v<;>first
   |(have e:Value.bool b=_:=ai;cases e;rfl;done)
   |(have e:Value.bool b=_:=ai;cases e;done)
   |(have e:=ai.2;cases e;done)
   |(obtain⟨_,_,e⟩:=ai;cases e;done)
   |(obtain⟨_,e,_⟩:=ai;cases e;done)
   |(obtain⟨_,_,e,_⟩:=ai;cases e;done)
   |(obtain⟨_,_,_,_,e,_⟩:=ai;cases e;done)
 ·rintro rfl;rfl
theorem TC{n:Nat}{r:bE}{tmps:Array Value}(an:l6 σ μ n r tmps)(ops:Array Oper)(o:Oper) :Region.wanted o (yielded ops tmps)=h5 ops r o:=by
 unfold Region.wanted h5;cases aN:o.guard with
 |none=>rfl
 |some L5=>
  obtain⟨j,want⟩:=L5;simp only;unfold yielded;cases aO:ops[j]? with
  |none=>rfl
  |some g=>
   simp only[Option.bind_some];cases aC:g.dst with
   |none=>rfl
   |some d=>
    simp only[Option.bind_some];have ai:=an.2 d;cases aW:tmps[d]? with
    |none=>
     have e:tmps.getD d undef=undef:=by simp[aW]
     rw[e]at ai;generalize hE:r.get d=x at ai;have:∀b,x≠.bool b:=λb e=>by subst e;have:undef=Value.bool b:=ai;cases this
     cases x<;>first|rfl|exact absurd rfl (this _)
    |some y=>
     have e:tmps.getD d undef=y:=by simp[aW]
     rw[e]at ai;by_cases aj:∃b,y=.bool b
     ·obtain⟨b,rfl⟩:=aj;rw[abV.1 ai];rfl
     ·have h1:∀b,r.get d≠.bool b:=λb e=>aj ⟨b,by rw[e]at ai;exact ai⟩
      have ab:∀b,y≠.bool b:=λb e=>aj ⟨b,e⟩
      generalize r.get d=x at h1;have l:∀z:Option Bool,z=none->(z==some want)=false:=λz aP=>by rw[aP];rfl
      cases x<;>first
       |exact absurd rfl (h1 _)
       |(refine l _ ?_;cases y<;>first|rfl|exact absurd rfl (ab _))
theorem BW(b:Frame)(a:Act) :a.eval=gF a.tmps:=by funext x;cases x<;>rfl
theorem amz{r:bE}{o:Oper}{c:Call}(bg:o.op=.defer c) :jN E r h o.op=.bad:=by rw[bg];rfl
theorem WC{F:gT}(ok:dL P E σ)(eF:lB P E σ F){ops:Array Oper}{i:Nat}{rest:List Nat}{o:Oper}(af:ops[i]? =some o){s aY:cU}(aA:kB E F ops o s=some aY)
  {a:Act} (rel:kM E σ μ s a w) (b:Frame) (k:List Item) (cs:List Frame) :
  ∃bS aZ e',ej σ μ s.h w.heap bS aY.h aZ.heap/\dC w aZ/\kM E σ bS aY e' aZ/\
   Steps P (lone (b.atR a (.inRegion ops (i::rest)::k)) cs w) (lone (b.atR e' (.inRegion ops rest::k)) cs aZ):=by
 unfold kB at aA;have TY:=TC rel.r ops o;split at aA
 ·rename_i aN;obtain⟨an,he⟩:=HJ (q:=undef) aA rel (ej.refl rel.h) rfl;refine⟨μ,w,a.put o.dst undef,by rw[he];exact ej.refl rel.h,dC.refl _,an,?_⟩;have:=stepR_op_skip (P:=P) (b:=b) (a:=a) (k:=k) (cs:=cs) (w:=w) (ops:=ops) (i:=i) (rest:=rest) (by rw[af];simp[TY,aN]);rw[af]at this;exact .one this
 ·rename_i aN;have s4:=amA (P:=P) (w:=w) ok rel.h rel.g rel.r.2 o;have db:∀c,o.op≠.defer c:=λc aH=>by rw[amz aH]at aA;cases aA
  have hw:Region.wanted o (yielded ops a.tmps)=true:=by rw[TY,aN]
  have xX:=stepGR_op (P:=P) (b:=b) (k:=k) (cs:=cs) (w:=w) (rest:=rest) af hw;rw[Oper.semAt_eq _ _ _ db,BW b a]at xX
  have sW:∀v,(b.atR a (.inRegion ops (i::rest)::k)).finish v=b.atR (a.put o.dst v) (.inRegion ops rest::k):=by intro v;rw[Frame.finish_atR,af];rfl
  split at aA
  ·rename_i v h1 heq;rw[heq]at s4;obtain⟨q,aZ,bS,aG,aT,bJ,e0⟩:=s4;obtain⟨an,he⟩:=HJ aA rel bJ e0;refine⟨bS,aZ,a.put o.dst q,by rw[he];exact bJ,aT,an,.one (step_lone_go ?_)⟩;rw[xX,<-sW];simp[stepG.apply,aG]
  ·rename_i h1 heq;rw[heq]at s4;obtain⟨aZ,bS,aG,aT,bJ⟩:=s4;obtain⟨an,he⟩:=HJ (q:=undef) aA rel bJ rfl;refine⟨bS,aZ,a.put o.dst undef,by rw[he];exact bJ,aT,an,.one (step_lone_go ?_)⟩;rw[xX,<-sW];simp[stepG.apply,aG]
  ·rename_i f args heq;rw[heq]at s4;obtain⟨u,us,aG,aT,bJ⟩:=s4;split at aA
   ·rename_i v h1 um;have aH:=eF.call _ _ _ _ _ um μ w u us rel.g rel.h aG aT;obtain⟨q,aZ,bS,bo,cp,ed,gh⟩:=Sj aH (b.atR a (.inRegion ops (i::rest)::k)) cs (.inl ⟨_,_,_,rfl⟩);obtain⟨an,he⟩:=HJ aA rel cp ed;refine⟨bS,aZ,a.put o.dst q,by rw[he];exact cp,bo,an,?_⟩;rw[<-sW];refine gh _ λsI lk yW jX=>step_lone_go ?_
    rw[xX,bJ];exact jX
   ·cases aA
  ·cases aA
end
section
variable{P:Program}{E:Env}{σ:Nat->Int}{μ:Map}{h bC:ae}{w:World}
def IA(P:Program)(E:Env)(σ:Nat->Int)(F:gT) :Prop:=
 ∀ops s aY,ud E F ops s=some aY->∀μ w a (b:Frame) id k cs,kM E σ μ s a w->Ends P E σ b μ s.h w (lone (b.atR a (.code (.region id ops true)::k)) cs w) k cs .normal aY
theorem WE{F:gT}(ok:dL P E σ)(eF:lB P E σ F){ops:Array Oper}(b:Frame)(k:List Item)(cs:List Frame) :
  ∀(l:List Oper) (i:Nat) (s aY:cU),ops.toList.drop i=l->mN E F ops l s=some aY->∀μ w a,kM E σ μ s a w->
   Ends P E σ b μ s.h w (lone (b.atR a (.inRegion ops (List.range' i l.length)::k)) cs w) k cs .normal aY
 |[],i,s,aY,ay,he,μ,w,a,rel=>by simp only[mN]at he;cases he;exact⟨μ,w,a,ej.refl rel.h,dC.refl _,rel,.one stepR_region_end⟩
 |o::rest,i,s,aY,ay,he,μ,w,a,rel=>by
  simp only[mN]at he;split at he
  ·rename_i s1 h1
   have af:ops[i]? =some o:=by
    have:(ops.toList.drop i)[0]? =some o:=by rw[ay];rfl
    simpa using this
   have aC:ops.toList.drop (i+1)=rest:=by
    have:(ops.toList.drop i).drop 1=rest:=by rw[ay];rfl
    simpa [List.drop_drop]using this
   obtain⟨bS,aZ,e',c5,dr,eu,e2⟩:=WC ok eF af h1 rel b k cs (rest:=List.range' (i+1) rest.length);have:=WE ok eF b k cs rest (i+1) s1 aY aC he bS aZ e' eu;exact this.after c5 dr e2
  ·cases he
theorem anU{F:gT}(ok:dL P E σ)(eF:lB P E σ F){ops:Array Oper}(b:Frame)(k:List Item)(cs:List Frame){s aY:cU}(he:mN E F ops ops.toList s=some aY)
  {a:Act} (rel:kM E σ μ s a w) (id:Nat) :Ends P E σ b μ s.h w (lone (b.atR a (.code (.region id ops false)::k)) cs w) k cs .normal aY:=by
 have:=WE ok eF b k cs ops.toList 0 s aY rfl he μ w a rel;rw[Array.length_toList,<-List.range_eq_range']at this;exact this.of_steps (.one stepR_region)
theorem apo{b:Frame}{a:Act}{k:List Item}{cs:List Frame}{c:Code} :
  step P (lone (b.atR a (.code (.scope c)::k)) cs w)=.next (lone (b.atR a (.code c:: .inScope c::k)) cs w):=
 step_lone_go (by simp[stepG,stepG.exec,Frame.atR])
theorem apl{b:Frame}{a:Act}{k:List Item}{cs:List Frame}{c:Code} :
  step P (lone (b.atR a (.inScope c::k)) cs w)=.next (lone (b.atR a k) cs w):=
 step_lone_go (by simp[stepG,stepG.exec,Frame.atR])
theorem vw.pass{b:Frame}{m:Machine}{y:Item}{k:List Item}{cs:List Frame}{a:Act}{x:eb}(aq:y.plain=true)(ag:x≠.normal)(r:vw P m b (y::k) cs a w x) :vw P m b k cs a w x:=by
 cases x with
 |normal=>exact absurd rfl ag
 |exit id=>obtain⟨k₁,e,r⟩:=r;exact⟨k₁,e.trans (by cases y<;>simp_all [exitTo,Item.plain]),r⟩
 |goto l=>obtain⟨k₁,e,r⟩:=r;exact⟨k₁,e.trans (by cases y<;>simp_all [gotoIn,Item.plain]),r⟩
 |ret=>exact r
theorem GP{F:gT}(eF:lB P E σ F)(ro:Option Nat)(b:Frame)(body:Code)(k:List Item)(cs:List Frame) :
  ∀(n:Nat) (s aY:cU) (x:eb),pO n (F.code ro body) s=some (x,aY)->∀μ w a,kM E σ μ s a w->ss μ ro b->
   ∃bS aZ e',ej σ μ s.h w.heap bS aY.h aZ.heap/\dC w aZ/\kM E σ bS aY e' aZ/\
    (x=.normal->Steps P (lone (b.atR a (.code body:: .inLoop body::k)) cs w) (lone (b.atR e' (.code body:: .inLoop body::k)) cs aZ))/\
    (x≠.normal->vw P (lone (b.atR a (.code body:: .inLoop body::k)) cs w) b k cs e' aZ x)
 |0,s,aY,x,he,μ,w,a,rel,u1=>by obtain⟨bS,aZ,e',c5,dr,eu,e2⟩:=eF.code _ _ _ _ _ he μ w a b (.inLoop body::k) cs rel u1;refine⟨bS,aZ,e',c5,dr,eu,λag=> ?_,λag=>e2.pass rfl ag⟩;subst ag;exact Steps.trans e2 (.one stepR_inLoop)
 |n+1,s,aY,x,he,μ,w,a,rel,u1=>by
  simp only[pO]at he;split at he
  ·rename_i s1 h1;obtain⟨hY,ck,ao,c5,dr,eu,e2,_⟩:=GP eF ro b body k cs n s s1 .normal h1 μ w a rel u1;obtain⟨PE,dT,a2,dR,eN,gp,hU,n5⟩:=GP eF ro b body k cs n s1 aY x he hY ck ao eu (u1.ext c5.ext);exact⟨PE,dT,a2,c5.trans dR,dr.trans eN,gp,λag=>(e2 rfl).trans (hU ag),λag=>(n5 ag).of_steps (e2 rfl)⟩
  ·rename_i c';obtain⟨hY,ck,ao,c5,dr,eu,e2,Mq⟩:=GP eF ro b body k cs n s aY x he μ w a rel u1;exact⟨hY,ck,ao,c5,dr,eu,e2,Mq⟩
theorem XF{F:gT}(eF:lB P E σ F)(ro:Option Nat)(b:Frame)(body:Code)(k:List Item)(cs:List Frame) :
  ∀(n:Nat) (c:Code) (s aY:cU) (x:eb),wS F ro body n c s=some (x,aY)->∀μ w a,kM E σ μ s a w->ss μ ro b->
   Ends P E σ b μ s.h w (lone (b.atR a (.code c:: .inScope body::k)) cs w) k cs x aY
 |0,c,s,aY,x,he,_,_,_,_,_=>by cases he
 |n+1,c,s,aY,x,he,μ,w,a,rel,u1=>by
  simp only[wS]at he;split at he
  ·rename_i l s1 h1;obtain⟨hY,ck,ao,c5,dr,eu,k₁,e,e2⟩:=eF.code _ _ _ _ _ h1 μ w a b (.inScope body::k) cs rel u1;split at he
   ·rename_i rest aJ;have:=XF eF ro b body k cs n rest s1 aY x he hY ck ao eu (u1.ext c5.ext);refine this.after c5 dr (e2.trans (.one (stepR_goto ?_)));rw[e];simp[gotoIn,aJ]
   ·rename_i aJ;cases he;refine⟨hY,ck,ao,c5,dr,eu,k₁,?_,e2⟩;rw[e];simp[gotoIn,aJ]
  ·rename_i c';obtain⟨hY,ck,ao,c5,dr,eu,e2⟩:=eF.code _ _ _ _ _ he μ w a b (.inScope body::k) cs rel u1;refine⟨hY,ck,ao,c5,dr,eu,?_⟩;cases x with
   |normal=>exact Steps.trans e2 (.one apl)
   |exit id=>obtain⟨k₁,e,e2⟩:=e2;exact⟨k₁,e.trans (by simp[exitTo]),e2⟩
   |goto l=>exact absurd he (c' l aY)
   |ret=>exact e2
def V2:Obj->Bool
 | .cells .. =>false
 |_=>true
theorem zB{b:Nat}{x:Obj}(ag:w.heap[b]? =some x)(aw:V2 x=true) :(getObj b).run P w=.ok x w:=by cases x<;>first|(cases aw;done) |simp[getObj,Sem.run,ag]
theorem Hr(rel:dU σ μ h w.heap){id:Nat}{loc:Loc}{o cg:bT}{x:Obj}(hm:μ id=some loc)(bg:h.get id=o)(ay:o.live=true)(an:hq σ μ cg loc (some x)){y:Obj}(aq:w.heap[loc.b]? =some y)(aw:V2 y=true) :
  (setObj loc.b x).run P w=.ok () {w with heap:=w.heap.setIfInBounds loc.b x}/\ej σ μ h w.heap μ (h.put id cg) (w.heap.setIfInBounds loc.b x):=by
 have b6:=rel.lt id loc hm;have db:h.get id≠.dead:=λe=>by rw[bg]at e;rw[e]at ay;cases ay
 refine⟨by cases y<;>first|(cases aw;done) |simp[setObj,Sem.run,aq],rel.put hm (ae.nk db) (by rw[bg];exact ay) (by simp) (λb aj=>by rw[Array.getElem?_setIfInBounds_ne (Ne.symm aj)]) ?_⟩;rw[Array.getElem?_setIfInBounds_self,if_pos b6];exact an
theorem C3(rel:dU σ μ h w.heap){id:Nat}{loc:Loc}{st:LoopState}{pend:Option Code}{n:Nat}{r:bE}{params:Array Tmp}{assign body:Code}{d:Nat}(hm:μ id=some loc)
  (aN:h.get id=.loop st pend n r params assign body d) :
  ∃fn tmps oh,w.heap[loc.b]? =some (.loop {state:=st,pending:=pend,fn,tmps,params,assign,body,defers:=oh.b})/\μ d=some oh/\l6 σ μ n r tmps:=by
 have:=rel.obj id loc _ hm (ae.nk (by rw[aN];simp));rw[aN]at this;exact this
theorem apn{b:Frame}{a:Act}{k:List Item}{cs:List Frame}{g:Operand}{ps:Array Tmp}{assign body:Code}{l:Nat}{mark:List Deferred}{w₁:World}{sI:Frame}{lk:List Frame}{yW:World}
  (he:(Instr.enterLoop b.fn a.tmps ps assign body b.roundOf).run P w=.ok (l,mark) w₁)
  (jX:(stepG.apply P true (b.atR {a with defers:=mark++a.defers} (.inRangeFunc l::k)) cs none (inv (gF a.tmps g) #[.func (.yield l) #[] #[]]) w₁).bare=B6 sI lk yW) :
  step P (lone (b.atR a (.code (.rangeFunc g ps assign body)::k)) cs w)=.next (lone sI lk yW):=
 step_lone_go (by
  have uo:=Frame.eval_atR b {a with defers:=mark++a.defers} (.inRangeFunc l::k);have afK:({a with defers:=mark++a.defers} :Act).eval=gF a.tmps:=BW b _;rw[afK]at uo;simp only[Frame.atR]at uo jX|-
  have e:(do let d<-resolve (gF a.tmps) {callee:=.value g,args:= #[.const (.func (.yield l) #[] #[])],argTypes:= #[]} 0;invoke d.target d.args:Sem Next)=inv (gF a.tmps g) #[.func (.yield l) #[] #[]]:=by simp[resolve,inv,gF]
  simp only[stepG,stepG.exec,Sem.runT_eq,he,GStep.bare_after,uo,e]
  exact jX)
theorem aea{b:Frame}{a:Act}{k:List Item}(l:Nat)(v:Value) :(b.atR a (.inRangeFunc l::k)).finish v=b.atR a (.endRangeFunc l::k):=by simp[Frame.finish,Frame.atR]
theorem apm{b:Frame}{a:Act}{k:List Item}{cs:List Frame}{l:Nat}{jump:Option Code}{aZ:World}(ag:(Instr.endLoop l).run P w=.ok jump aZ) :
  step P (lone (b.atR a (.endRangeFunc l::k)) cs w)=.next (lone (b.atR a ((jump.map Item.code).toList++k)) cs aZ):=
 step_lone_go (by simp[stepG,stepG.exec,Frame.atR,Sem.runT_eq,ag,GStep.bare_after])
theorem W3{F:gT}(eF:lB P E σ F){ro:Option Nat}{f:Operand}{params:Array Tmp}{assign body:Code}{s aY:cU}{x:eb}{fv:aa}{d:Nat}{oh:Loc}(b:Frame)(k:List Item)(cs:List Frame)
  {a:Act} {mark:List Deferred} {ih:World} (rel:kM E σ μ s {a with defers:=mark++a.defers} w) (jY:ss μ ro b) (aC:μ d=some oh) (aJ:bL σ μ fv (gF a.tmps f))
  (lr:(Instr.enterLoop b.fn a.tmps params assign body b.roundOf).run P ih=
    .ok (w.heap.size,mark) {w with heap:=w.heap.push (.loop {state:=.ready,pending:=none,fn:=b.fn,tmps:=a.tmps,params,assign,body,defers:=oh.b})})
  (he:wM F ro fv params assign body d s=some (x,aY)) :
  Ends P E σ b μ s.h w (lone (b.atR a (.code (.rangeFunc f params assign body)::k)) cs ih) k cs x aY:=by
 generalize UA:({w with heap:=w.heap.push (.loop {state:=.ready,pending:=none,fn:=b.fn,tmps:=a.tmps,params,assign,body,defers:=oh.b})} :World)=wl at lr
 have fK:ej σ μ s.h w.heap (μ.az s.h.next ⟨w.heap.size,0,0⟩) (s.h.new (.loop .ready none s.n s.r params assign body d)) wl.heap:=by rw[<-UA];have jH:=Map.q7 μ ⟨w.heap.size,0,0⟩ (rel.h.hW s.h.next (Nat.le_refl _));exact rel.h.new ⟨b.fn,a.tmps,oh,rfl,jH _ _ aC,rel.r.ext jH⟩
 have ay:(μ.az s.h.next ⟨w.heap.size,0,0⟩) s.h.next=some ⟨w.heap.size,0,0⟩:=Map.iS _ _ _;have Gd:dC w wl:=by rw[<-UA];exact⟨rfl,rfl,rfl⟩
 generalize μ.az s.h.next ⟨w.heap.size,0,0⟩=asi at fK ay;unfold wM at he;split at he
 ·cases he
 ·rename_i v0 h1 um;have aH:=eF.call _ _ _ _ _ um asi wl (gF a.tmps f) #[.func (.yield w.heap.size) #[] #[]] (rel.g.ext fK.ext) fK.rel (bL.ext fK.ext _ _ aJ) ⟨_,_,rfl,⟨_,ay,rfl⟩,rfl⟩;obtain⟨q,ck,hY,bo,cp,ed,gh⟩:=Sj aH (b.atR {a with defers:=mark++a.defers} (.inRangeFunc w.heap.size::k)) cs (.inr ⟨_,_,rfl⟩);have ea:=gh (lone (b.atR a (.code (.rangeFunc f params assign body)::k)) cs ih) λsI lk yW jX=>apn lr jX
  rw[aea]at ea;split at he
  ·rename_i st pend n r ps cY tQ fc aN;obtain⟨fn',A4,C2,uv,rD,ki⟩:=C3 cp.rel (cp.ext _ _ ay) aN
   have s5:=λ(N7:LoopState)=>Hr (P:=P) (w:=ck) cp.rel (cp.ext _ _ ay) aN rfl (cg:=.loop .exhausted pend n r ps cY tQ fc)
    (x:=.loop {state:=.exhausted,pending:=pend,fn:=fn',tmps:=A4,params:=ps,assign:=cY,body:=tQ,defers:=C2.b}) ⟨fn',A4,C2,rfl,rD,ki⟩ uv rfl
   obtain⟨g',gO⟩:=s5 .exhausted;have c':st≠.busy:=λe=>by subst e;cases he
   have KW:(Instr.endLoop w.heap.size).run P ck=.ok pend {ck with heap:=ck.heap.setIfInBounds w.heap.size (.loop {state:=.exhausted,pending:=pend,fn:=fn',tmps:=A4,params:=ps,assign:=cY,body:=tQ,defers:=C2.b})}:=by
    have aj:(st==LoopState.busy)=false:=by cases st<;>first|rfl|exact absurd rfl c'
    simp only[Instr.endLoop,Instr.getLoop,Sem.run_bind,zB uv rfl,Result.andThen_ok,Sem.run_pure,aj,Bool.false_eq_true,if_false,g']
   have Uw:=ea.trans (.one (apm KW));have Ub:=fK.trans (cp.trans gO)
   have oX:dC w {ck with heap:=ck.heap.setIfInBounds w.heap.size (.loop {state:=.exhausted,pending:=pend,fn:=fn',tmps:=A4,params:=ps,assign:=cY,body:=tQ,defers:=C2.b})}:=
    (Gd.trans bo).trans ⟨rfl,rfl,rfl⟩
   have F9:kM E σ hY {s with h:=h1.put s.h.next (.loop .exhausted pend n r ps cY tQ fc)} {a with defers:=mark++a.defers}
     {ck with heap:=ck.heap.setIfInBounds w.heap.size (.loop {state:=.exhausted,pending:=pend,fn:=fn',tmps:=A4,params:=ps,assign:=cY,body:=tQ,defers:=C2.b})}:=
    ⟨rel.g.ext (fK.ext.trans cp.ext),gO.rel,rel.r.ext (fK.ext.trans cp.ext),rel.d.ext (fK.ext.trans cp.ext)⟩
   have n3:(match pend with
     |none=>some (eb.normal,{s with h:=h1.put s.h.next (.loop .exhausted pend n r ps cY tQ fc)})
     |some c=>F.code ro c {s with h:=h1.put s.h.next (.loop .exhausted pend n r ps cY tQ fc)})=some (x,aY):=by
    cases st<;>first|exact absurd rfl c'|(cases pend<;>exact he)
   cases pend with
   |none=>
    cases n3;exact⟨hY,_,_,Ub,oX,F9,Uw⟩
   |some c=>
    have:=eF.code _ _ _ _ _ n3 hY _ _ b k cs F9 (jY.ext (fK.ext.trans cp.ext));exact this.after Ub oX Uw
  ·cases he
end
section
variable{P:Program}{E:Env}{σ:Nat->Int}{μ:Map}{h bC:ae}{w:World}
theorem Xt(x:Obj) :(newObj x).run P w=.ok w.heap.size {w with heap:=w.heap.push x}:=by simp
theorem anH{F:gT}(ok:dL P E σ)(eF:lB P E σ F){ro:Option Nat}{f:Operand}{params:Array Tmp}{assign body:Code}{s aY:cU}{x:eb}
  (he:hj E F ro (.rangeFunc f params assign body) s=some (x,aY)) {a:Act} (b:Frame) (k:List Item) (cs:List Frame) (rel:kM E σ μ s a w) (jY:ss μ ro b) :
  Ends P E σ b μ s.h w (lone (b.atR a (.code (.rangeFunc f params assign body)::k)) cs w) k cs x aY:=by
 delta hj at he;dsimp only at he;split at he
 ·cases he
 rename_i fv FT;have aJ:bL σ μ fv (gF a.tmps f):=uS rel.g rel.r.2 FT;split at he
 ·cases he
 rename_i d s1 ea;cases ro with
 |none=>
  have aj:b.roundOf=none:=jY;have zI:ej σ μ s.h w.heap (μ.az s.h.next ⟨w.heap.size,0,0⟩) (s.h.new .deferred) (w.heap.push (.deferred (some []))):=rel.h.new rfl
  have AB:kM E σ (μ.az s.h.next ⟨w.heap.size,0,0⟩) {s with h:=s.h.new .deferred,ds:=s.h.next::s.ds}
    {a with defers:=[{target:=.collected w.heap.size,args:= #[]}]++a.defers} {w with heap:=w.heap.push (.deferred (some []))}:=
   ⟨rel.g.ext zI.ext,zI.rel,rel.r.ext zI.ext,⟨_,_,rfl,Map.iS _ _ _,rel.d.ext zI.ext⟩⟩
  simp only[Di]at ea;cases ea
  have lr:(Instr.enterLoop b.fn a.tmps params assign body b.roundOf).run P w=.ok ((w.heap.push (.deferred (some []))).size,[{target:=.collected w.heap.size,args:= #[]}])
    {w with heap:=(w.heap.push (.deferred (some []))).push (.loop {state:=.ready,pending:=none,fn:=b.fn,tmps:=a.tmps,params,assign,body,defers:=w.heap.size})}:=by
   rw[aj];simp only[Instr.enterLoop,Sem.run_bind,Xt,Sem.run_pure,Result.andThen_ok]
  have:=W3 (ro:=none) eF b k cs AB aj (Map.iS _ _ _) (bL.ext zI.ext _ _ aJ) lr he;exact this.after (w₁:={w with heap:=w.heap.push (.deferred (some []))}) zI ⟨rfl,rfl,rfl⟩ (.refl _ _)
 |some l=>
  obtain⟨loc,ay,aj⟩:=jY;simp only[Di]at ea;split at ea
  ·rename_i st pend n r ps cY tQ fc aN;cases ea;obtain⟨fn',A4,oh,uv,rD,ki⟩:=C3 rel.h ay aN;have AB:kM E σ μ s {a with defers:=[]++a.defers} w:=⟨rel.g,rel.h,rel.r,rel.d⟩
   have lr:(Instr.enterLoop b.fn a.tmps params assign body b.roundOf).run P w=.ok (w.heap.size,[])
     {w with heap:=w.heap.push (.loop {state:=.ready,pending:=none,fn:=b.fn,tmps:=a.tmps,params,assign,body,defers:=oh.b})}:=by
    rw[aj];simp only[Instr.enterLoop,Instr.getLoop,Sem.run_bind,zB uv rfl,Xt,Sem.run_pure,Result.andThen_ok]
   exact W3 (ro:=some l) eF b k cs AB ⟨loc,ay,aj⟩ rD aJ lr he
  ·cases ea
theorem acJ{F:gT}(ok:dL P E σ)(eF:lB P E σ F)(JT:IA P E σ F)(ro:Option Nat)(c:Code)(s:cU)(x:eb)(aY:cU)(he:hj E F ro c s=some (x,aY))
  (μ:Map) (w:World) (a:Act) (b:Frame) (k:List Item) (cs:List Frame) (rel:kM E σ μ s a w) (jY:ss μ ro b) :
  Ends P E σ b μ s.h w (lone (b.atR a (.code c::k)) cs w) k cs x aY:=by
 cases c with
 |skip=>cases he;exact⟨μ,w,a,ej.refl rel.h,dC.refl _,rel,.one stepR_skip⟩
 |label l=>cases he;exact⟨μ,w,a,ej.refl rel.h,dC.refl _,rel,.one stepR_label⟩
 |seq bo cp=>
  delta hj at he;dsimp only at he;split at he
  ·rename_i s1 h1;obtain⟨hY,ck,ao,c5,dr,eu,e2⟩:=eF.code _ _ _ _ _ h1 μ w a b (.code cp::k) cs rel jY;exact(eF.code _ _ _ _ _ he hY ck ao b k cs eu (jY.ext c5.ext)).after c5 dr (.head stepR_seq e2)
  ·rename_i c';obtain⟨hY,ck,ao,c5,dr,eu,e2⟩:=eF.code _ _ _ _ _ he μ w a b (.code cp::k) cs rel jY;exact⟨hY,ck,ao,c5,dr,eu,(e2.pass rfl λag=>c' aY (by rw[he,ag])).of_steps (.one stepR_seq)⟩
 |cond o bo cp=>
  delta hj at he;dsimp only at he;split at he
  ·rename_i bg;have e:a.eval o=.bool true:=by rw[BW b];exact uS rel.g rel.r.2 bg
   exact(eF.code _ _ _ _ _ he μ w a b k cs rel jY).of_steps (.one (stepR_cond e))
  ·rename_i bg;have e:a.eval o=.bool false:=by rw[BW b];exact uS rel.g rel.r.2 bg
   exact(eF.code _ _ _ _ _ he μ w a b k cs rel jY).of_steps (.one (stepR_cond e))
  ·cases he
 |block id c=>
  delta hj at he;dsimp only at he;split at he
  ·rename_i o0 s1 h1;obtain⟨hY,ck,ao,c5,dr,eu,k₁,e,e2⟩:=eF.code _ _ _ _ _ h1 μ w a b (.inBlock id::k) cs rel jY;cases aj:Nat.beq o0 id with
   |true=>
    rw[aj]at he;cases he;have aG:=beq_true.1 aj;subst aG;exact⟨hY,ck,ao,c5,dr,eu,.head stepR_block (e2.trans (.one (stepR_exit (by rw[e];simp[exitTo]))))⟩
   |false=>
    rw[aj]at he;cases he;have aG:(id==o0)=false:=by simp;exact λe=>beq_false.1 aj e.symm
    exact⟨hY,ck,ao,c5,dr,eu,k₁,by rw[e];simp[exitTo,aG],.head stepR_block e2⟩
  ·rename_i c';obtain⟨hY,ck,ao,c5,dr,eu,e2⟩:=eF.code _ _ _ _ _ he μ w a b (.inBlock id::k) cs rel jY;refine⟨hY,ck,ao,c5,dr,eu,?_⟩;cases x with
   |normal=>exact .head stepR_block (Steps.trans e2 (.one stepR_inBlock))
   |exit o0=>exact absurd he (c' o0 aY)
   |goto l=>obtain⟨k₁,e,e2⟩:=e2;exact⟨k₁,e.trans (by simp[gotoIn]),.head stepR_block e2⟩
   |ret=>obtain⟨k₁,e2⟩:=e2;exact⟨k₁,.head stepR_block e2⟩
 |loop c=>
  delta hj at he;dsimp only at he;split at he
  ·cases he
  ·rename_i c';obtain⟨hY,ck,ao,c5,dr,eu,_,e2⟩:=GP eF ro b c k cs 14 s aY x he μ w a rel jY;exact⟨hY,ck,ao,c5,dr,eu,(e2 λag=>c' aY (by rw[he,ag])).of_steps (.one stepR_loop)⟩
 |exit id=>cases he;exact⟨μ,w,a,ej.refl rel.h,dC.refl _,rel,k,rfl,.refl _ _⟩
 |goto l=>cases he;exact⟨μ,w,a,ej.refl rel.h,dC.refl _,rel,k,rfl,.refl _ _⟩
 |ret=>cases he;exact⟨μ,w,a,ej.refl rel.h,dC.refl _,rel,k,.refl _ _⟩
 |scope c=>
  delta hj at he;dsimp only at he;exact(XF eF ro b c k cs 9 c s aY x he μ w a rel jY).of_steps (.one apo)
 |refuse m=>cases he
 |region id ops tY=>
  delta hj at he;dsimp only at he;cases tY with
  |false=>
   simp only at he;split at he
   ·rename_i s1 h1;cases he;exact anU ok eF b k cs h1 rel id
   ·cases he
  |true=>
   simp only at he;split at he
   ·rename_i s1 h1;cases he;exact JT _ _ _ h1 μ w a b id k cs rel
   ·cases he
 |rangeFunc f params assign body=>exact anH ok eF he b k cs rel jY
end
section
variable{P:Program}{E:Env}{σ:Nat->Int}{μ:Map}{h bC:ae}{w:World}
theorem step_take{fr:Frame}{cs:List Frame}{dW:Nat}{ds:List Deferred}(hm:fr.mode=.returning)(aC:fr.defers={target:=.collected dW,args:= #[]}::ds)
  (ag:w.heap[dW]? =some (.deferred (some []))) :
  step P (lone fr cs w)=.next (lone {fr with defers:=ds} cs {w with heap:=w.heap.setIfInBounds dW (.deferred none)}):=by
 have e:(Instr.takeDeferred dW).run P w=.ok [] {w with heap:=w.heap.setIfInBounds dW (.deferred none)}:=by
  have ab:(setObj dW (.deferred none)).run P w=.ok () {w with heap:=w.heap.setIfInBounds dW (.deferred none)}:=by simp[setObj,Sem.run,ag]
  simp only[Instr.takeDeferred,Sem.run_bind,zB ag rfl,Result.andThen_ok,Sem.run_pure,ab]
 exact step_lone_go (by simp[stepG,unwind,hm,aC,Sem.runT_eq,e,GStep.bare_after])
theorem SN:∀(ds:List Nat) (h bC:ae),nT ds h=some bC->∀(μ:Map) (w:World) (fr:Frame) (cs:List Frame),dU σ μ h w.heap->vA μ ds fr.defers->fr.mode=.returning->
  ∃aZ,ej σ μ h w.heap μ bC aZ.heap/\dC w aZ/\Steps P (lone fr cs w) (lone {fr with defers:=[]} cs aZ)
 |[],h,bC,he,μ,w,fr,cs,rel,aC,hm=>by simp only[nT]at he;cases he;have e:fr.defers=[]:=aC;refine⟨w,ej.refl rel,dC.refl _,?_⟩;rw[<-e];exact .refl _ _
 |d::ds,h,bC,he,μ,w,fr,cs,rel,⟨loc,zq,e,ay,aC⟩,hm=>by
  simp only[nT]at he;split at he
  ·rename_i aN
   have ag:w.heap[loc.b]? =some (.deferred (some [])):=by have:=rel.obj d loc _ ay (ae.nk (by rw[aN];simp));rw[aN]at this;exact this
   obtain⟨g',gO⟩:=Hr (P:=P) rel ay aN rfl (cg:=.dead) (x:=.deferred none) trivial ag rfl;obtain⟨aZ,c5,dr,eu⟩:=SN ds (h.put d .dead) bC he μ {w with heap:=w.heap.setIfInBounds loc.b (.deferred none)} {fr with defers:=zq} cs gO.rel aC hm;refine⟨aZ,gO.trans c5,?_,.head (step_take hm e ag) eu⟩;have:dC w {w with heap:=w.heap.setIfInBounds loc.b (.deferred none)}:=⟨rfl,rfl,rfl⟩;exact this.trans dr
  ·cases he
theorem Nz(ok:dL P E σ)(rel:dU σ μ h w.heap){r:bE}{tmps:Array Value}(an:∀i,bL σ μ (r.get i) (tmps.getD i undef)) :∀(rs:List ResultVar) (vs:List aa),jB E r h rs=some vs->
  ∃us,(rs.mapM λ| .tmp t=>pure (tmps.getD t undef) | .cell a t=>do loadVar t (<-asAddr (tmps.getD a undef)) :Sem (List Value)).run P w=.ok us w/\cy σ μ vs us
 |[],vs,he=>by simp only[jB]at he;cases he;exact⟨[],by simp,rfl⟩
 | .tmp t::rs,vs,he=>by
  simp only[jB]at he;split at he
  ·rename_i l ay;cases he;obtain⟨us,h1,ab⟩:=Nz ok rel an rs l ay;exact⟨tmps.getD t undef::us,by rw[List.mapM_cons];simp only[Sem.run_bind,Sem.run_pure,Result.andThen_ok,h1],_,_,rfl,an t,ab⟩
  ·cases he
 | .cell a t::rs,vs,he=>by
  simp only[jB]at he;split at he
  ·rename_i id off l bc ay;split at he
   ·rename_i v ai;cases he;have aI:=an a;rw[bc]at aI;obtain⟨loc,hm,e⟩:=aI;obtain⟨x,al,aE⟩:=Vz (P:=P) ok rel hm ai;obtain⟨us,h1,ab⟩:=Nz ok rel an rs l ay;have aT:(asAddr (tmps.getD a undef) :Sem Addr)=pure ⟨loc.b,loc.o+off,none⟩:=by rw[e];rfl
    exact⟨x::us,by rw[List.mapM_cons];simp only[aT,Sem.run_bind,Sem.run_pure,Result.andThen_ok,h1,al],_,_,rfl,aE,ab⟩
   ·cases he
  ·cases he
theorem an5(ok:dL P E σ)(rel:dU σ μ h w.heap){r:bE}{tmps:Array Value}(an:∀i,bL σ μ (r.get i) (tmps.getD i undef)){fn:Func}{v:aa}
  (he:(match jB E r h fn.results.toList with
    |some [v]=>some v
    |some []=>some .undef
    |some vs=>some (.tuple vs)
    |none=>none)=some v) :∃q,(results fn tmps).run P w=.ok q w/\bL σ μ v q:=by
 cases jf:jB E r h fn.results.toList with
 |none=>rw[jf]at he;cases he
 |some vs=>
  obtain⟨us,h1,ab⟩:=Nz (P:=P) ok rel an _ _ jf;rw[jf]at he
  have xT:∀q,(if h:us.toArray.size=1 then us.toArray[0]else Value.tuple us.toArray)=q->(results fn tmps).run P w=.ok q w:=by intro q aF;unfold results;rw[Array.mapM_eq_mapM_toList];simp only[Sem.run_bind,map_eq_pure_bind];refine(congrArg (λz:Result (List Value)=>(z.andThen λa aZ=>Sem.run P (pure a.toArray) aZ).andThen λ(a:Array Value) aZ=>Sem.run P (pure (if h:a.size=1 then a[0]else Value.tuple a)) aZ) h1).trans ?_;simp only[Result.andThen_ok,Sem.run_pure,aF]
  cases vs with
  |nil=>
   have de:=cy.j1.1 ab;subst de;cases he;exact⟨_,xT _ rfl,rfl⟩
  |cons a vs=>
   obtain⟨u,aud,e,bc,aw⟩:=ab;cases vs with
   |nil=>
    have de:=cy.j1.1 aw;subst de;subst e;cases he;exact⟨_,xT _ rfl,bc⟩
   |cons b vs=>
    obtain⟨bn,aue,aT,aj,aw⟩:=aw;subst aT;subst e;cases he;refine⟨_,xT _ rfl,?_⟩;rw[dif_neg (by simp)];exact⟨_,rfl,_,_,rfl,bc,_,_,rfl,aj,aw⟩
theorem Xc:∀(cY:List aa) (i:Nat) (r:bE) (j:Nat),bE.get (r7 cY i r) j=if i<=j/\j<i+cY.length then(cY[j-i]?).getD .undef else bE.get r j
 |[],i,r,j=>by rw[if_neg (by simp only[List.length_nil];omega)];rfl
 |a::cY,i,r,j=>by
  simp only[r7];rw[Xc cY (i+1) _ j];by_cases h1:i+1<=j/\j<i+1+cY.length
  ·rw[if_pos h1,if_pos (by simp only[List.length_cons];omega)];obtain⟨m,rfl⟩ :∃m,j=i+1+m:=⟨j-i-1,by omega⟩;rw[show i+1+m-(i+1)=m by omega,show i+1+m-i=m+1 by omega,List.getElem?_cons_succ]
  ·rw[if_neg h1];by_cases e:j=i
   ·subst e;rw[if_pos (by simp only[List.length_cons];omega)];simp[bE.get,bu.lL]
   ·rw[if_neg (by simp only[List.length_cons];omega)];simp[bE.get,bu.lL,e]
theorem adz{cY:List aa}{us:Array Value}(hu:cy σ μ cY us.toList)(n:Nat) :
  l6 σ μ (max n cY.length) (r7 cY 0 .nil) (us++Array.replicate (n-us.size) undef):=by
 have ay:cY.length=us.size:=by rw[hu.length,Array.length_toList]
 refine⟨by simp;omega,λj=> ?_⟩;rw[Xc];by_cases aO:j<cY.length
 ·rw[if_pos (by omega)];obtain⟨v,ai⟩ :∃v,cY[j]? =some v:=⟨cY[j],List.getElem?_eq_getElem aO⟩;obtain⟨x,ag,rx⟩:=hu.get j v ai
  have e:(us++Array.replicate (n-us.size) undef).getD j undef=x:=by
   have h1:us[j]? =some x:=by simpa using ag
   simp[Array.getElem?_append_left (show j<us.size by omega),h1]
  rw[e,Nat.sub_zero,ai];exact rx
 ·rw[if_neg (by omega)]
  have e:(us++Array.replicate (n-us.size) undef).getD j undef=undef:=by rw[Array.getD_eq_getD_getElem?,Array.getElem?_append_right (by omega),Array.getElem?_replicate];split<;>rfl
  rw[e];have:bE.get (bu.nil:bE) j=.undef:=by simp[bE.get,bu.get_nil]
  rw[this];rfl
theorem aeI{F:gT}(ok:dL P E σ)(eF:lB P E σ F){f:FuncId}{first captured args:List aa}{v:aa}(he:lF E F (.func f first captured) args h=some (v,bC))
  (aN:k' E μ) (rel:dU σ μ h w.heap) {u:Value} {us:Array Value} (hu:bL σ μ (.func f first captured) u) (bc:cy σ μ args us.toList) :vy P σ μ h w u us v bC:=by
 obtain⟨x,y,e,ag,aq⟩:=hu;subst e;delta lF at he;dsimp only at he;split at he
 ·cases he
 rename_i fn iD;split at he
 ·cases he
 rename_i body sP;obtain⟨Cy,Li⟩:=ok.fn f fn iD;split at he
 ·rename_i BA s1 afq;split at he
  ·rename_i TI;split at he
   ·cases he
   rename_i ab Ca;refine .inl ⟨f,x++us++y,?_,λcs=> ?_⟩
   ·simp only[inv,Deferred.ofValue,Sem.run_bind,Sem.run_pure,Result.andThen_ok,invoke,callFunc,run_program,Cy,Li,sP,Option.isNone_some,Bool.false_eq_true,if_false]
   ·have ae4:cy σ μ (first++args++captured) (x++us++y).toList:=by
     rw[Array.toList_append,Array.toList_append];exact(ag.append bc).append aq
    have lr:=adz ae4 fn.ntmps;let b:Frame:={fn:=f,tmps:= #[],todo:=[],defers:=[],mode:=.run,kind:=.normal};let a0:Act:={tmps:=(x++us++y)++Array.replicate (fn.ntmps-(x++us++y).size) undef,defers:=[]}
    have fw:Frame.enter P f (x++us++y) .normal=b.atR a0 [.code body]:=by simp[Frame.enter,Cy,sP,Frame.atR,b,a0]
    have N5:kM E σ μ {r:=r7 (first++args++captured) 0 .nil,n:=max fn.ntmps (first++args++captured).length,ds:=[],h} a0 w:=⟨aN,rel,lr,rfl⟩;obtain⟨hY,ck,ao,c5,dr,eu,e2⟩:=eF.code _ _ _ _ _ afq μ w a0 b [] cs N5 rfl
    have Lu:∃k,Steps P (lone (Frame.enter P f (x++us++y) .normal) cs w) (lone {b.atR ao k with mode:=.returning} cs ck):=by
     rw[fw];cases BA with
     |normal=>exact⟨_,Steps.trans e2 (.one (stepR_end rfl))⟩
     |ret=>obtain⟨k₁,e2⟩:=e2;exact⟨_,e2.trans (.one (stepR_ret rfl))⟩
     |exit id=>cases TI
     |goto l=>cases TI
    obtain⟨k,Lu⟩:=Lu;obtain⟨dT,d1,d2,d3⟩:=SN (P:=P) (σ:=σ) _ _ _ Ca hY ck {b.atR ao k with mode:=.returning} cs eu.h eu.d rfl
    have ag2:∃q,(results fn ao.tmps).run P dT=.ok q dT/\bL σ hY v q/\ab=bC:=by
     have key:∀eT,(match jB E s1.r ab fn.results.toList with
      |some [v]=>some v
      |some []=>some .undef
      |some vs=>some (.tuple vs)
      |none=>none)=some eT->∃q,(results fn ao.tmps).run P dT=.ok q dT/\bL σ hY eT q:=λeT fV=>an5 ok d1.rel eu.r.2 fV
     revert key he;generalize jB E s1.r ab fn.results.toList=rs;intro he key
     match rs with
     |none=>cases he
     |some []=>cases he;obtain⟨q,bk,b_⟩:=key _ rfl;exact⟨q,bk,b_,rfl⟩
     |some [a]=>cases he;obtain⟨q,bk,b_⟩:=key _ rfl;exact⟨q,bk,b_,rfl⟩
     |some (a::b::c)=>cases he;obtain⟨q,bk,b_⟩:=key _ rfl;exact⟨q,bk,b_,rfl⟩
    obtain⟨q,cS,dm,eS⟩:=ag2;subst eS;exact⟨{b.atR ao k with mode:=.returning,defers:=[]},q,dT,hY,Lu.trans d3,rfl,⟨rfl,rfl,rfl,fn,Cy,cS⟩,dr.trans d2,c5.trans d1,dm⟩
  ·cases he
 ·cases he
end
section
variable{P:Program}{E:Env}{σ:Nat->Int}{μ:Map}{h bC:ae}{w:World}
theorem WR:∀(ts:List Tmp) (args:List aa) (us:List Value) (n:Nat) (r cR:bE) (tmps:Array Value),wU ts args n r=some cR->cy σ μ args us->l6 σ μ n r tmps->
  ts.length=us.length/\l6 σ μ n cR ((ts.zip us).foldl (λ(tmps:Array Value) (p:Tmp×Value)=>tmps.setIfInBounds p.1 p.2) tmps)
 |[],[],us,n,r,cR,tmps,he,hu,an=>by rw[cy.j1.1 hu];simp only[wU]at he;cases he;exact⟨rfl,an⟩
 |t::ts,v::vs,_,n,r,cR,tmps,he,⟨u,us,e,ai,jf⟩,an=>by subst e;simp only[wU]at he;replace he:=dV he;obtain⟨aj,he⟩:=he;obtain⟨h1,ab⟩:=WR ts vs us n _ cR (tmps.setIfInBounds t u) he jf (an.put (dM.1 aj) ai);exact⟨by simp[h1],ab⟩
 |[],_::_,_,_,_,_,_,he,_,_=>by cases he
 |_::_,[],_,_,_,_,_,he,_,_=>by cases he
theorem ar'{F:gT}(ok:dL P E σ)(eF:lB P E σ F){l:Nat}{args:List aa}{v:aa}(he:lF E F (.yield l) args h=some (v,bC))
  (aN:k' E μ) (rel:dU σ μ h w.heap) {u:Value} {us:Array Value} (hu:bL σ μ (.yield l) u) (bc:cy σ μ args us.toList) :vy P σ μ h w u us v bC:=by
 obtain⟨loc,ay,e⟩:=hu;subst e;delta lF at he;dsimp only at he;split at he
 ·rename_i De n r params assign body d me;obtain⟨fn,tmps,oh,uv,aC,an⟩:=C3 rel ay me;split at he
  ·cases he
  rename_i cR agU;obtain⟨hlen,oV⟩:=WR _ _ _ _ _ _ tmps agU bc an;have eR:us.size=params.size:=by simpa using hlen.symm
  refine .inr (.inl ⟨loc.b,fn,(params.toList.zip us.toList).foldl (λ(tmps:Array Value) (p:Tmp×Value)=>tmps.setIfInBounds p.1 p.2) tmps,assign,body,?_,λc cs=> ?_⟩)
  ·have aG:(params.zip us).foldl (λ(tmps:Array Value) (p:Tmp×Value)=>tmps.setIfInBounds p.1 p.2) tmps=
     (params.toList.zip us.toList).foldl (λ(tmps:Array Value) (p:Tmp×Value)=>tmps.setIfInBounds p.1 p.2) tmps:=by
    rw[<-Array.foldl_toList,Array.toList_zip]
   simp only[inv,Deferred.ofValue,Sem.run_bind,Sem.run_pure,Result.andThen_ok,invoke,Instr.yield,Instr.getLoop,zB uv rfl,Array.empty_append,eR,ne_eq,not_true_eq_false,if_false];rw[<-aG]
  ·let b:Frame:={fn:=fn,tmps:= #[],todo:=[],defers:=[],mode:=.run,kind:=.normal,roundOf:=some loc.b};let a0:Act:={tmps:=(params.toList.zip us.toList).foldl (λ(tmps:Array Value) (p:Tmp×Value)=>tmps.setIfInBounds p.1 p.2) tmps,defers:=[]};have fw:Frame.round loc.b fn a0.tmps assign body .normal=b.atR a0 [.code assign,.beginRound,.code body]:=rfl;have N5:kM E σ μ {r:=cR,n,ds:=[],h} a0 w:=⟨aN,rel,oV,rfl⟩;have jY:ss μ (some l) b:=⟨loc,ay,rfl⟩;split at he
   ·rename_i s1 ae7;obtain⟨hY,ck,ao,c5,dr,eu,e2⟩:=eF.code _ _ _ _ _ ae7 μ w a0 b [.beginRound,.code body] (c::cs) N5 jY;split at he
    ·rename_i uV dR cS params1 tP tU d1 TV;obtain⟨xp,yG,ya,Ui,zG,mU⟩:=C3 eu.h (c5.ext _ _ ay) TV
     obtain⟨g',gO⟩:=Hr (P:=P) (w:=ck) eu.h (c5.ext _ _ ay) TV rfl (cg:=.loop .busy uV dR cS params1 tP tU d1)
      (x:=.loop {state:=.busy,pending:=uV,fn:=xp,tmps:=yG,params:=params1,assign:=tP,body:=tU,defers:=ya.b}) ⟨xp,yG,ya,rfl,zG,mU⟩ Ui rfl
     have TK:(Instr.beginRound loc.b).run P ck=.ok () {ck with heap:=ck.heap.setIfInBounds loc.b (.loop {state:=.busy,pending:=uV,fn:=xp,tmps:=yG,params:=params1,assign:=tP,body:=tU,defers:=ya.b})}:=by simp only[Instr.beginRound,Instr.getLoop,Sem.run_bind,zB Ui rfl,Result.andThen_ok,Sem.run_pure,g']
     have api:=Steps.trans e2 (.one (stepR_beginRound rfl TK))
     have ag8:dC w {ck with heap:=ck.heap.setIfInBounds loc.b (.loop {state:=.busy,pending:=uV,fn:=xp,tmps:=yG,params:=params1,assign:=tP,body:=tU,defers:=ya.b})}:=
      dr.trans ⟨rfl,rfl,rfl⟩
     have aph:kM E σ hY {s1 with h:=s1.h.put l (.loop .busy uV dR cS params1 tP tU d1)} ao
       {ck with heap:=ck.heap.setIfInBounds loc.b (.loop {state:=.busy,pending:=uV,fn:=xp,tmps:=yG,params:=params1,assign:=tP,body:=tU,defers:=ya.b})}:=
      ⟨eu.g,gO.rel,eu.r,eu.d⟩
     have alx:ej σ μ h w.heap hY (s1.h.put l (.loop .busy uV dR cS params1 tP tU d1)) ({ck with heap:=ck.heap.setIfInBounds loc.b (.loop {state:=.busy,pending:=uV,fn:=xp,tmps:=yG,params:=params1,assign:=tP,body:=tU,defers:=ya.b})} :World).heap:=c5.trans gO;clear dr e2 TK g';generalize ({ck with heap:=ck.heap.setIfInBounds loc.b (.loop {state:=.busy,pending:=uV,fn:=xp,tmps:=yG,params:=params1,assign:=tP,body:=tU,defers:=ya.b})} :World)=dT at*
     split at he
     ·rename_i BA s2 sP;obtain⟨PE,eJ,a2,bk,b_,b3,c7⟩:=eF.code _ _ _ _ _ sP hY dT ao b [] (c::cs) aph (jY.ext c5.ext);split at he
      ·rename_i Dz at7 gp eS params3 EP ET d3 TW zJ;have oT:=bk.ext _ _ (c5.ext _ _ ay);obtain⟨Ke,Oz,jM,Uj,zH,CB⟩:=C3 b3.h oT TW
       have fin:∀(jump:Option Code),(∃fB,Steps P (lone (Frame.round loc.b fn a0.tmps assign body .normal) (c::cs) w) fB/\
         ∀q aZ,(Instr.endRound loc.b jump).run P eJ=.ok q aZ->step P fB=.next (lone (c.finish q) cs aZ))->
         some (aa.bool jump.isNone,s2.h.put l (.loop (if jump.isNone then .ready else .done) jump gp eS params3 EP ET d3))=some (v,bC)->
         ∃q aZ bS,Steps P (lone (Frame.round loc.b fn a0.tmps assign body .normal) (c::cs) w) (lone (c.finish q) cs aZ)/\dC w aZ/\ej σ μ h w.heap bS bC aZ.heap/\bL σ bS v q:=by
        intro jump ⟨fB,aA,ea⟩ heq;cases heq
        obtain⟨g',gO⟩:=Hr (P:=P) (w:=eJ) b3.h oT TW rfl (cg:=.loop (if jump.isNone then .ready else .done) jump gp eS params3 EP ET d3)
         (x:=.loop {state:=if jump.isNone then .ready else .done,pending:=jump,fn:=Ke,tmps:=Oz,params:=params3,assign:=EP,body:=ET,defers:=jM.b}) ⟨Ke,Oz,jM,rfl,zH,CB⟩ Uj rfl
        have KW:(Instr.endRound loc.b jump).run P eJ=.ok (.bool jump.isNone) {eJ with heap:=eJ.heap.setIfInBounds loc.b (.loop {state:=if jump.isNone then .ready else .done,pending:=jump,fn:=Ke,tmps:=Oz,params:=params3,assign:=EP,body:=ET,defers:=jM.b})}:=by simp only[Instr.endRound,Instr.getLoop,Sem.run_bind,zB Uj rfl,Result.andThen_ok,Sem.run_pure,g']
        refine⟨_,_,PE,aA.trans (.one (ea _ _ KW)),?_,alx.trans (bk.trans gO),rfl⟩;exact(ag8.trans b_).trans ⟨rfl,rfl,rfl⟩
       have HN:Steps P (lone (Frame.round loc.b fn a0.tmps assign body .normal) (c::cs) w) (lone (b.atR ao [.code body]) (c::cs) dT):=by rw[fw];exact api
       cases BA with
       |normal=>exact fin none ⟨_,HN.trans c7,λq aZ aF=>stepR_round_end rfl rfl aF⟩ he
       |exit id=>
        obtain⟨k₁,e,c7⟩:=c7;exact fin (some (.exit id)) ⟨_,HN.trans c7,λq aZ aF=>stepR_round_exit rfl rfl (by rw[e];rfl) aF⟩ he
       |goto g=>
        obtain⟨k₁,e,c7⟩:=c7;exact fin (some (.goto g)) ⟨_,HN.trans c7,λq aZ aF=>stepR_round_goto rfl rfl (by rw[e];rfl) aF⟩ he
       |ret=>
        obtain⟨k₁,c7⟩:=c7;exact fin (some .ret) ⟨_,HN.trans c7,λq aZ aF=>stepR_round_ret rfl rfl aF⟩ he
      ·cases he
     ·cases he
    ·cases he
   ·cases he
 ·cases he
def vB(P:Program)(E:Env)(σ:Nat->Int)(p:cn) :Prop:=
 ∀g q,p g=some q->∀args h v bC,q args h=some (v,bC)->∀μ w (us:Array Value),k' E μ->dU σ μ h w.heap->cy σ μ args us.toList->
  vy P σ μ h w (.func (.func g) #[] #[]) us v bC
theorem JD{F:gT}(ok:dL P E σ)(eF:lB P E σ F)(f:aa)(args:List aa)(h:ae)(v:aa)(bC:ae)(he:lF E F f args h=some (v,bC))
  (μ:Map) (w:World) (u:Value) (us:Array Value) (aN:k' E μ) (rel:dU σ μ h w.heap) (hu:bL σ μ f u) (bc:cy σ μ args us.toList) :vy P σ μ h w u us v bC:=by
 cases f with
 |func f first captured=>exact aeI ok eF he aN rel hu bc
 |yield l=>exact ar' ok eF he aN rel hu bc
 |_=>cases he
theorem step_ok{F:gT}{p:cn}(ok:dL P E σ)(yn:vB P E σ p)(eF:lB P E σ F)(JT:IA P E σ F) :lB P E σ (Fv E p F)where
 code:=λro c s x aY he μ w a b k cs rel jY=>acJ ok eF JT ro c s x aY he μ w a b k cs rel jY
 call:=λf args h v bC he μ w u us aN rel hu bc=>by
  have n3:qn E p F f args h=some (v,bC):=he;unfold qn at n3;split at n3
  ·rename_i g;split at n3
   ·rename_i q aF;split at n3
    ·rename_i r an;cases n3;obtain⟨x,y,e,ag,aq⟩:=hu;have ex:x= #[]:=by have:=cy.j1.1 ag;exact Array.toList_eq_nil_iff.1 this
     have sF:y= #[]:=by have:=cy.j1.1 aq;exact Array.toList_eq_nil_iff.1 this
     subst e ex sF;exact yn g q aF args h v bC an μ w us aN rel bc
    ·exact JD ok eF _ args h v bC n3 μ w u us aN rel hu bc
   ·exact JD ok eF _ args h v bC n3 μ w u us aN rel hu bc
  ·exact JD ok eF _ args h v bC n3 μ w u us aN rel hu bc
end
section
variable{E:Env}{r cR:bE}{h:ae}
theorem BV:∀(xs:List Operand),(∀x,x∈xs->ek E r x=ek E cR x)->lI E r xs=lI E cR xs
 |[],_=>rfl
 |x::xs,H=>by simp only[lI,H x List.mem_cons_self,BV xs λy aq=>H y (List.mem_cons_of_mem _ aq)]
theorem J':∀(xs:List (Nat×Operand)),(∀x,x∈xs.map (·.2)->ek E r x=ek E cR x)->sE E r xs=sE E cR xs
 |[],_=>rfl
 |(i,x)::xs,H=>by simp only[sE,H x (by simp),J' xs λy aq=>H y (by simp only[List.map_cons];exact List.mem_cons_of_mem _ aq)]
theorem M8(x:Option Operand)(H:∀y,x=some y->ek E r y=ek E cR y) :tm E r x=tm E cR x:=by
 cases x with
 |none=>rfl
 |some y=>simp only[tm,H y rfl]
theorem VC(op:Op)(H:∀x,x∈op.operands->ek E r x=ek E cR x) :fi E r h op=fi E cR h op:=by
 cases op<;>simp only[Op.operands]at H<;>simp only[fi]
 case move x=>exact H x (by simp)
 case assign x=>exact H x (by simp)
 case pick c a b=>rw[H c (by simp),H a (by simp),H b (by simp)]
 case build t ps=>rw[J' ps.toList λx ag=>H x (by simpa using ag)]
 case load t a=>rw[H a (by simp)]
 case nilCheck x=>rw[H x (by simp)]
 case binOp op t x y asb=>rw[H x (by simp),H y (by simp)]
 case unOp op t x=>rw[H x (by simp)]
 case convert s d x=>rw[H x (by simp)]
 case makeFunc fn first captured=>rw[BV first.toList λx ag=>H x (by simp at ag|-;exact .inl ag),BV captured.toList λx ag=>H x (by simp at ag|-;exact .inr ag)]
 case slice t x lo af gN=>
  rw[H x (by simp),M8 lo λy e=>H y (by subst e;simp),M8 af λy e=>H y (by subst e;simp),M8 gN λy e=>H y (by subst e;simp)]
 case fieldAddr s x f=>rw[H x (by simp)]
 case field s x f=>rw[H x (by simp)]
 case indexAddr t x g_=>rw[H x (by simp),H g_ (by simp)]
 case index t x g_=>rw[H x (by simp),H g_ (by simp)]
 case lookup t x g_ b=>rw[H x (by simp),H g_ (by simp)]
 case extract t i=>rw[H t (by simp)]
 case call c=>rw[BV c.args.toList λx ag=>H x (by simp[Call.operands]at ag|-;exact .inr ag)]
theorem VR(op:Op)(H:∀x,x∈op.operands->ek E r x=ek E cR x) :kA E r op=kA E cR op:=by
 cases op<;>simp only[Op.operands]at H<;>simp only[kA]
 case box t x=>rw[H x (by simp)]
 case buildSlice t len ps=>rw[J' ps.toList λx ag=>H x (by simpa using ag)]
 case makeSlice t l c=>rw[H l (by simp),H c (by simp)]
 case makeMap t rv=>cases rv<;>rfl
 case convert s d x=>rw[H x (by simp)]
theorem aa7(op:Op)(H:∀x,x∈op.operands->ek E r x=ek E cR x) :oE E r h op=oE E cR h op:=by
 cases op<;>simp only[Op.operands]at H<;>simp only[oE]
 case store t a x=>rw[H a (by simp),H x (by simp)]
 case mapUpdate t m k x=>rw[H m (by simp),H k (by simp),H x (by simp)]
 case insert t m k x=>rw[H m (by simp),H k (by simp),H x (by simp)]
 case call c=>
  obtain⟨callee,args,ts⟩:=c;have bc:=BV (E:=E) (r:=r) (cR:=cR) args.toList λx ag=>H x (by simp[Call.operands]at ag|-;exact .inr ag)
  cases callee with
  |builtin b=>simp only[bc]
  |value f=>simp only[bc,H f (by simp[Call.operands])]
  |invoke _ _=>rfl
theorem amx(op:Op)(H:∀x,x∈op.operands->ek E r x=ek E cR x) :jN E r h op=jN E cR h op:=by unfold jN;rw[VC op H,VR op H,aa7 op H]
theorem Aj{x:Nat} :∀{l:List Nat},uM x l=true↔x∈l
 |[]=>by simp[uM]
 |y::en=>by simp only[uM,Bool.or_eq_true,beq_true,Aj (l:=en),List.mem_cons]
def tJ(ops:Array Oper)(o:Oper)(r cR:bE) :Prop:=∀t,t∈tmpsOf ops o->r.get t=cR.get t
theorem tJ.operand{ops:Array Oper}{o:Oper}(bc:tJ ops o r cR) :∀x,x∈o.op.operands->ek E r x=ek E cR x:=by
 intro x ag;cases x with
 |tmp t=>
  simp only[ek];congr 1;apply bc;unfold tmpsOf;apply List.mem_append_left;rw[List.mem_flatMap];exact⟨.tmp t,by simpa using ag,by simp[Yz]⟩
 |_=>rfl
theorem tJ.guard{ops:Array Oper}{o:Oper}(bc:tJ ops o r cR) :h5 ops r o=h5 ops cR o:=by
 unfold h5;cases aN:o.guard with
 |none=>rfl
 |some L5=>
  obtain⟨j,want⟩:=L5;simp only;cases aO:ops[j]? with
  |none=>rfl
  |some g=>
   simp only;cases aC:g.dst with
   |none=>rfl
   |some d=>
    simp only;rw[bc d (by unfold tmpsOf;apply List.mem_append_right;simp[aN,aO,aC])]
def gP(r:bE)(d:Option Tmp)(v:aa) :bE:=match d with
 |none=>r
 |some d=>r.set d v
theorem yy{s aY:cU}{d:Option Tmp}{v:aa}{g:ae}(he:p0 s d v g=some aY) :(∀t,d=some t->t<s.n)/\aY={s with r:=gP s.r d v,h:=g}:=by
 unfold p0 at he;cases d with
 |none=>cases he;exact⟨(λt e=>by cases e),rfl⟩
 |some d=>
  simp only at he;replace he:=dV he;obtain⟨aj,he⟩:=he;cases he;exact⟨λt e=>by cases e;exact dM.1 aj,rfl⟩
theorem oq{s:cU}{d:Option Tmp}(aC:∀t,d=some t->t<s.n)(v:aa)(g:ae) :p0 s d v g=some {s with r:=gP s.r d v,h:=g}:=by
 unfold p0;cases d with
 |none=>rfl
 |some d=>simp only[dM.2 (aC d rfl),cond_true,gP]
theorem pZ(r:bE)(d:Option Tmp)(v:aa)(t:Nat) :(gP r d v).get t=if d=some t then v else r.get t:=by
 cases d with
 |none=>simp[gP]
 |some d=>
  simp only[gP,bE.get,bu.lL];by_cases e:t=d
  ·subst e;simp
  ·have:¬(some d=some t):=λh=>e (Option.some.inj h).symm
   simp only[e,this,if_false]
theorem amy{F:gT}{ops:Array Oper}{o:Oper}{s aY:cU}(he:kB E F ops o s=some aY) :
  ∃v,(∀t,o.dst=some t->t<s.n)/\aY={s with r:=gP s.r o.dst v,h:=aY.h}/\(h5 ops s.r o=false->v=.undef/\aY.h=s.h)/\
   ∀cR,tJ ops o cR s.r->kB E F ops o {s with r:=cR}=some {s with r:=gP cR o.dst v,h:=aY.h}:=by
 have s4:∀cR,tJ ops o cR s.r->jN E cR s.h o.op=jN E s.r s.h o.op:=λcR bc=>amx o.op bc.operand
 have FV:∀cR,tJ ops o cR s.r->h5 ops cR o=h5 ops s.r o:=λcR bc=>bc.guard
 unfold kB at he|-;split at he
 ·rename_i aN;obtain⟨h1,ab⟩:=yy he;refine⟨.undef,h1,by rw[ab],λ_=>⟨rfl,by rw[ab]⟩,λcR bc=> ?_⟩;simp only[FV cR bc,aN];rw[oq (s:={s with r:=cR}) h1,ab]
 ·rename_i aN;have e7:h5 ops s.r o=false->False:=λh=>by rw[aN]at h;cases h
  split at he
  ·rename_i v g ai;obtain⟨h1,ab⟩:=yy he;refine⟨v,h1,by rw[ab],λh=>(e7 h).elim,λcR bc=> ?_⟩;simp only[FV cR bc,aN,s4 cR bc,ai];rw[oq (s:={s with r:=cR}) h1,ab]
  ·rename_i g ai;obtain⟨h1,ab⟩:=yy he;refine⟨.undef,h1,by rw[ab],λh=>(e7 h).elim,λcR bc=> ?_⟩;simp only[FV cR bc,aN,s4 cR bc,ai];rw[oq (s:={s with r:=cR}) h1,ab]
  ·rename_i f args ai;split at he
   ·rename_i v g aH;obtain⟨h1,ab⟩:=yy he;refine⟨v,h1,by rw[ab],λh=>(e7 h).elim,λcR bc=> ?_⟩;simp only[FV cR bc,aN,s4 cR bc,ai,aH];rw[oq (s:={s with r:=cR}) h1,ab]
   ·cases he
  ·cases he
end
end Go.a8
end
