/-
  Texts E0 E1 E2 E3 E4 E5 E6 E7 E8 E9 E10 E11 E12 E13 E14 E15 E16 E17 E18 E19 E20 E21 E22 E23 E24 E25, joined; own names made short.
-/
import GoSem.Machine.Frame
import Derived.Calls
import Derived.Laws.Cells
import Derived.Laws.Entries
import Derived.Laws.StructEq
import Derived.Laws.BytesString
import Derived.AtR
import Derived.Orders
set_option linter.unusedVariables false
set_option linter.unusedSimpArgs false
set_option linter.unusedSectionVars false
set_option exponentiation.threshold 600
noncomputable section
namespace Go.a6
inductive bj(α:Type)where
 |nil
 |node (l:bj α) (v:Option α) (r:bj α)
 deriving Inhabited
namespace bj
variable{α:Type}
def get(t:bj α) :Nat->Option α:=
 bj.rec (motive:=λ_=>Nat->Option α) (λ_=>none)
  (λ_ v _ r_ r' k=>Bool.rec (Bool.rec (r' (Nat.sub (Nat.div k 2) 1)) (r_ (Nat.div k 2)) (Nat.beq (Nat.mod k 2) 1)) v (Nat.beq k 0)) t
def yg(d:Nat) :Nat->α->bj α:=
 Nat.rec (motive:=λ_=>Nat->α->bj α) (λ_ _=>.nil)
  (λ_ bI k x=>Bool.rec (Bool.rec (.node .nil none (bI (Nat.sub (Nat.div k 2) 1) x)) (.node (bI (Nat.div k 2) x) none .nil) (Nat.beq (Nat.mod k 2) 1)) (.node .nil (some x) .nil) (Nat.beq k 0)) d
def set(t:bj α) :Nat->α->bj α:=
 bj.rec (motive:=λ_=>Nat->α->bj α) (λk x=>yg (Nat.add k 1) k x)
  (λl v r r_ r' k x=>Bool.rec (Bool.rec (.node l v (r' (Nat.sub (Nat.div k 2) 1) x)) (.node (r_ (Nat.div k 2) x) v r) (Nat.beq (Nat.mod k 2) 1)) (.node l (some x) r) (Nat.beq k 0)) t
def oe:List α->Nat->bj α->bj α
 |[],_,t=>t
 |x::xs,i,t=>oe xs (i+1) (t.set i x)
def ofList(l:List α) :bj α:=oe l 0 .nil
end bj
def n_:Int->Int->Bool
 | .ofNat m,.ofNat n=>Nat.ble m n
 | .negSucc _,.ofNat _=>true
 | .ofNat _,.negSucc _=>false
 | .negSucc m,.negSucc n=>Nat.ble n m
def mE(a b:Int) :Bool:= !n_ b a
def h5:Int->Int->Bool
 | .ofNat m,.ofNat n=>Nat.beq m n
 | .negSucc m,.negSucc n=>Nat.beq m n
 |_,_=>false
def kx:IntKind->Nat
 | .i8=>128| .i16=>32768| .i32=>2147483648| .i64=>9223372036854775808
 | .u8=>256| .u16=>65536| .u32=>4294967296| .u64=>18446744073709551616
def bF(k:IntKind)(n:Int) :Int:=
 match n with
 | .ofNat m=>bif Nat.blt m (kx k)then .ofNat m else k.wrap (.ofNat m)
 | .negSucc m=>k.wrap (.negSucc m)
def l_(k:IntKind)(a b:Int) :Int:=k.wrap (BitVec.ofInt k.bits a&&&BitVec.ofInt k.bits b).toNat
def pT(k:IntKind)(a b:Int) :Int:=k.wrap (BitVec.ofInt k.bits a|||BitVec.ofInt k.bits b).toNat
def E3(k:IntKind)(a b:Int) :Int:=k.wrap (BitVec.ofInt k.bits a^^^BitVec.ofInt k.bits b).toNat
def Lq(k:IntKind)(a b:Int) :Int:=k.wrap (BitVec.ofInt k.bits a&&& ~~~BitVec.ofInt k.bits b).toNat
def Fm(k:IntKind)(a b:Int) :Int:=
 match a,b with
 | .ofNat m,.ofNat n=>bif Nat.blt m (kx k) &&Nat.blt n (kx k)then .ofNat (Nat.land m n)else l_ k (.ofNat m) (.ofNat n)
 |a,b=>l_ k a b
def I2(k:IntKind)(a b:Int) :Int:=
 match a,b with
 | .ofNat m,.ofNat n=>bif Nat.blt m (kx k) &&Nat.blt n (kx k)then .ofNat (Nat.lor m n)else pT k (.ofNat m) (.ofNat n)
 |a,b=>pT k a b
def ko:IntKind->IntKind->Bool
 | .i8,.i8| .i16,.i16| .i32,.i32| .i64,.i64| .u8,.u8| .u16,.u16| .u32,.u32| .u64,.u64=>true
 |_,_=>false
def cC(n off:Nat) :Nat:=(n>>> (8*off)) %256
inductive J where
 |undef
 |bool (b:Bool)
 |int (k:IntKind) (n:Int)
 |sym (k:IntKind) (e:Nat)
 |str (len n:Nat)
 |nilPtr
 |ptr (id off:Nat)
 |bh
 |slice (id off len cap cu:Nat) (exact:Bool)
 |gf
 |map (id:Nat)
 |nilFunc
 |func (f:FuncId) (first captured:List J)
 |yield (id:Nat)
 |nilIface
 |iface (t:TypeId) (v:J)
 |agg (cs:List J)
 |tuple (vs:List J)
 deriving Inhabited,Repr
mutual
def J.beq:J->J->Bool
 | .undef,.undef=>true
 | .bool a,.bool b=>a==b
 | .int k a,.int j b=>ko k j&&h5 a b
 | .sym k a,.sym j b=>ko k j&&Nat.beq a b
 | .str l a,.str m b=>Nat.beq l m&&Nat.beq a b
 | .nilPtr,.nilPtr=>true
 | .ptr a b,.ptr c d=>Nat.beq a c&&Nat.beq b d
 | .bh,.bh=>true
 | .slice a b c d e f,.slice eI ea gz eC cR fo=>Nat.beq a eI&&Nat.beq b ea&&Nat.beq c gz&&Nat.beq d eC&&Nat.beq e cR&&f==fo
 | .gf,.gf=>true
 | .map a,.map b=>Nat.beq a b
 | .nilFunc,.nilFunc=>true
 | .func f a b,.func g c d=>Nat.beq f g&&J.oD a c&&J.oD b d
 | .yield a,.yield b=>Nat.beq a b
 | .nilIface,.nilIface=>true
 | .iface t v,.iface u w=>Nat.beq t u&&J.beq v w
 | .agg a,.agg b=>J.oD a b
 | .tuple a,.tuple b=>J.oD a b
 |_,_=>false
def J.oD:List J->List J->Bool
 |[],[]=>true
 |a::ck,b::bs=>J.beq a b&&J.oD ck bs
 |_,_=>false
end
structure bm where
 desc:TypeDesc
 size:Nat
 bytes:Nat
 zero:List J
 plain:Bool
 parts:List (Nat×Nat)
 deriving Inhabited
inductive bp where
 |dead
 |cells (size:Nat) (aiT:Bool) (zero:List J) (t:bj J)
 |bytes (size:Nat) (aiT:Bool) (n:Nat)
 |ro (size:Nat) (t:bj J)
 |map (es:List (J×J×Nat)) (clock:Nat)
 |loop (st:LoopState) (pend:Option Code) (n:Nat) (gI:bj J) (params:Array Tmp) (assign body:Code) (defers:Nat)
 |deferred
 deriving Inhabited
structure ag where
 next:Nat
 c7:bj bp
 deriving Inhabited
def encode:List UInt8->Nat
 |[]=>0
 |b::bs=>b.toNat+256*encode bs
def B0:Value->Option J
 | .bool b=>some (.bool b)
 | .int k n=>some (.int k n)
 | .string s=>some (.str s.data.toList.length (encode s.data.toList))
 | .pointer none=>some .nilPtr
 | .slice none 0 0=>some .bh
 | .map none=>some .gf
 | .nilFunc=>some .nilFunc
 | .nilIface=>some .nilIface
 | .func (.func f) ⟨[]⟩ ⟨[]⟩=>some (.func f [] [])
 |_=>none
def BZ:List Value->Option (List J)
 |[]=>some []
 |v::vs=>match B0 v,BZ vs with
  |some a,some l=>some (a::l)
  |_,_=>none
def wX(v:Value) :Option J:=
 match v with
 | .agg cs=>match BZ cs.toList with
  |some l=>some (.agg l)
  |none=>none
 | .tuple ⟨[]⟩=>some .undef
 |v=>B0 v
inductive gX where
 |lit (n:Int)
 |var (e:Nat)
 deriving Inhabited,Repr
inductive Fact where
 |num (op:BinOp) (k:IntKind) (x y r:gX)
 |test (op:BinOp) (k:IntKind) (x y:gX) (r:Bool)
 |fits (x:Nat) (k:IntKind)
 deriving Inhabited
structure Env where
 fn:FuncId->Option Func
 ty:TypeId->Option bm
 facts:List Fact
 xX:Nat
def J.cells:J->List J
 | .agg cs=>cs
 |v=>[v]
abbrev bl:=bj J
def bl.get(r:bl)(t:Nat) :J:=match bj.get r t with
 |some v=>v
 |none=>.undef
def dk(E:Env)(r:bl) :Operand->Option J
 | .tmp t=>some (r.get t)
 | .const v=>wX v
 | .func f=>some (.func f [] [])
 | .global g=>bif Nat.blt g E.xX then some (.ptr g 0)else none
def kp(E:Env)(r:bl) :List Operand->Option (List J)
 |[]=>some []
 |x::xs=>match dk E r x,kp E r xs with
  |some v,some l=>some (v::l)
  |_,_=>none
def ag.put(h:ag)(id:Nat)(o:bp) :ag:={h with c7:=h.c7.set id o}
def ag.get(h:ag)(id:Nat) :bp:=match h.c7.get id with
 |some o=>o
 |none=>.dead
def ag.new(h:ag)(o:bp) :ag:={next:=h.next+1,c7:=h.c7.set h.next o}
def BP:List J->Option Nat
 |[]=>some 0
 | .int .u8 (.ofNat b)::cs=>match BP cs with
  |some n=>bif Nat.blt b 256 then some (b+256*n)else none
  |none=>none
 |_=>none
def hF:TypeDesc->Bool
 | .int .u8=>true
 |_=>false
def qN(d:TypeDesc)(cs:List J) :bp:=
 match hF d,BP cs with
 |true,some n=>.bytes cs.length false n
 |_,_=>.cells cs.length false [] (bj.ofList cs)
def bp.cell(o:bp)(off:Nat) :Option J:=
 match o with
 | .cells size _ zero t=>
  bif Nat.blt off size then match t.get off with
   |some v=>some v
   |none=>zero[off%zero.length]?
  else none
 | .bytes size _ n=>bif Nat.blt off size then some (.int .u8 (.ofNat (cC n off)))else none
 | .ro size t=>bif Nat.blt off size then t.get off else none
 |_=>none
def bp.row:bp->Option (Nat×Bool)
 | .cells size s _ _=>some (size,s)
 | .bytes size s _=>some (size,s)
 |_=>none
def bp.live:bp->Bool
 | .dead| .ro .. =>false
 |_=>true
def bE(h:ag)(id off:Nat) :Option J:=(h.get id).cell off
def bp.read(o:bp)(off:Nat) :Nat->Option (List J)
 |0=>some []
 |k+1=>match o.cell off,o.read (off+1) k with
  |some v,some l=>some (v::l)
  |_,_=>none
def jM(h:ag)(id off k:Nat) :Option (List J):=(h.get id).read off k
def dT:J->Bool
 | .agg _| .tuple _| .undef=>false
 |_=>true
def bp.write(o:bp)(off:Nat)(v:J) :Option bp:=
 match o with
 | .cells size s zero t=>bif Nat.blt off size&&dT v then some (.cells size s zero (t.set off v))else none
 | .bytes size s n=>
  match v with
  | .int .u8 (.ofNat b)=>bif Nat.blt off size&&Nat.blt b 256 then some (.bytes size s (n-(cC n off) <<< (8*off) +b<<< (8*off)))else none
  |_=>none
 |_=>none
def bp.writes(o:bp)(off:Nat) :List J->Option bp
 |[]=>some o
 |v::vs=>match o.write off v with
  |some o=>o.writes (off+1) vs
  |none=>none
def jc(h:ag)(id off:Nat)(vs:List J) :Option ag:=
 match(h.get id).writes off vs with
 |some o=>some (h.put id o)
 |none=>none
def mK(h:ag)(id off len:Nat) :Option Nat:=
 match h.get id with
 | .bytes size _ n=>bif Nat.ble (off+len) size then some ((n>>> (8*off)) %2^(8*len))else none
 |_=>none
def ox(h:ag)(id off len m:Nat) :Option ag:=
 match h.get id with
 | .bytes size s n=>
  bif Nat.ble (off+len) size then some (h.put id (.bytes size s (n-((n>>> (8*off)) %2^(8*len)) <<< (8*off) +m<<< (8*off))))else none
 |_=>none
def nd:TypeDesc->Bool
 | .struct _| .array _ _=>true
 |_=>false
def loadT(E:Env)(h:ag)(t:TypeId)(id off:Nat) :Option J:=
 match E.ty t with
 |some i=>match nd i.desc with
  |true=>match jM h id off i.size with
   |some cs=>some (.agg cs)
   |none=>none
  |false=>bE h id off
 |none=>none
def storeT(E:Env)(h:ag)(t:TypeId)(id off:Nat)(v:J) :Option ag:=
 match E.ty t with
 |some i=>bif Nat.beq v.cells.length i.size&& !Nat.beq i.size 0 then jc h id off v.cells else none
 |none=>none
def uu:List J->Nat->List J->List J
 |cs,_,[]=>cs
 |cs,i,v::vs=>uu (cs.set i v) (i+1) vs
def kQ(place:Nat->Option (Nat×Nat))(cells:List J) :List (Nat×J)->Option (List J)
 |[]=>some cells
 |(i,v)::rest=>
  match place i with
  |none=>none
  |some (off,size)=>
   bif Nat.beq v.cells.length size&&Nat.ble (off+v.cells.length) cells.length then kQ place (uu cells off v.cells) rest else none
def iH:Nat->List J->List J
 |0,_=>[]
 |n+1,l=>l++iH n l
def qk(E:Env)(r:bl) :List (Nat×Operand)->Option (List (Nat×J))
 |[]=>some []
 |(i,x)::xs=>match dk E r x,qk E r xs with
  |some v,some l=>some ((i,v)::l)
  |_,_=>none
def nk(E:Env)(t:TypeId)(cs:List J)(off:Nat) :Option J:=
 match E.ty t with
 |some i=>match nd i.desc with
  |true=>some (.agg ((cs.drop off).take i.size))
  |false=>cs[off]?
 |none=>none
def gX.beq:gX->gX->Bool
 | .lit a,.lit b=>h5 a b
 | .var a,.var b=>Nat.beq a b
 |_,_=>false
def y5:BinOp->BinOp->Bool
 | .add,.add| .sub,.sub| .mul,.mul| .quo,.quo| .rem,.rem| .and,.and| .or,.or| .xor,.xor| .shl,.shl| .shr,.shr| .andNot,.andNot
 | .eql,.eql| .neq,.neq| .lss,.lss| .leq,.leq| .gtr,.gtr| .geq,.geq=>true
 |_,_=>false
def gX.dz(k:IntKind) :gX->J
 | .lit n=>.int k n
 | .var e=>.sym k e
def qn:List Fact->BinOp->IntKind->gX->gX->Option J
 |[],_,_,_,_=>none
 | .num op k x y r::fs,o,j,a,b=>bif y5 op o&&ko k j&&x.beq a&&y.beq b then some (r.dz k)else qn fs o j a b
 | .test op k x y r::fs,o,j,a,b=>bif y5 op o&&ko k j&&x.beq a&&y.beq b then some (.bool r)else qn fs o j a b
 | .fits _ _::fs,o,j,a,b=>qn fs o j a b
def za:List Fact->Nat->IntKind->Bool
 |[],_,_=>false
 | .fits x k::fs,e,j=>(Nat.beq x e&&ko k j) ||za fs e j
 |_::fs,e,j=>za fs e j
def y4(E:Env)(k:IntKind)(x y:gX) :Option Bool:=
 match qn E.facts .eql k x y with
 |some (.bool b)=>some b
 |_=>none
def eqFields(E:Env)(f:TypeId->J->J->Option Bool) :List Field->List J->List J->Option Bool
 |[],_,_=>some true
 |fd::fs,xs,fe=>
  match nk E fd.type xs fd.offset,nk E fd.type fe fd.offset with
  |some a,some b=>
   match f fd.type a b with
   |some true=>eqFields E f fs xs fe
   |some false=>some false
   |none=>none
  |_,_=>none
def bp.vS:bp->Bool
 | .cells _ false _ _=>true
 | .bytes _ false _=>true
 | .ro .. =>false
 |_=>false
def fm(E:Env)(h:ag) :Nat->TypeId->J->J->Option Bool
 |0,_,_,_=>none
 |d+1,t,x,y=>
  match E.ty t with
  |none=>none
  |some i=>
  match i.desc,x,y with
  | .bool,.bool a,.bool b=>some (a==b)
  | .int _,.int k a,.int dg b=>bif ko k dg then some (h5 a b)else none
  | .int _,.sym k a,.int dg b=>bif ko k dg then y4 E k (.var a) (.lit b)else none
  | .int _,.int k a,.sym dg b=>bif ko k dg then y4 E k (.lit a) (.var b)else none
  | .int _,.sym k a,.sym dg b=>bif ko k dg then(bif Nat.beq a b then some true else y4 E k (.var a) (.var b))else none
  | .string,.str l a,.str bz b=>some (Nat.beq l bz&&Nat.beq a b)
  | .pointer _,.nilPtr,.nilPtr=>some true
  | .pointer _,.nilPtr,.ptr _ _=>some false
  | .pointer _,.ptr _ _,.nilPtr=>some false
  | .pointer e,.ptr a o,.ptr b p=>
   match E.ty e with
   |some ie=>bif Nat.beq ie.size 0 then none else
    bif (h.get a).vS&&(h.get b).vS then some (Nat.beq a b&&Nat.beq o p)else none
   |none=>none
  | .struct fs,.agg xs,.agg fe=>bif i.plain then eqFields E (fm E h d) fs.toList xs fe else none
  | .slice _,.bh,.bh=>some true
  | .slice _,.bh,.slice .. =>some false
  | .slice _,.slice ..,.bh=>some false
  | .map _ _,.gf,.gf=>some true
  | .map _ _,.gf,.map _=>some false
  | .map _ _,.map _,.gf=>some false
  | .func _ _ _,.nilFunc,.nilFunc=>some true
  | .func _ _ _,.nilFunc,.func .. =>some false
  | .func _ _ _,.func ..,.nilFunc=>some false
  |_,_,_=>none
def Ei(l a bz b:Nat) :Option J:=
 bif Nat.blt (l+bz) 4611686018427387904 then some (.str (l+bz) (a+b<<< (8*l)))else none
def lZ(op:BinOp)(k:IntKind)(a b:Int) :Option J:=
 match op with
 | .add=>some (.int k (bF k (a+b)))
 | .sub=>some (.int k (bF k (a-b)))
 | .mul=>some (.int k (bF k (a*b)))
 | .quo=>bif h5 b 0 then none else some (.int k (bF k (a.tdiv b)))
 | .rem=>bif h5 b 0 then none else some (.int k (a.tmod b))
 | .and=>some (.int k (Fm k a b))
 | .or=>some (.int k (I2 k a b))
 | .xor=>some (.int k (E3 k a b))
 | .andNot=>some (.int k (Lq k a b))
 | .eql=>some (.bool (h5 a b))
 | .neq=>some (.bool (!h5 a b))
 | .lss=>some (.bool (mE a b))
 | .leq=>some (.bool (n_ a b))
 | .gtr=>some (.bool (mE b a))
 | .geq=>some (.bool (n_ b a))
 |_=>none
def AM(op:BinOp)(k:IntKind)(a b:Int) :Option J:=
 match b with
 | .negSucc _=>none
 | .ofNat n=>match op with
  | .shl=>some (.int k (bF k (a*2^(min n k.bits))))
  | .shr=>some (.int k (a.fdiv (2^(min n k.bits))))
  |_=>none
def jF:BinOp->Bool
 | .shl| .shr=>true
 |_=>false
def y6:J->J->Bool
 | .bool _,.bool _=>true
 | .nilPtr,.nilPtr=>true
 | .nilPtr,.ptr _ _=>true
 | .ptr _ _,.nilPtr=>true
 | .ptr _ _,.ptr _ _=>true
 | .agg _,.agg _=>true
 | .bh,.bh=>true
 | .bh,.slice .. =>true
 | .slice ..,.bh=>true
 | .gf,.gf=>true
 | .gf,.map _=>true
 | .map _,.gf=>true
 | .nilFunc,.nilFunc=>true
 | .nilFunc,.func .. =>true
 | .func ..,.nilFunc=>true
 |_,_=>false
def cV(E:Env)(h:ag)(op:BinOp)(t:TypeId)(x y:J) :Option J:=
 match x,y with
 | .int k a,.int dg b=>bif jF op then AM op k a b else bif ko k dg then lZ op k a b else none
 | .sym k a,.int dg b=>bif ko k dg&& !jF op then qn E.facts op k (.var a) (.lit b)else none
 | .int k a,.sym dg b=>bif ko k dg&& !jF op then qn E.facts op k (.lit a) (.var b)else none
 | .sym k a,.sym dg b=>bif ko k dg&& !jF op then qn E.facts op k (.var a) (.var b)else none
 | .str l a,.str bz b=>
  match op with
  | .add=>Ei l a bz b
  | .eql=>some (.bool (Nat.beq l bz&&Nat.beq a b))
  | .neq=>some (.bool (!(Nat.beq l bz&&Nat.beq a b)))
  |_=>none
 |x,y=>bif y6 x y then(match op,fm E h 9 t x y with
  | .eql,some b=>some (.bool b)
  | .neq,some b=>some (.bool (!b))
  |_,_=>none)else none
def k5(op:UnOp)(x:J) :Option J:=
 match op,x with
 | .neg,.int k n=>some (.int k (bF k (0-n)))
 | .xor,.int k n=>some (.int k (E3 k (bif k.signed then-1 else k.max) n))
 | .not,.bool b=>some (.bool !b)
 |_,_=>none
def fS(E:Env)(h:ag)(src dst:TypeId)(x:J) :Option J:=
 match E.ty src,E.ty dst with
 |some s,some d=>
  match x with
  | .int _ n=>match d.desc with
   | .int k=>some (.int k (bF k n))
   |_=>none
  | .sym _ e=>match d.desc with
   | .int k=>bif za E.facts e k then some (.sym k e)else none
   |_=>none
  | .str l n=>match d.desc with
   | .string=>some (.str l n)
   |_=>none
  | .bh=>match s.desc,d.desc with
   | .slice e,.string=>match E.ty e with
    |some ie=>bif hF ie.desc then some (.str 0 0)else none
    |none=>none
   |_,_=>none
  | .slice id off len _ _ _=>match s.desc,d.desc with
   | .slice e,.string=>match E.ty e with
    |some ie=>bif hF ie.desc then(bif Nat.beq len 0 then some (.str 0 0)else match mK h id off len with
     |some n=>some (.str len n)
     |none=>none)else none
    |none=>none
   |_,_=>none
  |_=>none
 |_,_=>none
def B1(E:Env)(dst:TypeId)(x:J) :Option (Nat×bp):=
 match E.ty dst,x with
 |some d,.str l n=>match d.desc with
  | .slice e=>match E.ty e with
   |some ie=>bif hF ie.desc then some (l,.bytes l true n)else none
   |none=>none
  |_=>none
 |_,_=>none
def HO(E:Env)(t:TypeId) :Bool:=
 match E.ty t with
 |some i=>match i.desc with
  | .slice _=>true
  |_=>false
 |none=>false
def oE(x:Int)(y:Nat) :Option Nat:=
 match x with
 | .ofNat n=>bif Nat.ble n y then some n else none
 | .negSucc _=>none
def iv(len cap:Nat)(exact:Bool)(low high max:Option Int) :Option (Nat×Nat×Nat×Bool):=
 match max,high with
 |some m,some h=>match oE m cap with
  |some m=>match oE h m with
   |some h=>match low with
    |some l=>match oE l h with
     |some l=>some (l,h,m,true)
     |none=>none
    |none=>some (0,h,m,true)
   |none=>none
  |none=>none
 |some _,none=>none
 |none,some h=>match oE h cap with
  |some h=>match low with
   |some l=>match oE l h with
    |some l=>some (l,h,cap,exact)
    |none=>none
   |none=>some (0,h,cap,exact)
  |none=>none
 |none,none=>match low with
  |some l=>match oE l len with
   |some l=>some (l,len,cap,exact)
   |none=>none
  |none=>some (0,len,cap,exact)
def qS(E:Env)(r:bl) :Option Operand->Option (Option Int)
 |none=>some none
 |some x=>match dk E r x with
  |some (.int _ n)=>some (some n)
  |_=>none
def jP(E:Env)(g:ag)(t:TypeId)(x:J)(lo U e':Option Int) :Option J:=
 match E.ty t with
 |none=>none
 |some i=>
 match i.desc,x with
 | .string,.str len n=>
  bif e'.isSome then none else
  match iv len len true lo U none with
  |some (l,h,_,_)=>some (.str (h-l) ((n>>> (8*l)) %2^(8*(h-l))))
  |none=>none
 | .slice e,.bh=>
  match iv 0 0 true lo U e',E.ty e with
  |some _,some _=>some .bh
  |_,_=>none
 | .slice e,.slice id off len cap cu ex=>
  match iv len cap ex lo U e',E.ty e with
  |some (l,h,m,ex),some ie=>bif Nat.beq ie.size cu then some (.slice id (off+l*cu) (h-l) (m-l) cu ex)else none
  |_,_=>none
 | .array n e,.ptr id off=>
  match E.ty e,iv n n true lo U e' with
  |some ie,some (l,h,m,_)=>match(g.get id).row with
   |some (size,_)=>bif Nat.ble (off+n*ie.size) size then some (.slice id (off+l*ie.size) (h-l) (m-l) ie.size true)else none
   |none=>none
  |_,_=>none
 |_,_=>none
def gN(E:Env)(s:TypeId)(x:J)(f:Nat) :Option J:=
 match E.ty s,x with
 |some i,.ptr id off=>match i.desc with
  | .struct fs=>match fs[f]? with
   |some fd=>match E.ty fd.type with
    |some e7=>bif Nat.beq e7.size 0 then none else some (.ptr id (off+fd.offset))
    |none=>none
   |none=>none
  |_=>none
 |_,_=>none
def lS(E:Env)(s:TypeId)(x:J)(f:Nat) :Option J:=
 match E.ty s,x with
 |some i,.agg cs=>match i.desc with
  | .struct fs=>match fs[f]? with
   |some fd=>nk E fd.type cs fd.offset
   |none=>none
  |_=>none
 |_,_=>none
def mB(x:Int)(n:Nat) :Option Nat:=
 match x with
 | .ofNat i=>bif Nat.blt i n then some i else none
 | .negSucc _=>none
def eV(E:Env)(t:TypeId)(x fx:J) :Option J:=
 match E.ty t,fx with
 |some i,.int _ n=>
  match i.desc,x with
  | .array len e,.ptr id off=>match E.ty e,mB n len with
   |some ie,some j=>some (.ptr id (off+j*ie.size))
   |_,_=>none
  | .slice e,.slice id off len _ cu _=>match E.ty e,mB n len with
   |some ie,some j=>bif Nat.beq ie.size cu then some (.ptr id (off+j*cu))else none
   |_,_=>none
  |_,_=>none
 |_,_=>none
def jn(E:Env)(t:TypeId)(x fx:J) :Option J:=
 match E.ty t,fx with
 |some i,.int _ n=>
  match i.desc,x with
  | .array len e,.agg cs=>match E.ty e,mB n len with
   |some ie,some j=>nk E e cs (j*ie.size)
   |_,_=>none
  | .string,.str len m=>match mB n len with
   |some j=>some (.int .u8 (.ofNat (cC m j)))
   |none=>none
  |_,_=>none
 |_,_=>none
def bm.zeroV(i:bm) :J:=match nd i.desc with
 |true=>.agg i.zero
 |false=>i.zero.headD .undef
def oY:TypeDesc->Bool
 | .int _| .string| .bool=>true
 |_=>false
def x0:List Field->Nat->Bool
 |[],_=>true
 |f::fs,i=>Nat.beq f.offset i&&x0 fs (i+1)
def sf(E:Env)(t:TypeId) :Bool:=
 match E.ty t with
 |some i=>oY i.desc||(match i.desc with
  | .struct fs=>i.plain&&x0 fs.toList 0&&Nat.beq i.size fs.toList.length&&fs.toList.all λf=>match E.ty f.type with
   |some e7=>oY e7.desc&&Nat.beq e7.size 1
   |none=>false
  |_=>false)
 |none=>false
def lz(E:Env)(h:ag)(dv:TypeId)(k:J) :Bool:=
 sf E dv&&(match fm E h 5 dv k k with
  |some b=>b
  |none=>false) &&(match k,E.ty dv with
  | .agg cs,some i=>Nat.beq cs.length i.size
  |_,_=>true)
def HZ:J->J->Bool
 | .agg a,.agg b=>Nat.beq a.length b.length
 |_,_=>true
def h6(E:Env)(h:ag)(dv:TypeId)(k:J) :List (J×J×Nat)->Nat->Option (Option (Nat×J×Nat))
 |[],_=>some none
 |(dg,v,b)::es,i=>
  bif HZ k dg then match fm E h 5 dv k dg with
  |some true=>some (some (i,v,b))
  |some false=>h6 E h dv k es (i+1)
  |none=>none else none
def iD(E:Env)(h:ag)(t:TypeId)(x fx:J)(ok:Bool) :Option J:=
 match E.ty t with
 |none=>none
 |some i=>match i.desc with
  | .map dv e=>
   match E.ty e with
   |none=>none
   |some ie=>
   bif lz E h dv fx then
    match x with
    | .gf=>match h6 E h dv fx [] 0 with
     |some none=>some (bif ok then .tuple [ie.zeroV,.bool false]else ie.zeroV)
     |_=>none
    | .map id=>match h.get id with
     | .map es _=>match h6 E h dv fx es 0 with
      |some (some (_,v,_))=>some (bif ok then .tuple [v,.bool true]else v)
      |some none=>some (bif ok then .tuple [ie.zeroV,.bool false]else ie.zeroV)
      |none=>none
     |_=>none
    |_=>none
   else none
  |_=>none
def tV:List (J×J×Nat)->Nat->J->List (J×J×Nat)
 |[],_,_=>[]
 |(k,_,b)::es,0,v=>(k,v,b)::es
 |e::es,i+1,v=>e::tV es i v
def iE(E:Env)(h:ag)(t:TypeId)(x k v:J) :Option ag:=
 match E.ty t,x with
 |some i,.map id=>match i.desc,h.get id with
  | .map dv _,.map es clock=>
   bif lz E h dv k then
    match h6 E h dv k es 0 with
    |some (some (i,_,_))=>some (h.put id (.map (tV es i v) clock))
    |some none=>some (h.put id (.map (es++[(k,v,clock)]) (clock+1)))
    |none=>none
   else none
  |_,_=>none
 |_,_=>none
def kn(E:Env)(h:ag)(t:TypeId)(x k:J) :Option ag:=
 match E.ty t,x with
 |some i,.map id=>match i.desc,h.get id with
  | .map dv _,.map es clock=>
   bif lz E h dv k then
    match h6 E h dv k es 0 with
    |some (some (i,_,_))=>some (h.put id (.map (es.eraseIdx i) clock))
    |some none=>some h
    |none=>none
   else none
  |_,_=>none
 |_,_=>none
def kv:J->Option Nat
 | .bh=>some 0
 | .slice _ _ len _ _ _=>some len
 | .str len _=>some len
 |_=>none
def roomy(l2 bytes:Nat) :Bool:=Nat.ble ((2*l2+200) *bytes) 140737488355328&&Nat.ble 1 bytes
def yT(h:ag)(x:J)(n:Nat) :Option Nat:=
 match x with
 | .slice id off _ _ _ _=>mK h id off n
 | .str _ m=>some (m%2^(8*n))
 |_=>none
def pC(h:ag)(id:Nat)(ex:Bool)(o:Bool->bp) :Option ag:=
 match ex with
 |true=>some (h.new (o false))
 |false=>match(h.get id).row with
  |some (_,st)=>some ((h.put id .dead).new (o st))
  |none=>none
def fJ(E:Env)(h:ag)(aia ak5:TypeId)(s x:J) :Option (J×ag):=
 match E.ty aia,E.ty ak5,kv x with
 |some si,some K1,some n=>
  match si.desc,(match K1.desc with| .slice _| .string=>true|_=>false)with
  | .slice e,true=>
   match E.ty e with
   |none=>none
   |some ie=>
   match n with
   |0=>match s with
    | .bh=>some (.bh,h)
    | .slice a b c d e f=>some (.slice a b c d e f,h)
    |_=>none
   |n+1=>
   match hF ie.desc with
   |true=>bif Nat.beq ie.size 1 then match yT h x (n+1)with
    |none=>none
    |some new=>
    match s with
    | .bh=>bif roomy (n+1) ie.bytes then some (.slice h.next 0 (n+1) (n+1) 1 false,h.new (.bytes (n+1) false new))else none
    | .slice id off len cap cu ex=>
     bif Nat.beq cu 1 then
     bif Nat.ble (len+(n+1)) cap then match ox h id (off+len) (n+1) new with
      |some h=>some (.slice id off (len+(n+1)) cap 1 ex,h)
      |none=>none
     else match mK h id off len with
      |none=>none
      |some old=>bif roomy (len+(n+1)) ie.bytes then
       match pC h id ex (λst=>.bytes (len+(n+1)) st (old+new<<< (8*len)))with
       |some g=>some (.slice h.next 0 (len+(n+1)) (len+(n+1)) 1 false,g)
       |none=>none
       else none
     else none
    |_=>none
    else none
   |false=>match x with
    | .slice xid xoff _ _ Bq _=>bif Nat.beq Bq ie.size&&Nat.ble 1 ie.size then match jM h xid xoff ((n+1) *ie.size)with
     |none=>none
     |some new=>
     match s with
     | .bh=>bif roomy (n+1) ie.bytes then some (.slice h.next 0 (n+1) (n+1) ie.size false,h.new (.cells ((n+1) *ie.size) false [] (bj.ofList new)))else none
     | .slice id off len cap cu ex=>
      bif Nat.beq cu ie.size&&new.all dT then
      bif Nat.ble (len+(n+1)) cap then match jc h id (off+len*ie.size) new with
       |some h=>some (.slice id off (len+(n+1)) cap ie.size ex,h)
       |none=>none
      else bif roomy (len+(n+1)) ie.bytes then
       match h.get id,Nat.beq off 0 with
       | .cells size _ zero t,true=>bif Nat.ble (len*ie.size) size then
        match pC h id ex (λst=>.cells ((len+(n+1)) *ie.size) st zero (bj.oe new (len*ie.size) t))with
        |some g=>some (.slice h.next 0 (len+(n+1)) (len+(n+1)) ie.size false,g)
        |none=>none
        else none
       |o,_=>match o.read off (len*ie.size)with
        |none=>none
        |some old=>match pC h id ex (λst=>.cells ((len+(n+1)) *ie.size) st [] (bj.ofList (old++new)))with
         |some g=>some (.slice h.next 0 (len+(n+1)) (len+(n+1)) ie.size false,g)
         |none=>none
      else none else none
     |_=>none
     else none
    |_=>none
  |_,_=>none
 |_,_,_=>none
def jB(E:Env)(h:ag)(Xq:TypeId)(d x:J) :Option (J×ag):=
 match E.ty Xq,kv x,(match d with| .str _ _=>none|d=>kv d)with
 |some Mi,some a,some b=>
  match Mi.desc with
  | .slice e=>
   match E.ty e with
   |none=>none
   |some ie=>
   match min a b with
   |0=>some (.int .i64 (.ofNat 0),h)
   |n+1=>
    match d with
    | .slice id off _ _ cu _=>
     bif Nat.beq cu ie.size then
     match hF ie.desc with
     |true=>bif Nat.beq ie.size 1 then match yT h x (n+1)with
      |some new=>match ox h id off (n+1) new with
       |some h=>some (.int .i64 (.ofNat (n+1)),h)
       |none=>none
      |none=>none else none
     |false=>match x with
      | .slice xid xoff _ _ Bq _=>bif Nat.beq Bq ie.size&&Nat.ble 1 ie.size then match jM h xid xoff ((n+1) *cu)with
       |some cs=>match jc h id off cs with
        |some h=>some (.int .i64 (.ofNat (n+1)),h)
        |none=>none
       |none=>none else none
      |_=>none
     else none
    |_=>none
  |_=>none
 |_,_,_=>none
def jh(E:Env)(h:ag)(t:TypeId)(x:J) :Option ag:=
 match E.ty t with
 |none=>none
 |some i=>match x with
  | .gf=>some h
  | .bh=>some h
  | .slice id off len _ cu _=>match len with
   |0=>some h
   |n+1=>match i.desc with
    | .slice e=>match E.ty e with
     |none=>none
     |some ie=>bif Nat.beq cu ie.size then match hF ie.desc,ie.zero with
      |true,[.int .u8 (.ofNat 0)]=>bif Nat.beq ie.size 1 then ox h id off (n+1) 0 else none
      |_,_=>bif Nat.ble 1 ie.size then jc h id off (iH (n+1) ie.zero)else none else none
    |_=>none
  | .map id=>match h.get id with
   | .map _ clock=>some (h.put id (.map [] clock))
   |_=>none
  |_=>none
def xR(E:Env)(t:TypeId)(l c:J) :Option (Nat×Nat×Nat×bp):=
 match E.ty t,l,c with
 |some i,.int _ (.ofNat l),.int _ (.ofNat c)=>match i.desc with
  | .slice e=>match E.ty e with
   |some ie=>
    bif Nat.ble l c&&Nat.ble (ie.bytes*c) 140737488355328&&Nat.ble 1 ie.bytes then
     match hF ie.desc,ie.zero with
     |true,[.int .u8 (.ofNat 0)]=>some (l,c,ie.size,.bytes c false 0)
     |_,_=>some (l,c,ie.size,.cells (c*ie.size) false ie.zero .nil)
    else none
   |none=>none
  |_=>none
 |_,_,_=>none
def jI:J->List J->Option J
 |v,[]=>some v
 | .int k a,.int _ b::rest=>jI (.int k (bif mE b a then b else a)) rest
 |_,_=>none
def jH:J->List J->Option J
 |v,[]=>some v
 | .int k a,.int _ b::rest=>jH (.int k (bif mE a b then b else a)) rest
 |_,_=>none
def eW(E:Env)(h:ag)(t:TypeId)(x:J) :Option J:=
 match E.ty t with
 |none=>none
 |some i=>match i.desc,x with
  | .string,.str l _=>some (.int .i64 (.ofNat l))
  | .array n _,_=>some (.int .i64 (.ofNat n))
  | .slice _,.bh=>some (.int .i64 (.ofNat 0))
  | .slice _,.slice _ _ l _ _ _=>some (.int .i64 (.ofNat l))
  | .map _ _,.gf=>some (.int .i64 (.ofNat 0))
  | .map _ _,.map id=>match h.get id with
   | .map es _=>some (.int .i64 (.ofNat es.length))
   |_=>none
  |_,_=>none
def lO(E:Env)(t:TypeId)(x:J) :Option J:=
 match E.ty t with
 |none=>none
 |some i=>match i.desc,x with
  | .slice _,.bh=>some (.int .i64 (.ofNat 0))
  | .slice _,.slice _ _ _ c _ true=>some (.int .i64 (.ofNat c))
  |_,_=>none
inductive nC where
 |value (v:J) (h:ag)
 |skip (h:ag)
 |call (f:J) (args:List J)
 |bad
 deriving Inhabited
def nC.IS:Option J->ag->nC
 |some v,h=>.value v h
 |none,_=>.bad
def nC.P':Option (J×ag)->nC
 |some (v,h)=>.value v h
 |none=>.bad
def nC.P_:Option ag->nC
 |some h=>.skip h
 |none=>.bad
def nC.Qa:Option ag->nC
 |some h=>.value .undef h
 |none=>.bad
def ep(E:Env)(r:bl)(h:ag)(op:Op) :Option J:=
 match op with
 | .move x| .assign x=>dk E r x
 | .pick c a b=>match dk E r c with
  |some (.bool true)=>dk E r a
  |some (.bool false)=>dk E r b
  |_=>none
 | .build t parts=>match E.ty t,qk E r parts.toList with
  |some i,some ps=>match i.desc with
   | .struct _=>match kQ (λk=>i.parts[k]?) i.zero ps with
    |some cs=>some (.agg cs)
    |none=>none
   | .array _ e=>match E.ty e with
    |some ie=>match kQ (λk=>some (k*ie.size,ie.size)) i.zero ps with
     |some cs=>some (.agg cs)
     |none=>none
    |none=>none
   |_=>none
  |_,_=>none
 | .load t a=>match dk E r a with
  |some (.ptr id off)=>loadT E h t id off
  |_=>none
 | .nilCheck x=>match dk E r x with
  |some (.ptr id off)=>some (.ptr id off)
  |some (.func f a b)=>some (.func f a b)
  |some (.yield l)=>some (.yield l)
  |_=>none
 | .binOp op t x y _=>match dk E r x,dk E r y with
  |some a,some b=>cV E h op t a b
  |_,_=>none
 | .unOp op _ x=>match dk E r x with
  |some a=>k5 op a
  |_=>none
 | .convert s d x=>match dk E r x with
  |some a=>fS E h s d a
  |_=>none
 | .makeFunc fn first captured=>match fn,kp E r first.toList,kp E r captured.toList with
  | .func f,some a,some b=>some (.func f a b)
  |_,_,_=>none
 | .slice t x lo U e'=>match dk E r x,qS E r lo,qS E r U,qS E r e' with
  |some v,some lo,some U,some e'=>jP E h t v lo U e'
  |_,_,_,_=>none
 | .fieldAddr s x f=>match dk E r x with
  |some v=>gN E s v f
  |none=>none
 | .field s x f=>match dk E r x with
  |some v=>lS E s v f
  |none=>none
 | .indexAddr t x fx=>match dk E r x,dk E r fx with
  |some v,some i=>eV E t v i
  |_,_=>none
 | .index t x fx=>match dk E r x,dk E r fx with
  |some v,some i=>jn E t v i
  |_,_=>none
 | .lookup t x fx ok=>match dk E r x,dk E r fx with
  |some v,some i=>iD E h t v i ok
  |_,_=>none
 | .extract t i=>match dk E r t with
  |some (.tuple vs)=>vs[i]?
  |_=>none
 | .call c=>match c.callee,kp E r c.args.toList with
  | .builtin .len,some [x]=>match c.argTypes[0]? with
   |some t=>eW E h t x
   |none=>none
  | .builtin .cap,some [x]=>match c.argTypes[0]? with
   |some t=>lO E t x
   |none=>none
  | .builtin .min,some (x::xs)=>jI x xs
  | .builtin .max,some (x::xs)=>jH x xs
  |_,_=>none
 |_=>none
def jq(E:Env)(r:bl)(op:Op) :Option ((Nat->J) ×bp):=
 match op with
 | .alloc t=>match E.ty t with
  |some i=>some (λid=>.ptr id 0,qN i.desc i.zero)
  |none=>none
 | .box t x=>match E.ty t,dk E r x with
  |some i,some v=>some (λid=>.ptr id 0,qN i.desc v.cells)
  |_,_=>none
 | .buildSlice t len parts=>match E.ty t,qk E r parts.toList with
  |some i,some ps=>match i.desc with
   | .slice e=>match E.ty e with
    |some ie=>bif Nat.ble (len*ie.size) 16777216 then match kQ (λk=>some (k*ie.size,ie.size)) (iH len ie.zero) ps with
     |some cs=>some (λid=>.slice id 0 len len ie.size true,qN ie.desc cs)
     |none=>none else none
    |none=>none
   |_=>none
  |_,_=>none
 | .makeMap _ none=>some (λid=>.map id,.map [] 0)
 | .makeSlice t l c=>match dk E r l,dk E r c with
  |some a,some b=>match xR E t a b with
   |some (l,c,sz,o)=>some (λid=>.slice id 0 l c sz true,o)
   |none=>none
  |_,_=>none
 | .convert s d x=>match E.ty s,dk E r x with
  |some _,some a=>match B1 E d a with
   |some (l,o)=>some (λid=>.slice id 0 l l 1 false,o)
   |none=>none
  |_,_=>none
 |_=>none
def mU(E:Env)(r:bl)(h:ag)(op:Op) :nC:=
 match op with
 | .store t a x=>match dk E r a,dk E r x with
  |some (.ptr id off),some v=>.P_ (storeT E h t id off v)
  |_,_=>.bad
 | .mapUpdate t m k x| .insert t m k x=>match dk E r m,dk E r k,dk E r x with
  |some m,some k,some v=>.P_ (iE E h t m k v)
  |_,_,_=>.bad
 | .call c=>match c.callee with
  | .builtin b=>match b,kp E r c.args.toList with
   | .append,some [s,x]=>match c.argTypes[0]?,c.argTypes[1]? with
    |some t,some u=>.P' (fJ E h t u s x)
    |_,_=>.bad
   | .copy,some [d,x]=>match c.argTypes[0]? with
    |some t=>.P' (jB E h t d x)
    |none=>.bad
   | .clear,some [x]=>match c.argTypes[0]? with
    |some t=>.Qa (jh E h t x)
    |none=>.bad
   | .delete,some [m,k]=>match c.argTypes[0]? with
    |some t=>.Qa (kn E h t m k)
    |none=>.bad
   |_,_=>.bad
  | .value f=>match dk E r f,kp E r c.args.toList with
   |some f,some ck=>.call f ck
   |_,_=>.bad
  | .invoke _ _=>.bad
 |_=>.bad
inductive Vj where
 |look
 |make
 |act
def kindOf(E:Env) :Op->Vj
 | .alloc _| .box .. | .buildSlice .. | .makeSlice .. | .makeMap .. =>.make
 | .convert _ d _=>bif HO E d then .make else .look
 | .store .. | .mapUpdate .. | .insert .. | .mapEntry .. | .entryStore .. =>.act
 | .call c=>match c.callee with
  | .builtin .len| .builtin .cap| .builtin .min| .builtin .max=>.look
  |_=>.act
 |_=>.look
def ih(E:Env)(r:bl)(h:ag)(op:Op) :nC:=
 match kindOf E op with
 | .look=>.IS (ep E r h op) h
 | .make=>match jq E r op with
  |some (v,o)=>.value (v h.next) (h.new o)
  |none=>.bad
 | .act=>mU E r h op
inductive cW where
 |normal
 |exit (id:Nat)
 |goto (l:Nat)
 |ret
 deriving Inhabited
structure cl where
 r:bl
 n:Nat
 ds:List Nat
 h:ag
 deriving Inhabited
def om(s:cl)(d:Option Tmp)(v:J)(h:ag) :Option cl:=
 match d with
 |none=>some {s with h}
 |some d=>bif Nat.blt d s.n then some {s with r:=s.r.set d v,h}else none
def gB(ops:Array Oper)(r:bl)(o:Oper) :Bool:=
 match o.guard with
 |none=>true
 |some (j,want)=>match ops[j]? with
  |some g=>match g.dst with
   |some d=>match r.get d with
    | .bool b=>b==want
    |_=>false
   |none=>false
  |none=>false
structure ff where
 code:Option Nat->Code->cl->Option (cW×cl)
 call:J->List J->ag->Option (J×ag)
def js(E:Env)(F:ff)(ops:Array Oper)(o:Oper)(s:cl) :Option cl:=
 match gB ops s.r o with
 |false=>om s o.dst .undef s.h
 |true=>match ih E s.r s.h o.op with
  | .value v h=>om s o.dst v h
  | .skip h=>om s o.dst .undef h
  | .call f args=>match F.call f args s.h with
   |some (v,h)=>om s o.dst v h
   |none=>none
  | .bad=>none
def ll(E:Env)(F:ff)(ops:Array Oper) :List Oper->cl->Option cl
 |[],s=>some s
 |o::rest,s=>match js E F ops o s with
  |some s=>ll E F ops rest s
  |none=>none
structure Seen where
 i:Nat
 o:Oper
 r:bl
 v:J
def iP(E:Env)(F:ff)(ops:Array Oper)(base:Nat) :List Oper->Nat->cl->List (Nat×ag)->List Seen->Option (cl×List (Nat×ag) ×List Seen)
 |[],_,s,gs,ls=>some (s,gs,ls)
 |o::rest,i,s,gs,ls=>
  match kindOf E o.op,gB ops s.r o with
  | .act,_=>match js E F ops o s with
   |some aS=>iP E F ops base rest (i+1) aS ((i,s.h)::gs) ls
   |none=>none
  | .make,true=>match jq E s.r o.op with
   |some (v,bP)=>match om s o.dst (v (base+i)) (s.h.put (base+i) bP)with
    |some aS=>iP E F ops base rest (i+1) aS gs ls
    |none=>none
   |none=>none
  | .look,true=>match ep E s.r s.h o.op with
   |some v=>match om s o.dst v s.h with
    |some aS=>iP E F ops base rest (i+1) aS gs ({i,o,r:=s.r,v}::ls)
    |none=>none
   |none=>none
  |_,false=>match om s o.dst .undef s.h with
   |some aS=>iP E F ops base rest (i+1) aS gs ls
   |none=>none
def z6(E:Env)(o:Oper) :Bool:=match kindOf E o.op with
 | .act=>true
 |_=>false
def qh(acc:List Nat) :List Edge->Nat
 |[]=>0
 |e::es=>bif Region.binds .any e then 2^e.on|||acc.getD e.on 0|||qh acc es else qh acc es
def jX:List Oper->List Nat->List Nat
 |[],acc=>acc
 |o::rest,acc=>jX rest (acc++[qh acc o.after.toList])
def iO(n i:Nat) :Bool:=Nat.beq ((n>>>i) %2) 1
def Kf:Operand->List Nat
 | .tmp t=>[t]
 |_=>[]
def tmpsOf(ops:Array Oper)(o:Oper) :List Nat:=
 o.op.operands.toList.flatMap Kf++
  (match o.guard with
   |some (j,_)=>match ops[j]? with
    |some g=>match g.dst with
     |some d=>[d]
     |none=>[]
    |none=>[]
   |none=>[])
def ob(x:Nat) :List Nat->Bool
 |[]=>false
 |y::fe=>Nat.beq x y||ob x fe
def BD(ops:Array Oper)(x y:Oper) :Bool:=
 (match x.dst with
  |some d=> !ob d (tmpsOf ops y) &&(match y.dst with|some e=> !Nat.beq d e|none=>true)
  |none=>true) &&
 (match y.dst with
  |some d=> !ob d (tmpsOf ops x)
  |none=>true)
def DO(E:Env)(ops:Array Oper)(b j:Nat)(y:Oper) :List Oper->Nat->Bool
 |[],_=>true
 |x::xs,i=>bif Nat.blt i j then(iO b i||(!(z6 E x&&z6 E y) &&BD ops x y)) &&DO E ops b j y xs (i+1)else true
def B7(j:Nat) :List Edge->Bool
 |[]=>true
 |e::es=>(!Region.binds .any e||Nat.blt e.on j) &&B7 j es
def k3(E:Env)(ops:Array Oper)(bs:List Nat) :List Oper->Nat->Bool
 |[],_=>true
 |y::rest,j=>B7 j y.after.toList&&DO E ops (bs.getD j 0) j y ops.toList 0&&k3 E ops bs rest (j+1)
def o0(bs:List Nat)(i:Nat)(f:ag->Bool)(last:ag) :List (Nat×ag)->Bool
 |[]=>f last
 |(a,g)::rest=>bif iO (bs.getD i 0) a then o0 bs i f last rest else f g&&(iO (bs.getD a 0) i||o0 bs i f last rest)
def pQ(E:Env)(s:Seen)(g:ag) :Bool:=
 match ep E s.r g s.o.op with
 |some v=>J.beq v s.v
 |none=>false
def sm(E:Env)(bs:List Nat)(gs:List (Nat×ag))(last:ag) :List Seen->Bool
 |[]=>true
 |s::rest=>o0 bs s.i (pQ E s) last gs&&sm E bs gs last rest
def rJ(E:Env)(F:ff)(ops:Array Oper)(s:cl) :Option cl:=
 match jX ops.toList []with
 |bs=>
 bif k3 E ops bs ops.toList 0 then
  match iP E F ops s.h.next ops.toList 0 {s with h:={s.h with next:=s.h.next+ops.size}} [] []with
  |some (aS,gs,ls)=>bif sm E bs gs.reverse aS.h ls then some aS else none
  |none=>none
 else none
def n':Nat->(cl->Option (cW×cl))->cl->Option (cW×cl)
 |0,f,s=>f s
 |k+1,f,s=>match n' k f s with
  |some (.normal,aS)=>n' k f aS
  |r=>r
def ur(F:ff)(ro:Option Nat)(body:Code) :Nat->Code->cl->Option (cW×cl)
 |0,_,_=>none
 |k+1,c,s=>match F.code ro c s with
  |some (.goto l,aS)=>match findLabel body l with
   |some rest=>ur F ro body k rest aS
   |none=>some (.goto l,aS)
  |r=>r
def AA(ro:Option Nat)(s:cl) :Option (Nat×cl):=
 match ro with
 |some l=>match s.h.get l with
  | .loop _ _ _ _ _ _ _ d=>some (d,s)
  |_=>none
 |none=>some (s.h.next,{s with h:=s.h.new .deferred,ds:=s.h.next::s.ds})
def ue(F:ff)(ro:Option Nat)(fv:J)(params:Array Tmp)(assign body:Code)(d:Nat)(s:cl) :Option (cW×cl):=
 match F.call fv [.yield s.h.next] (s.h.new (.loop .ready none s.n s.r params assign body d))with
 |none=>none
 |some (_,h)=>
  match h.get s.h.next with
  | .loop st pend n r ps a b d=>match st with
   | .busy=>none
   |_=>
    let s:={s with h:=h.put s.h.next (.loop .exhausted pend n r ps a b d)}
    match pend with
    |none=>some (.normal,s)
    |some c=>F.code ro c s
  |_=>none
def fR(E:Env)(F:ff)(ro:Option Nat)(c:Code)(s:cl) :Option (cW×cl):=
 match c with
 | .skip| .label _=>some (.normal,s)
 | .seq a b=>match F.code ro a s with
  |some (.normal,aS)=>F.code ro b aS
  |r=>r
 | .cond x a b=>match dk E s.r x with
  |some (.bool true)=>F.code ro a s
  |some (.bool false)=>F.code ro b s
  |_=>none
 | .block id b=>match F.code ro b s with
  |some (.exit na,aS)=>bif Nat.beq na id then some (.normal,aS)else some (.exit na,aS)
  |r=>r
 | .loop b=>match n' 14 (F.code ro b) s with
  |some (.normal,_)=>none
  |r=>r
 | .exit id=>some (.exit id,s)
 | .goto l=>some (.goto l,s)
 | .ret=>some (.ret,s)
 | .scope b=>ur F ro b 9 b s
 | .refuse _=>none
 | .region _ ops rG=>match rG with
  |false=>match ll E F ops ops.toList s with
   |some aS=>some (.normal,aS)
   |none=>none
  |true=>match rJ E F ops s with
   |some aS=>some (.normal,aS)
   |none=>none
 | .rangeFunc f params assign body=>
  match dk E s.r f with
  |none=>none
  |some fv=>match AA ro s with
   |none=>none
   |some (d,s)=>ue F ro fv params assign body d s
def qX:List J->Nat->bl->bl
 |[],_,r=>r
 |v::vs,i,r=>qX vs (i+1) (r.set i v)
def vZ:List Tmp->List J->Nat->bl->Option bl
 |[],[],_,r=>some r
 |t::ts,v::vs,n,r=>bif Nat.blt t n then vZ ts vs n (r.set t v)else none
 |_,_,_,_=>none
def k2(E:Env)(r:bl)(h:ag) :List ResultVar->Option (List J)
 |[]=>some []
 | .tmp t::rest=>match k2 E r h rest with
  |some l=>some (r.get t::l)
  |none=>none
 | .cell a t::rest=>match r.get a,k2 E r h rest with
  | .ptr id off,some l=>match loadT E h t id off with
   |some v=>some (v::l)
   |none=>none
  |_,_=>none
def qg:List Nat->ag->Option ag
 |[],h=>some h
 |d::ds,h=>match h.get d with
  | .deferred=>qg ds (h.put d .dead)
  |_=>none
def km(E:Env)(F:ff)(f:J)(args:List J)(h:ag) :Option (J×ag):=
 match f with
 | .func f first captured=>
  match E.fn f with
  |none=>none
  |some fn=>match fn.body with
   |none=>none
   |some body=>
    let ck:=first++args++captured
    match F.code none body {r:=qX ck 0 .nil,n:=max fn.ntmps ck.length,ds:=[],h}with
    |some (x,s)=>match(match x with| .normal| .ret=>true|_=>false)with
     |true=>match qg s.ds s.h with
      |none=>none
      |some h=>match k2 E s.r h fn.results.toList with
       |some [v]=>some (v,h)
       |some []=>some (.undef,h)
       |some vs=>some (.tuple vs,h)
       |none=>none
     |false=>none
    |none=>none
 | .yield l=>
  match h.get l with
  | .loop .ready _ n r params assign body _=>
   match vZ params.toList args n r with
   |none=>none
   |some b9=>
    match F.code (some l) assign {r:=b9,n,ds:=[],h}with
    |some (.normal,s)=>
     match s.h.get l with
     | .loop .ready pend n r params assign Wd d=>
      match F.code (some l) body {s with h:=s.h.put l (.loop .busy pend n r params assign Wd d)}with
      |some (x,s)=>
       match s.h.get l,s.ds with
       | .loop _ _ n r params assign body d,[]=>
        match x with
        | .normal=>some (.bool true,s.h.put l (.loop .ready none n r params assign body d))
        | .exit id=>some (.bool false,s.h.put l (.loop .done (some (.exit id)) n r params assign body d))
        | .goto g=>some (.bool false,s.h.put l (.loop .done (some (.goto g)) n r params assign body d))
        | .ret=>some (.bool false,s.h.put l (.loop .done (some .ret) n r params assign body d))
       |_,_=>none
      |none=>none
     |_=>none
    |_=>none
  |_=>none
 |_=>none
abbrev cw:=FuncId->Option (List J->ag->Option (J×ag))
def oG(E:Env)(p:cw)(F:ff)(f:J)(args:List J)(h:ag) :Option (J×ag):=
 match f with
 | .func g [] []=>match p g with
  |some q=>match q args h with
   |some r=>some r
   |none=>km E F f args h
  |none=>km E F f args h
 |_=>km E F f args h
def Ch(E:Env)(p:cw)(F:ff) :ff:={code:=fR E F,call:=oG E p F}
def fns(E:Env)(p:cw) :Nat->ff
 |0=>{code:=λ_ _ _=>none,call:=λ_ _ _=>none}
 |n+1=>Ch E p (fns E p n)
theorem beq_true{a b:Nat} :Nat.beq a b=true↔a=b:=by rw[Nat.beq_eq]
theorem beq_false{a b:Nat} :Nat.beq a b=false↔a≠b:=by rw[<-Bool.not_eq_true,beq_true]
theorem c4{a b:Nat} :Nat.blt a b=true↔a<b:=by rw[Nat.blt_eq]
theorem dr{a b:Nat} :Nat.ble a b=true↔a<=b:=by rw[Nat.ble_eq]
theorem VU(a b:Nat) :Nat.beq a b=decide (a=b):=by
 cases h:Nat.beq a b
 ·exact(decide_eq_false (beq_false.1 h)).symm
 ·exact(decide_eq_true (beq_true.1 h)).symm
theorem cond_decide{α:Type}(p:Prop) [Decidable p](a b:α) :(bif decide p then a else b)=if p then a else b:=by by_cases h:p<;>simp[h]
namespace bj
variable{α:Type}
theorem get_nil(j:Nat) :(bj.nil:bj α).get j=none:=rfl
theorem tk{β:Sort _}(b:Bool)(x y:β) :(Bool.rec x y b:β)=if b=true then y else x:=by cases b<;>rfl
theorem oM(l r:bj α)(v:Option α)(j:Nat) :(bj.node l v r).get j=if j=0 then v else if j%2=1 then l.get (j/2)else r.get (j/2-1):=by have e:(bj.node l v r).get j=Bool.rec (Bool.rec (r.get (j/2-1)) (l.get (j/2)) (Nat.beq (j%2) 1)) v (Nat.beq j 0):=rfl;rw[e,tk,tk];simp only[beq_true]
theorem Y1:∀(d:Nat) (k:Nat) (x:α) (j:Nat),k<d->(yg d k x).get j=if j=k then some x else none:=by
 intro d;induction d with
 |zero=>intro k x j h;omega
 |succ d bI=>
  intro k x j h;have e:yg (d+1) k x=Bool.rec (Bool.rec (.node .nil none (yg d (k/2-1) x)) (.node (yg d (k/2) x) none .nil) (Nat.beq (k%2) 1)) (.node .nil (some x) .nil) (Nat.beq k 0):=rfl;rw[e,tk,tk];simp only[beq_true];by_cases aj:k=0
  ·subst aj;simp only[if_true,oM,get_nil,ite_self]
  ·by_cases aD:k%2=1
   ·simp only[aj,aD,if_true,if_false,oM,get_nil,bI (k/2) _ _ (by omega)];by_cases az:j=0
    ·simp[az];omega
    ·by_cases ay:j%2=1
     ·have:(j/2=k/2)=(j=k):=by apply propext;omega
      simp[az,ay,this]
     ·have:¬j=k:=by omega
      simp[az,ay,this]
   ·simp only[aj,aD,if_false,oM,get_nil,bI (k/2-1) _ _ (by omega)];by_cases az:j=0
    ·simp[az];omega
    ·by_cases ay:j%2=1
     ·have:¬j=k:=by omega
      simp[az,ay,this]
     ·have:(j/2-1=k/2-1)=(j=k):=by apply propext;omega
      simp[az,ay,this]
theorem kq:∀(t:bj α) (k:Nat) (x:α) (j:Nat),(t.set k x).get j=if j=k then some x else t.get j:=by
 intro t;induction t with
 |nil=>
  intro k x j;have e:(bj.nil:bj α).set k x=yg (k+1) k x:=rfl;rw[e,Y1 _ _ _ _ (by omega)];rfl
 |node l v r r_ r'=>
  intro k x j;have e:(bj.node l v r).set k x=Bool.rec (Bool.rec (.node l v (r.set (k/2-1) x)) (.node (l.set (k/2) x) v r) (Nat.beq (k%2) 1)) (.node l (some x) r) (Nat.beq k 0):=rfl;rw[e,tk,tk];simp only[beq_true];by_cases aj:k=0
  ·subst aj;simp only[if_true,oM];by_cases az:j=0<;>simp[az]
  ·by_cases aD:k%2=1
   ·simp only[aj,aD,if_true,if_false,oM,r_ (k/2)];by_cases az:j=0
    ·simp[az];omega
    ·by_cases ay:j%2=1
     ·have:(j/2=k/2)=(j=k):=by apply propext;omega
      simp[az,ay,this]
     ·have:¬j=k:=by omega
      simp[az,ay,this]
   ·simp only[aj,aD,if_false,oM,r' (k/2-1)];by_cases az:j=0
    ·simp[az];omega
    ·by_cases ay:j%2=1
     ·have:¬j=k:=by omega
      simp[az,ay,this]
     ·have:(j/2-1=k/2-1)=(j=k):=by apply propext;omega
      simp[az,ay,this]
theorem xd:∀(l:List α) (i:Nat) (t:bj α) (j:Nat),(oe l i t).get j=if i<=j/\j<i+l.length then l[j-i]? else t.get j:=by
 intro l;induction l with
 |nil=>intro i t j;have:¬(i<=j/\j<i):=by omega
       simp[oe,this]
 |cons x xs bI=>
  intro i t j;simp only[oe,bI,kq,List.length_cons];by_cases h1:i+1<=j/\j<i+1+xs.length
  ·have aa:i<=j/\j<i+(xs.length+1):=by omega
   rw[if_pos h1,if_pos aa];obtain⟨m,hm⟩ :∃m,j-i=m+1:=⟨j-i-1,by omega⟩;have:j-(i+1)=m:=by omega
   rw[hm,this,List.getElem?_cons_succ]
  ·rw[if_neg h1];by_cases av:j=i
   ·have aa:i<=j/\j<i+(xs.length+1):=by omega
    rw[if_pos av,if_pos aa,av];simp
   ·have aa:¬(i<=j/\j<i+(xs.length+1)):=by omega
    rw[if_neg av,if_neg aa]
theorem tx(l:List α)(j:Nat) :(ofList l).get j=l[j]? :=by
 unfold ofList;rw[xd];by_cases h:0<=j/\j<0+l.length
 ·rw[if_pos h];simp
 ·rw[if_neg h,get_nil,List.getElem?_eq_none (by omega)]
end bj
structure Loc where
 b:Nat
 o:Nat
 room:Nat
abbrev Map:=Nat->Option Loc
def bytesOf:Nat->Nat->List UInt8
 |0,_=>[]
 |l+1,n=>UInt8.ofNat (n%256)::bytesOf l (n/256)
mutual
def bk(σ:Nat->Int)(μ:Map) :J->Value->Prop
 | .undef,v=>v=.tuple #[]
 | .bool b,v=>v=.bool b
 | .int k n,v=>v=.int k n
 | .sym k e,v=>v=.int k (σ e)
 | .str l n,v=>n<2^(8*l)/\v=.string ⟨(bytesOf l n).toArray⟩
 | .nilPtr,v=>v=.pointer none
 | .ptr id off,v=>∃loc,μ id=some loc/\v=.pointer (some ⟨loc.b,loc.o+off,none⟩)
 | .bh,v=>v=.slice none 0 0
 | .slice id off len cap cu ex,v=>∃loc a c,μ id=some loc/\v=.slice (some a) len c/\len<=cap/\cap<=c/\(ex=true->c=cap)/\
  (c≠0->a=⟨loc.b,loc.o+off,none⟩)/\off+c*cu<=loc.room
 | .gf,v=>v=.map none
 | .map id,v=>∃loc,μ id=some loc/\v=.map (some loc.b)
 | .nilFunc,v=>v=.nilFunc
 | .func f a b,v=>∃x y,v=.func (.func f) x y/\bX σ μ a x.toList/\bX σ μ b y.toList
 | .yield id,v=>∃loc,μ id=some loc/\v=.func (.yield loc.b) #[] #[]
 | .nilIface,v=>v=.nilIface
 | .iface t x,v=>∃y,v=.iface t y/\bk σ μ x y
 | .agg cs,v=>∃vs,v=.agg vs/\bX σ μ cs vs.toList
 | .tuple cs,v=>∃vs,v=.tuple vs/\bX σ μ cs vs.toList
def bX(σ:Nat->Int)(μ:Map) :List J->List Value->Prop
 |[],vs=>vs=[]
 |a::ck,vs=>∃v c9,vs=v::c9/\bk σ μ a v/\bX σ μ ck c9
end
def Ext(μ bu:Map) :Prop:=∀id loc,μ id=some loc->bu id=some loc
theorem Ext.refl(μ:Map) :Ext μ μ:=λ_ _ h=>h
theorem Ext.trans{a b c:Map}(h:Ext a b)(bg:Ext b c) :Ext a c:=λi l x=>bg i l (h i l x)
mutual
theorem bk.ext{σ:Nat->Int}{μ bu:Map}(h:Ext μ bu) :∀(a:J) (v:Value),bk σ μ a v->bk σ bu a v
 | .undef,_,r=>r
 | .bool _,_,r=>r
 | .int _ _,_,r=>r
 | .sym _ _,_,r=>r
 | .str _ _,_,r=>r
 | .nilPtr,_,r=>r
 | .ptr _ _,_,⟨loc,ar,r⟩=>⟨loc,h _ _ ar,r⟩
 | .bh,_,r=>r
 | .slice _ _ _ _ _ _,_,⟨loc,a,c,ar,r⟩=>⟨loc,a,c,h _ _ ar,r⟩
 | .gf,_,r=>r
 | .map _,_,⟨loc,ar,r⟩=>⟨loc,h _ _ ar,r⟩
 | .nilFunc,_,r=>r
 | .func _ a b,_,⟨x,y,e,p,q⟩=>⟨x,y,e,bX.ext h a _ p,bX.ext h b _ q⟩
 | .yield _,_,⟨loc,ar,r⟩=>⟨loc,h _ _ ar,r⟩
 | .nilIface,_,r=>r
 | .iface _ x,_,⟨y,e,p⟩=>⟨y,e,bk.ext h x _ p⟩
 | .agg cs,_,⟨vs,e,p⟩=>⟨vs,e,bX.ext h cs _ p⟩
 | .tuple cs,_,⟨vs,e,p⟩=>⟨vs,e,bX.ext h cs _ p⟩
theorem bX.ext{σ:Nat->Int}{μ bu:Map}(h:Ext μ bu) :∀(ck:List J) (vs:List Value),bX σ μ ck vs->bX σ bu ck vs
 |[],_,r=>r
 |a::ck,_,⟨v,c9,e,p,q⟩=>⟨v,c9,e,bk.ext h a v p,bX.ext h ck c9 q⟩
end
section
variable{σ:Nat->Int}{μ:Map}
theorem bX.iF{vs:List Value} :bX σ μ [] vs↔vs=[]:=Iff.rfl
theorem bX.length:∀{ck:List J} {vs:List Value},bX σ μ ck vs->ck.length=vs.length
 |[],_,h=>by rw[bX.iF.1 h];rfl
 |a::ck,_,⟨v,c9,e,_,q⟩=>by rw[e,List.length_cons,List.length_cons,bX.length q]
theorem bX.append:∀{ck bs:List J} {vs us:List Value},bX σ μ ck vs->bX σ μ bs us->bX σ μ (ck++bs) (vs++us)
 |[],_,_,_,h,bg=>by rw[bX.iF.1 h];exact bg
 |a::ck,_,_,_,⟨v,c9,e,p,q⟩,bg=>by rw[e];exact⟨v,_,rfl,p,bX.append q bg⟩
theorem bX.get:∀{ck:List J} {vs:List Value},bX σ μ ck vs->∀(i:Nat) (a:J),ck[i]? =some a->∃v,vs[i]? =some v/\bk σ μ a v
 |[],_,_,i,a,h=>by simp at h
 |b::bs,_,⟨v,c9,e,p,q⟩,0,a,h=>by simp at h;subst h;exact⟨v,by rw[e];rfl,p⟩
 |b::bs,_,⟨v,c9,e,p,q⟩,i+1,a,h=>by obtain⟨u,hu,r⟩:=bX.get q i a (by simpa using h);exact⟨u,by rw[e];simpa using hu,r⟩
theorem bX.o6:∀{ck:List J} {vs:List Value},ck.length=vs.length->(∀(i:Nat) (a:J) (v:Value),ck[i]? =some a->vs[i]? =some v->bk σ μ a v)->bX σ μ ck vs
 |[],[],_,_=>rfl
 |a::ck,v::vs,ar,h=>⟨v,vs,rfl,h 0 a v rfl rfl,bX.o6 (by simpa using ar) λi b u af hu=>h (i+1) b u (by simpa using af) (by simpa using hu)⟩
theorem bX.drop:∀{ck:List J} {vs:List Value},bX σ μ ck vs->∀n,bX σ μ (ck.drop n) (vs.drop n)
 |ck,vs,h,0=>by simpa using h
 |[],vs,h,n+1=>by rw[bX.iF.1 h];simp[bX.iF]
 |a::ck,_,⟨v,c9,e,p,q⟩,n+1=>by rw[e];simpa using bX.drop q n
theorem bX.take:∀{ck:List J} {vs:List Value},bX σ μ ck vs->∀n,bX σ μ (ck.take n) (vs.take n)
 |ck,vs,h,0=>by simp[bX.iF]
 |[],vs,h,n+1=>by rw[bX.iF.1 h];simp[bX.iF]
 |a::ck,_,⟨v,c9,e,p,q⟩,n+1=>by rw[e];exact⟨v,_,rfl,p,bX.take q n⟩
end
def kJ(σ:Nat->Int)(μ:Map)(n:Nat)(r:bl)(tmps:Array Value) :Prop:=tmps.size=n/\∀i,bk σ μ (r.get i) (tmps.getD i undef)
def fX(σ:Nat->Int)(μ:Map) :List (J×J×Nat)->List MapEntry->Prop
 |[],es=>es=[]
 |(k,v,b)::ck,es=>∃e cj,es=e::cj/\bk σ μ k e.key/\bk σ μ v e.val/\e.born=b/\fX σ μ ck cj
def k9(σ:Nat->Int)(μ:Map)(cell:Nat->Option J)(size:Nat)(st:Bool)(loc:Loc)(x:Option Obj) :Prop:=
 ∃c E fr,x=some (.cells c E fr)/\c.size=loc.o+loc.room/\size<=loc.room/\(st=false->fr=(0,0))/\
  (∀i,i<c.size->¬(fr.1<=i/\i<fr.2))/\∀i,i<size->∃v y,cell i=some v/\c[loc.o+i]? =some y/\bk σ μ v y
def fg(σ:Nat->Int)(μ:Map)(o:bp)(loc:Loc)(x:Option Obj) :Prop:=
 match o with
 | .dead=>True
 | .cells size st zero t=>k9 σ μ (bp.cells size st zero t).cell size st loc x
 | .bytes size st n=>k9 σ μ (bp.bytes size st n).cell size st loc x
 | .ro size t=>(∀m,bj.get t 0=some (.map m)->loc.o=0)/\∃c E fr,x=some (.cells c E fr)/\∀i,i<size->∃v y,(bp.ro size t).cell i=some v/\c[loc.o+i]? =some y/\bk σ μ v y
 | .map es clock=>∃cj,x=some (.map cj clock)/\fX σ μ es cj.toList
 | .loop st pend n r params assign body d=>∃fn tmps mC,x=some (.loop {state:=st,pending:=pend,fn,tmps,params,assign,body,defers:=mC.b})/\μ d=some mC/\kJ σ μ n r tmps
 | .deferred=>x=some (.deferred (some []))
theorem kJ.ext{σ:Nat->Int}{μ bu:Map}(h:Ext μ bu){n:Nat}{r:bl}{tmps:Array Value}(ah:kJ σ μ n r tmps) :kJ σ bu n r tmps:=
 ⟨ah.1,λi=>bk.ext h _ _ (ah.2 i)⟩
theorem fX.ext{σ:Nat->Int}{μ bu:Map}(h:Ext μ bu) :∀{ck:List (J×J×Nat)} {es:List MapEntry},fX σ μ ck es->fX σ bu ck es
 |[],_,r=>r
 |(k,v,b)::ck,_,⟨e,cj,he,p,q,af,r⟩=>⟨e,cj,he,bk.ext h _ _ p,bk.ext h _ _ q,af,fX.ext h r⟩
theorem k9.ext{σ:Nat->Int}{μ bu:Map}(h:Ext μ bu){cell:Nat->Option J}{size:Nat}{st:Bool}{loc:Loc}{x:Option Obj}
  (ah:k9 σ μ cell size st loc x) :k9 σ bu cell size st loc x:=by
 obtain⟨c,E,fr,h1,aa,av,aO,bb,cp⟩:=ah;exact⟨c,E,fr,h1,aa,av,aO,bb,λi U=>let⟨v,y,p,q,r⟩:=cp i U;⟨v,y,p,q,bk.ext h _ _ r⟩⟩
theorem fg.ext{σ:Nat->Int}{μ bu:Map}(h:Ext μ bu){o:bp}{loc:Loc}{x:Option Obj}(ah:fg σ μ o loc x) :fg σ bu o loc x:=by
 cases o with
 |dead=>trivial
 |cells size st zero t=>exact k9.ext h ah
 |bytes size st n=>exact k9.ext h ah
 |ro size t=>obtain⟨h0,c,E,fr,h1,cp⟩:=ah;exact⟨h0,c,E,fr,h1,λi U=>let⟨v,y,p,q,r⟩:=cp i U;⟨v,y,p,q,bk.ext h _ _ r⟩⟩
 |map es clock=>obtain⟨cj,p,q⟩:=ah;exact⟨cj,p,q.ext h⟩
 |loop st pend n r params assign body d=>obtain⟨fn,tmps,mC,p,q,s⟩:=ah;exact⟨fn,tmps,mC,p,h _ _ q,s.ext h⟩
 |deferred=>exact ah
def ag.wr(h:ag)(id:Nat) :Prop:=∀o,h.c7.get id=some o->o.live=true
structure c_(σ:Nat->Int)(μ:Map)(h:ag)(H:Array Obj) :Prop where
 obj:∀id loc o,μ id=some loc->h.c7.get id=some o->fg σ μ o loc H[loc.b]?
 inj:∀id na loc H9,μ id=some loc->μ na=some H9->loc.b=H9.b->h.wr id->h.c7.get na≠some .dead->id=na
 lt:∀id loc,μ id=some loc->loc.b<H.size
 gv:∀id,h.next<=id->μ id=none
 jR:∀id,h.next<=id->h.c7.get id=none
def Own(μ:Map)(h:ag)(b:Nat) :Prop:=∃id loc o,μ id=some loc/\h.c7.get id=some o/\o.live=true/\loc.b=b
structure dj(σ:Nat->Int)(μ:Map)(h:ag)(H:Array Obj)(bu:Map)(bg:ag)(jv:Array Obj) :Prop where
 ext:Ext μ bu
 rel:c_ σ bu bg jv
 next:h.next<=bg.next
 l0:∀id,id<h.next->μ id=none->bu id=none
 kept:∀id,id<h.next->(μ id=none\/h.c7.get id=none)->bg.c7.get id=h.c7.get id
 size:H.size<=jv.size
 own:∀b,b<H.size->Own bu bg b->Own μ h b
 frame:∀b,b<H.size->¬Own μ h b->jv[b]? =H[b]?
section
variable{σ:Nat->Int}{μ bu U4:Map}{h bg M9:ag}{H jv Lc:Array Obj}
theorem dj.refl(r:c_ σ μ h H) :dj σ μ h H μ h H:=
 ⟨Ext.refl _,r,Nat.le_refl _,λ_ _ x=>x,λ_ _ _=>rfl,Nat.le_refl _,λ_ _ x=>x,λ_ _ _=>rfl⟩
theorem dj.trans(a:dj σ μ h H bu bg jv)(b:dj σ bu bg jv U4 M9 Lc) :dj σ μ h H U4 M9 Lc where
 ext:=a.ext.trans b.ext
 rel:=b.rel
 next:=Nat.le_trans a.next b.next
 l0:=λid U al=>b.l0 id (Nat.lt_of_lt_of_le U a.next) (a.l0 id U al)
 kept:=λid U al=>by
  have e:=a.kept id U al;rw[<-e];refine b.kept id (Nat.lt_of_lt_of_le U a.next) ?_;rcases al with al|al
  ·exact .inl (a.l0 id U al)
  ·exact .inr (e.trans al)
 size:=Nat.le_trans a.size b.size
 own:=λx ab aY=>a.own x ab (b.own x (Nat.lt_of_lt_of_le ab a.size) aY)
 frame:=λx ab al=>(b.frame x (Nat.lt_of_lt_of_le ab a.size) λaY=>al (a.own x ab aY)).trans (a.frame x ab al)
theorem l7(h:ag)(id:Nat)(o:bp)(j:Nat) :(h.put id o).c7.get j=if j=id then some o else h.c7.get j:=bj.kq _ _ _ _
theorem mR(h:ag)(o:bp)(j:Nat) :(h.new o).c7.get j=if j=h.next then some o else h.c7.get j:=bj.kq _ _ _ _
theorem ag.get_eq{h:ag}{id:Nat}{o:bp}(e:h.c7.get id=some o) :h.get id=o:=by simp[ag.get,e]
theorem ag.lT{h:ag}{id:Nat}(e:h.get id≠.dead) :h.c7.get id=some (h.get id):=by
 unfold ag.get at*
 cases ab:h.c7.get id with
 |none=>rw[ab]at e;exact absurd rfl e
 |some o=>rfl
theorem c_.put(r:c_ σ μ h H){id:Nat}{loc:Loc}{o bL:bp}(hm:μ id=some loc)(aY:h.c7.get id=some o)(ar:o.live=true)
  (au:jv.size=H.size) (aB:∀b,b≠loc.b->jv[b]? =H[b]?) (ah:fg σ μ bL loc jv[loc.b]?) :dj σ μ h H μ (h.put id bL) jv where
 ext:=Ext.refl _
 rel:=
  {obj:=λj l q az ay=>by
    rw[l7]at ay;by_cases e:j=id
    ·rw[if_pos e]at ay;cases ay;rw[e,hm]at az;cases az;exact ah
    ·rw[if_neg e]at ay;by_cases ao:q=.dead
     ·rw[ao];trivial
     ·have af:l.b≠loc.b:=λaf=>e (r.inj id j loc l hm az af.symm (λx ab=>by rw[aY]at ab;cases ab;exact ar) (by rw[ay];simpa using ao)).symm
      rw[aB _ af];exact r.obj j l q az ay
   inj:=λi j l bz U az af pG hR=>by
    rw[l7]at hR;refine r.inj i j l bz U az af (λx ab=> ?_) ?_
    ·by_cases e:i=id
     ·rw[e,aY]at ab;cases ab;exact ar
     ·exact pG x (by rw[l7,if_neg e];exact ab)
    ·by_cases e:j=id
     ·rw[e,aY];intro ab;cases ab;cases ar
     ·rwa[if_neg e]at hR
   lt:=λj l az=>by rw[au];exact r.lt j l az
   gv:=λj az=>r.gv j az
   jR:=λj az=>by
    rw[l7];have:j≠id:=λe=>by rw[e]at az;have:=r.gv id az;rw[hm]at this;cases this
    rw[if_neg this];exact r.jR j az}
 next:=Nat.le_refl _
 l0:=λ_ _ x=>x
 kept:=λj az al=>by
  rw[l7]
  have:j≠id:=λe=>by
   rcases al with al|al
   ·rw[e,hm]at al;cases al
   ·rw[e,aY]at al;cases al
  rw[if_neg this]
 size:=Nat.le_of_eq au.symm
 own:=λb af ⟨j,l,q,az,ay,ao,mo⟩=>by
  rw[l7]at ay;by_cases e:j=id
  ·rw[e]at az;exact⟨id,l,o,az,aY,ar,mo⟩
  ·rw[if_neg e]at ay;exact⟨j,l,q,az,ay,ao,mo⟩
 frame:=λb af al=>aB b λe=>al ⟨id,loc,o,hm,aY,ar,e.symm⟩
def Map.aq(μ:Map)(id:Nat)(loc:Loc) :Map:=λj=>if j=id then some loc else μ j
theorem Map.hb(μ:Map)(id:Nat)(loc:Loc) :μ.aq id loc id=some loc:=by simp[Map.aq]
theorem Map.jb(μ:Map){id j:Nat}(loc:Loc)(h:j≠id) :μ.aq id loc j=μ j:=by simp[Map.aq,h]
theorem Map.pj(μ:Map){id:Nat}(loc:Loc)(h:μ id=none) :Ext μ (μ.aq id loc):=λj l az=>by
 have:j≠id:=λe=>by rw[e,h]at az;cases az
 rw[Map.jb _ _ this];exact az
theorem c_.make(r:c_ σ μ h H){id:Nat}{x:Obj}{o:bp}{room:Nat}(al:μ id=none)(bK:id<h.next)
  (ah:fg σ (μ.aq id ⟨H.size,0,room⟩) o ⟨H.size,0,room⟩ (some x)) (aN:∀q,h.c7.get id=some q->q=o) :
  c_ σ (μ.aq id ⟨H.size,0,room⟩) h (H.push x)where
 obj:=λj l q az ay=>by
  by_cases e:j=id
  ·rw[e,Map.hb]at az;cases az;rw[e]at ay;rw[aN q ay];simpa using ah
  ·rw[Map.jb _ _ e]at az;have ar:=r.lt j l az;rw[Array.getElem?_push_lt ar,<-Array.getElem?_eq_getElem ar];exact(r.obj j l q az ay).ext (Map.pj _ _ al)
 inj:=λi j l bz U az af pG hR=>by
  by_cases j1:i=id
  ·by_cases jj:j=id
   ·rw[j1,jj]
   ·rw[j1,Map.hb]at U;cases U;rw[Map.jb _ _ jj]at az;have:=r.lt j bz az;simp at af;omega
  ·rw[Map.jb _ _ j1]at U;by_cases jj:j=id
   ·rw[jj,Map.hb]at az;cases az;have:=r.lt i l U;simp at af;omega
   ·rw[Map.jb _ _ jj]at az;exact r.inj i j l bz U az af pG hR
 lt:=λj l az=>by
  by_cases e:j=id
  ·rw[e,Map.hb]at az;cases az;simp
  ·rw[Map.jb _ _ e]at az;have:=r.lt j l az;simp;omega
 gv:=λj az=>by rw[Map.jb _ _ (by omega)];exact r.gv j az
 jR:=r.jR
theorem c_.new(r:c_ σ μ h H){x:Obj}{o:bp}{room:Nat}(ah:fg σ (μ.aq h.next ⟨H.size,0,room⟩) o ⟨H.size,0,room⟩ (some x)) :
  dj σ μ h H (μ.aq h.next ⟨H.size,0,room⟩) (h.new o) (H.push x):=by
 have al:=r.gv h.next (Nat.le_refl _)
 have cg:c_ σ μ (h.new o) H:=
  {obj:=λj l q az ay=>by
    rw[mR]at ay;have:j≠h.next:=λe=>by rw[e,al]at az;cases az
    rw[if_neg this]at ay;exact r.obj j l q az ay
   inj:=λi j l bz U az af pG hR=>by
    rw[mR]at hR;have eo:i≠h.next:=λe=>by rw[e,al]at U;cases U
    have nT:j≠h.next:=λe=>by rw[e,al]at az;cases az
    rw[if_neg nT]at hR;exact r.inj i j l bz U az af (λx ab=>pG x (by rw[mR,if_neg eo];exact ab)) hR
   lt:=r.lt
   gv:=λj az=>r.gv j (by simp[ag.new]at az;omega)
   jR:=λj az=>by
    simp[ag.new]at az;rw[mR,if_neg (by omega)]
    exact r.jR j (by omega)}
 have cK:=cg.make (id:=h.next) (x:=x) (o:=o) (room:=room) al (by simp[ag.new]) ah (λq ay=>by rw[mR,if_pos rfl]at ay;cases ay;rfl)
 exact
  {ext:=Map.pj _ _ al
   rel:=cK
   next:=by simp[ag.new]
   l0:=λj az ab=>by rw[Map.jb _ _ (by omega)];exact ab
   kept:=λj az _=>by rw[mR,if_neg (by omega)]
   size:=by simp
   own:=λb af ⟨j,l,q,az,ay,ao,mo⟩=>by
    by_cases e:j=h.next
    ·rw[e,Map.hb]at az;cases az;simp at mo;omega
    ·rw[Map.jb _ _ e]at az;rw[mR,if_neg e]at ay;exact⟨j,l,q,az,ay,ao,mo⟩
   frame:=λb af _=>by rw[Array.getElem?_push_lt af,<-Array.getElem?_eq_getElem af]}
end
theorem JL(n k:Nat) :n>>>k=n/2^k:=Nat.shiftRight_eq_div_pow n k
theorem JK(n k:Nat) :n<<<k=n*2^k:=Nat.shiftLeft_eq n k
theorem vR(k:Nat) :0<2^k:=Nat.two_pow_pos k
theorem hP(n i:Nat) :cC n i=n/2^(8*i) %256:=by unfold cC;rw[JL]
theorem nJ(n i:Nat) :cC n i<256:=by unfold cC;exact Nat.mod_lt _ (by decide)
theorem Aj(x y j k:Nat)(h:8*(j+1)<=k) :(x*2^k+y) /2^(8*j) %256=y/2^(8*j) %256:=by
 obtain⟨d,rfl⟩ :∃d,k=8*j+(8+d):=⟨k-8*j-8,by omega⟩
 have e:x*2^(8*j+(8+d))=2^(8*j) *(256*(x*2^d)):=by
  rw[Nat.pow_add,Nat.pow_add];have:(2:Nat) ^8=256:=by decide
  rw[this]
  ac_rfl
 rw[e,Nat.add_comm,Nat.add_mul_div_left _ _ (vR _),Nat.add_mul_mod_self_left]
theorem zx(x y j k:Nat)(an:y<2^k) :(x*2^k+y) /2^(k+8*j) %256=x/2^(8*j) %256:=by rw[Nat.pow_add,<-Nat.div_div_eq_div_mul,Nat.mul_comm x,Nat.mul_add_div (vR _),Nat.div_eq_of_lt an,Nat.add_zero]
theorem LK(a b l i:Nat)(aU:a<2^(8*l)) :cC (a+b<<< (8*l)) i=if i<l then cC a i else cC b (i-l):=by
 simp only[hP,JK];rw[Nat.add_comm];by_cases h:i<l
 ·rw[if_pos h,Aj _ _ _ _ (by omega)]
 ·rw[if_neg h];obtain⟨j,rfl⟩ :∃j,i=l+j:=⟨i-l,by omega⟩;rw[Nat.mul_add,zx _ _ _ _ aU,Nat.add_sub_cancel_left]
theorem LL(n l i:Nat)(h:i<l) :cC (n%2^(8*l)) i=cC n i:=by
 simp only[hP]
 conv=>rhs;rw[<-Nat.div_add_mod n (2^(8*l)),Nat.mul_comm]
 rw[Aj _ _ _ _ (by omega)]
theorem Wr(n o i:Nat) :cC (n>>> (8*o)) i=cC n (o+i):=by simp only[hP,JL,Nat.div_div_eq_div_mul,<-Nat.pow_add,Nat.mul_add]
theorem FB(n o l i:Nat)(h:i<l) :cC ((n>>> (8*o)) %2^(8*l)) i=cC n (o+i):=by rw[LL _ _ _ h,Wr]
theorem FY(n o l:Nat) :(n>>> (8*o)) %2^(8*l) <2^(8*l):=Nat.mod_lt _ (vR _)
theorem FC(n o l m i:Nat)(hm:m<2^(8*l)) :
  cC (n-((n>>> (8*o)) %2^(8*l)) <<< (8*o) +m<<< (8*o)) i=if o<=i/\i<o+l then cC m (i-o)else cC n i:=by
 simp only[hP,JK,JL];have tz:=vR (8*o);have mg:=vR (8*l);generalize ay:n/2^(8*o) /2^(8*l)=q;generalize ah:n/2^(8*o) %2^(8*l)=r;generalize au:n%2^(8*o)=s;have jm:s<2^(8*o):=au▸Nat.mod_lt _ tz;have m_:r<2^(8*l):=ah▸Nat.mod_lt _ mg;have aw:n/2^(8*o)=q*2^(8*l) +r:=by rw[<-ay,<-ah,Nat.mul_comm (n/2^(8*o) /2^(8*l))];exact(Nat.div_add_mod _ _).symm
 have aL:n=(q*2^(8*l) +r) *2^(8*o) +s:=by rw[<-aw,<-au,Nat.mul_comm (n/2^(8*o))];exact(Nat.div_add_mod _ _).symm
 have bo:n-r*2^(8*o) +m*2^(8*o)=(q*2^(8*l) +m) *2^(8*o) +s:=by rw[aL,Nat.add_mul,Nat.add_mul];omega
 rw[bo];by_cases h1:i<o
 ·have al:¬(o<=i/\i<o+l):=by omega
  rw[if_neg al,aL,Aj _ _ _ _ (by omega),Aj _ _ _ _ (by omega)]
 ·obtain⟨j,rfl⟩ :∃j,i=o+j:=⟨i-o,by omega⟩;rw[Nat.mul_add,zx _ _ _ _ jm];by_cases aa:j<l
  ·rw[if_pos (by omega),Nat.add_sub_cancel_left,Aj _ _ _ _ (by omega)]
  ·rw[if_neg (by omega)]
   conv=>rhs;rw[aL,zx _ _ _ _ jm]
   obtain⟨k,rfl⟩ :∃k,j=l+k:=⟨j-l,by omega⟩;rw[Nat.mul_add,zx _ _ _ _ hm,zx _ _ _ _ m_]
theorem ma:∀(l n:Nat),(bytesOf l n).length=l
 |0,_=>rfl
 |l+1,n=>by simp[bytesOf,ma l]
theorem qa:∀(l n i:Nat),(bytesOf l n)[i]? =if i<l then some (UInt8.ofNat (cC n i))else none
 |0,n,i=>by simp[bytesOf]
 |l+1,n,0=>by simp[bytesOf,hP]
 |l+1,n,i+1=>by
  simp only[bytesOf,List.getElem?_cons_succ,qa l (n/256) i]
  have:cC (n/256) i=cC n (i+1):=by simp only[hP,Nat.div_div_eq_div_mul];congr 2;rw[Nat.mul_add,Nat.add_comm,Nat.pow_add]
  rw[this];by_cases h:i<l
  ·rw[if_pos h,if_pos (by omega)]
  ·rw[if_neg h,if_neg (by omega)]
theorem LQ(l bz a b:Nat)(aU:a<2^(8*l)) :bytesOf (l+bz) (a+b<<< (8*l))=bytesOf l a++bytesOf bz b:=by
 apply List.ext_getElem?;intro i;rw[qa,LK _ _ _ _ aU];by_cases h:i<l
 ·rw[if_pos (by omega),if_pos h,List.getElem?_append_left (by rw[ma];exact h),qa,if_pos h]
 ·rw[List.getElem?_append_right (by rw[ma];omega),qa,ma,if_neg h];by_cases aa:i<l+bz
  ·rw[if_pos aa,if_pos (by omega)]
  ·rw[if_neg aa,if_neg (by omega)]
theorem acr(l bz a b:Nat)(aU:a<2^(8*l))(af:b<2^(8*bz)) :a+b<<< (8*l) <2^(8*(l+bz)):=by
 rw[JK,Nat.mul_add,Nat.pow_add];have:b+1<=2^(8*bz):=af
 calc a+b*2^(8*l) <2^(8*l) +b*2^(8*l):=by omega
  _=(b+1) *2^(8*l):=by rw[Nat.add_mul];omega
  _<=2^(8*bz) *2^(8*l):=Nat.mul_le_mul_right _ this
  _=2^(8*l) *2^(8*bz):=Nat.mul_comm _ _
theorem Ws(l n o k:Nat)(h:o+k<=l) :bytesOf k ((n>>> (8*o)) %2^(8*k))=((bytesOf l n).drop o).take k:=by
 apply List.ext_getElem?;intro i;rw[qa,List.getElem?_take];by_cases U:i<k
 ·rw[if_pos U,if_pos U,List.getElem?_drop,qa,if_pos (by omega),FB _ _ _ _ U]
 ·rw[if_neg U,if_neg U]
theorem LP:∀(l a b:Nat),a<2^(8*l)->b<2^(8*l)->bytesOf l a=bytesOf l b->a=b
 |0,a,b,aU,af,_=>by simp at aU af;omega
 |l+1,a,b,aU,af,h=>by
  simp only[bytesOf,List.cons.injEq]at h;have e:(2:Nat) ^(8*(l+1))=256*2^(8*l):=by rw[Nat.mul_add,Nat.pow_add];omega
  rw[e]at aU af;have aa:=LP l (a/256) (b/256) (by rw[Nat.div_lt_iff_lt_mul (by decide)];omega) (by rw[Nat.div_lt_iff_lt_mul (by decide)];omega) h.2
  have h1:a%256=b%256:=by have:=congrArg UInt8.toNat h.1;simpa using this
  omega
theorem Ms:∀(l:List UInt8),encode l<2^(8*l.length)
 |[]=>by simp[encode]
 |b::bs=>by
  have bI:=Ms bs;have af:=b.toNat_lt;have e:(2:Nat) ^(8*(bs.length+1))=256*2^(8*bs.length):=by rw[Nat.mul_add,Nat.pow_add];omega
  simp only[encode,List.length_cons,e];omega
theorem LO:∀(l:List UInt8),bytesOf l.length (encode l)=l
 |[]=>rfl
 |b::bs=>by
  have af:=b.toNat_lt;have aw:(b.toNat+256*encode bs) %256=b.toNat:=by omega
  have aL:(b.toNat+256*encode bs) /256=encode bs:=by omega
  simp only[encode,List.length_cons,bytesOf,aw,aL,LO bs];simp
def gX.val(σ:Nat->Int) :gX->Int
 | .lit n=>n
 | .var e=>σ e
def Fact.ok(P:Program)(σ:Nat->Int) :Fact->Prop
 | .num op k x y r=>∀(t:TypeId) (w:World),(Go.binOp op t (.int k (x.val σ)) (.int k (y.val σ))).run P w=.ok (.int k (r.val σ)) w
 | .test op k x y r=>∀(t:TypeId) (w:World),(Go.binOp op t (.int k (x.val σ)) (.int k (y.val σ))).run P w=.ok (.bool r) w
 | .fits x k=>k.wrap (σ x)=σ x
structure Fh(P:Program)(σ:Nat->Int)(t:TypeId)(i:bm) :Prop where
 dN:P.underlying t=some i.desc
 info:∃inf z,P.info? t=some inf/\inf.size=i.size/\inf.bytes=i.bytes/\inf.zero=some z/\(∀μ,bk σ μ i.zeroV z)/\(∀μ,bX σ μ i.zero z.cells.toList)
 parts:∀fs,i.desc=.struct fs->∀w,(fs.mapM (λf=>do pure (f.offset,<-sizeOf f.type) :Field->Sem (Nat×Nat))).run P w=.ok i.parts.toArray w
 wH:i.zero.length=i.size
 JF:nd i.desc=false->i.size=1
 plain:i.plain=true->P.stoodInHeld t=false/\P.eqGuardType P.depth t=false/\∀fs,i.desc=.struct fs->∀f,f∈fs.toList->f.name≠ "_"
structure cX(P:Program)(E:Env)(σ:Nat->Int) :Prop where
 fn:∀f fn,E.fn f=some fn->P.funcs[f]? =some fn/\(fn.name== "runtime.NumGoroutine")=false
 ty:∀t i,E.ty t=some i->Fh P σ t i
 facts:∀f,f∈E.facts->f.ok P σ
 mixed:P.follows .mixedOrders=true
section
variable{P:Program}{σ:Nat->Int}{μ:Map}{h:ag}{w:World}
theorem uO(w:World)(b off:Nat) :w.cell? ⟨b,off,none⟩=match w.heap[b]? with
  |some (.cells c _ _)=>c[off]?
  |_=>none:=by
 unfold World.cell?;rfl
theorem Ck(w:World)(b off:Nat) :w.frozen? ⟨b,off,none⟩=match w.heap[b]? with
  |some (.cells _ _ fr)=>decide (fr.1<=off) &&decide (off<fr.2)
  |_=>false:=by
 unfold World.frozen?;simp only;cases w.heap[b]? with
 |none=>rfl
 |some o=>cases o<;>rfl
theorem fg.row{o:bp}{loc:Loc}{x:Option Obj}{size:Nat}{st:Bool}(ah:fg σ μ o loc x)(h1:o.row=some (size,st)) :k9 σ μ o.cell size st loc x:=by cases o<;>simp only[bp.row]at h1<;>first|(cases h1;done) |(cases h1;exact ah)
theorem WT{o:bp}{i:Nat}{v:J}(aA:o.cell i=some v) :(∃size st,o.row=some (size,st)/\i<size)\/(∃size t,o=.ro size t/\i<size):=by
 cases o with
 |cells size st zero t=>
  refine .inl ⟨size,st,rfl,?_⟩;by_cases U:i<size
  ·exact U
  ·simp only[bp.cell,show Nat.blt i size=false by rw[<-Bool.not_eq_true,c4];exact U,cond_false]at aA;cases aA
 |bytes size st n=>
  refine .inl ⟨size,st,rfl,?_⟩;by_cases U:i<size
  ·exact U
  ·simp only[bp.cell,show Nat.blt i size=false by rw[<-Bool.not_eq_true,c4];exact U,cond_false]at aA;cases aA
 |ro size t=>
  refine .inr ⟨size,t,rfl,?_⟩;by_cases U:i<size
  ·exact U
  ·simp only[bp.cell,show Nat.blt i size=false by rw[<-Bool.not_eq_true,c4];exact U,cond_false]at aA;cases aA
 |dead=>cases aA
 |map _ _=>cases aA
 |loop _ _ _ _ _ _ _ _=>cases aA
 |deferred=>cases aA
theorem fg.cell{o:bp}{loc:Loc}{x:Option Obj}{i:Nat}{v:J}(ah:fg σ μ o loc x)(aA:o.cell i=some v) :
  ∃c E fr y,x=some (.cells c E fr)/\c[loc.o+i]? =some y/\bk σ μ v y:=by
 have key:∀size,(∃c E fr,x=some (.cells c E fr)/\∀i,i<size->∃v y,o.cell i=some v/\c[loc.o+i]? =some y/\bk σ μ v y)->i<size->∃c E fr y,x=some (.cells c E fr)/\c[loc.o+i]? =some y/\bk σ μ v y:=by intro size ⟨c,E,fr,h1,cp⟩ U;obtain⟨df,y,p,q,r⟩:=cp i U;rw[aA]at p;cases p;exact⟨c,E,fr,y,h1,q,r⟩
 rcases WT aA with⟨size,st,h1,U⟩ |⟨size,t,rfl,U⟩
 ·exact key size (let⟨c,E,fr,aQ,_,_,_,_,hY⟩:=ah.row h1;⟨c,E,fr,aQ,hY⟩) U
 ·exact key size ah.2 U
theorem ug(r:c_ σ μ h w.heap){id off:Nat}{loc:Loc}{v:J}(hm:μ id=some loc)(aA:bE h id off=some v) :
  ∃x,w.cell? ⟨loc.b,loc.o+off,none⟩=some x/\bk σ μ v x:=by
 unfold bE at aA;have ar:h.get id≠.dead:=λe=>by rw[e]at aA;cases aA
 obtain⟨c,E,fr,y,h1,aa,av⟩:=(r.obj id loc _ hm (ag.lT ar)).cell aA;exact⟨y,by rw[uO,h1];exact aa,av⟩
theorem bp.x6{o:bp} :∀(k off:Nat) (l:List J),o.read off k=some l->l.length=k/\∀j v,l[j]? =some v->o.cell (off+j)=some v
 |0,off,l,h=>by simp only[bp.read]at h;cases h;simp
 |k+1,off,l,h=>by
  simp only[bp.read]at h;cases aA:o.cell off with
  |none=>rw[aA]at h;cases h
  |some v=>
   cases ah:o.read (off+1) k with
   |none=>rw[aA,ah]at h;cases h
   |some m=>
    rw[aA,ah]at h;cases h;obtain⟨h1,aa⟩:=bp.x6 k (off+1) m ah;refine⟨by simp[h1],λj u az=> ?_⟩;cases j with
    |zero=>simp at az;subst az;exact aA
    |succ j=>have:=aa j u (by simpa using az);rwa[show off+(j+1)=off+1+j by omega]
theorem Pc{f:Nat->Option Value} :∀(l:List J),(∀j v,l[j]? =some v->∃x,f j=some x/\bk σ μ v x)->
  ∃xs:List Value,bX σ μ l xs/\∀j x,xs[j]? =some x->f j=some x:=by
 intro l;induction l generalizing f with
 |nil=>intro _;exact⟨[],rfl,λj x az=>by simp at az⟩
 |cons a ck bI=>
  intro aB;obtain⟨x,ab,ah⟩:=aB 0 a rfl;obtain⟨xs,h1,aa⟩:=bI (f:=λj=>f (j+1)) λj v az=>aB (j+1) v (by simpa using az)
  refine⟨x::xs,⟨x,xs,rfl,ah,h1⟩,λj y az=> ?_⟩;cases j with
  |zero=>simp at az;subst az;exact ab
  |succ j=>exact aa j y (by simpa using az)
theorem wQ(w:World)(b o j:Nat) :w.cell? (Addr.add ⟨b,o,none⟩ j)=w.cell? ⟨b,o+j,none⟩:=by
 unfold Addr.add;by_cases az:j=0
 ·rw[if_pos az,az,Nat.add_zero]
 ·rw[if_neg az]
theorem QQ(r:c_ σ μ h w.heap){id off k:Nat}{loc:Loc}{l:List J}(hm:μ id=some loc)(aA:jM h id off k=some l) :
  ∃xs:List Value,bX σ μ l xs/\xs.length=k/\(loadCells ⟨loc.b,loc.o+off,none⟩ k).run P w=.ok xs.toArray w:=by
 obtain⟨h1,aa⟩:=bp.x6 k off l aA
 obtain⟨xs,p,q⟩:=Pc (σ:=σ) (μ:=μ) (f:=λj=>w.cell? ⟨loc.b,loc.o+off+j,none⟩) l λj v az=>by have:=ug r hm (id:=id) (off:=off+j) (v:=v) (aa j v az);rwa[<-Nat.add_assoc]at this
 have ar:xs.length=k:=by rw[<-p.length,h1]
 refine⟨xs,p,ar,?_⟩;have:=run_loadCells_list (P:=P) w ⟨loc.b,loc.o+off,none⟩ xs λj v az=>by rw[wQ];exact q j v az
 rwa[ar]at this
theorem gT{E:Env}(ok:cX P E σ){t:TypeId}{i:bm}(aN:E.ty t=some i)(w:World) :(underlying t).run P w=.ok i.desc w:=
 run_underlying (ok.ty t i aN).dN w
theorem D3{E:Env}(ok:cX P E σ){t:TypeId}{i:bm}(aN:E.ty t=some i) :
  ∃inf z,(∀w,(typeInfo t).run P w=.ok inf w)/\inf.size=i.size/\inf.bytes=i.bytes/\inf.zero=some z/\(∀μ,bk σ μ i.zeroV z)/\(∀μ,bX σ μ i.zero z.cells.toList):=by
 obtain⟨inf,z,h1,aa,av,aO,bb,cp⟩:=(ok.ty t i aN).info;exact⟨inf,z,λw=>by simp[typeInfo,h1],aa,av,aO,bb,cp⟩
theorem l4{E:Env}(ok:cX P E σ){t:TypeId}{i:bm}(aN:E.ty t=some i)(w:World) :(sizeOf t).run P w=.ok i.size w:=by obtain⟨inf,z,h1,aa,_⟩:=D3 ok aN;simp[sizeOf,h1,aa]
theorem vY{E:Env}(ok:cX P E σ){t:TypeId}{i:bm}(aN:E.ty t=some i) :
  ∃z,(∀w,(zeroValue t).run P w=.ok z w)/\(∀μ,bk σ μ i.zeroV z)/\(∀μ,bX σ μ i.zero z.cells.toList):=by
 obtain⟨inf,z,h1,_,_,aO,bb,cp⟩:=D3 ok aN;exact⟨z,λw=>by simp[zeroValue,h1,aO],bb,cp⟩
theorem Ra{E:Env}(ok:cX P E σ){t:TypeId}{i:bm}(aN:E.ty t=some i)(w:World) :(isAgg t).run P w=.ok (nd i.desc) w:=by simp only[isAgg,Sem.run_bind,gT ok aN,Result.andThen_ok];cases i.desc<;>rfl
theorem Pj{E:Env}(ok:cX P E σ)(r:c_ σ μ h w.heap){t:TypeId}{id off:Nat}{loc:Loc}{v:J}(hm:μ id=some loc)(aA:loadT E h t id off=some v) :
  ∃x,(loadVar t ⟨loc.b,loc.o+off,none⟩).run P w=.ok x w/\bk σ μ v x:=by
 unfold loadT at aA;cases aN:E.ty t with
 |none=>rw[aN]at aA;cases aA
 |some i=>
  rw[aN]at aA;simp only at aA;unfold loadVar;simp only[Sem.run_bind,Ra ok aN,Result.andThen_ok];cases ao:nd i.desc with
  |true=>
   rw[ao]at aA;simp only at aA;cases ar:jM h id off i.size with
   |none=>rw[ar]at aA;cases aA
   |some l=>
    rw[ar]at aA;cases aA;obtain⟨xs,p,q,e⟩:=QQ (P:=P) r hm ar;exact⟨.agg xs.toArray,by simp[l4 ok aN,e],⟨xs.toArray,rfl,by simpa using p⟩⟩
  |false=>
   rw[ao]at aA;obtain⟨x,e,p⟩:=ug r hm aA;exact⟨x,by simp[e],p⟩
theorem D8(w:World)(b off:Nat)(v:Value)(j:Nat) :(w.setCell ⟨b,off,none⟩ v).heap[j]? =
  if b=j then(w.heap[j]?).map (λ| .cells c e fr=>.cells (c.setIfInBounds off v) e fr|o=>o)else w.heap[j]? :=by
 unfold World.setCell;simp only[Array.getElem?_modify];rfl
theorem Rs(w:World)(a:Addr)(v:Value) :(w.setCell a v).heap.size=w.heap.size:=by unfold World.setCell;simp
theorem Rm{v:J}{x:Value}(au:dT v=true)(ae:bk σ μ v x) :x.oneCell'=true:=by
 cases v with
 |undef=>cases au
 |agg _=>cases au
 |tuple _=>cases au
 |bool _=>rw[show x=_ from ae];rfl
 |int _ _=>rw[show x=_ from ae];rfl
 |sym _ _=>rw[show x=_ from ae];rfl
 |str _ _=>rw[ae.2];rfl
 |nilPtr=>rw[show x=_ from ae];rfl
 |ptr _ _=>obtain⟨_,_,e⟩:=ae;rw[e];rfl
 |bh=>rw[show x=_ from ae];rfl
 |slice _ _ _ _ _ _=>obtain⟨_,_,_,_,e,_⟩:=ae;rw[e];rfl
 |gf=>rw[show x=_ from ae];rfl
 |map _=>obtain⟨_,_,e⟩:=ae;rw[e];rfl
 |nilFunc=>rw[show x=_ from ae];rfl
 |func _ _ _=>obtain⟨_,_,e,_⟩:=ae;rw[e];rfl
 |yield _=>obtain⟨_,_,e⟩:=ae;rw[e];rfl
 |nilIface=>rw[show x=_ from ae];rfl
 |iface _ _=>obtain⟨_,e,_⟩:=ae;rw[e];rfl
theorem k9.put{cell tn:Nat->Option J}{size:Nat}{st:Bool}{loc:Loc}{c:Array Value}{E:TypeId}{fr:Nat×Nat}{off:Nat}{v:J}{x:Value}
  (ah:k9 σ μ cell size st loc (some (.cells c E fr))) (ae:bk σ μ v x) (aY:off<size)
  (h1:tn off=some v) (aa:∀i,i<size->i≠off->tn i=cell i) :k9 σ μ tn size st loc (some (.cells (c.setIfInBounds (loc.o+off) x) E fr)):=by
 obtain⟨gz,iq,qo,e,p,q,s,t,u⟩:=ah;cases e;refine⟨_,_,_,rfl,by simpa using p,q,s,by simpa using t,λi U=> ?_⟩;by_cases e:i=off
 ·rw[e];exact⟨v,x,h1,by rw[Array.getElem?_setIfInBounds_self,if_pos (by omega)],ae⟩
 ·obtain⟨df,y,a,b,d⟩:=u i U;exact⟨df,y,by rw[aa i U e];exact a,by rw[Array.getElem?_setIfInBounds_ne (by omega)];exact b,d⟩
theorem eF{a b:Bool}(h:(a&&b)=true) :a=true/\b=true:=by simpa using h
theorem UX{o bL:bp}{off:Nat}{v:J}(hw:o.write off v=some bL) :o.live=true/\bL.live=true/\dT v=true:=by
 cases o with
 |cells size s zero t=>
  simp only[bp.write]at hw;cases af:(Nat.blt off size&&dT v)with
  |false=>rw[af]at hw;cases hw
  |true=>rw[af]at hw;cases hw;exact⟨rfl,rfl,(eF af).2⟩
 |bytes size s n=>
  simp only[bp.write]at hw;split at hw
  ·rename_i b;cases af:(Nat.blt off size&&Nat.blt b 256)with
   |false=>rw[af]at hw;cases hw
   |true=>rw[af]at hw;cases hw;exact⟨rfl,rfl,rfl⟩
  ·cases hw
 |dead=>cases hw
 |ro _ _=>cases hw
 |map _ _=>cases hw
 |loop _ _ _ _ _ _ _ _=>cases hw
 |deferred=>cases hw
theorem ak0{o bL:bp}{loc:Loc}{off:Nat}{v:J}{x:Value}{w:World}(ah:fg σ μ o loc w.heap[loc.b]?)(hw:o.write off v=some bL)(ae:bk σ μ v x) :
  (∃y,w.cell? ⟨loc.b,loc.o+off,none⟩=some y)/\w.frozen? ⟨loc.b,loc.o+off,none⟩=false/\
    fg σ μ bL loc (w.setCell ⟨loc.b,loc.o+off,none⟩ x).heap[loc.b]? :=by
 have key:∀(size:Nat) (st:Bool) (tn:Nat->Option J),k9 σ μ o.cell size st loc w.heap[loc.b]? ->off<size->tn off=some v->
   (∀i,i<size->i≠off->tn i=o.cell i)->
   (∃y,w.cell? ⟨loc.b,loc.o+off,none⟩=some y)/\w.frozen? ⟨loc.b,loc.o+off,none⟩=false/\
   k9 σ μ tn size st loc (w.setCell ⟨loc.b,loc.o+off,none⟩ x).heap[loc.b]? :=by
  intro size st tn ah aY h1 aa;have iz:=ah;obtain⟨c,E,fr,e,p,q,s,t,u⟩:=ah;obtain⟨_,y,_,b,_⟩:=u off aY;rw[uO,Ck,D8,e];rw[e]at iz;refine⟨⟨y,b⟩,?_,?_⟩
  ·have:=t (loc.o+off) (by omega);simp only[Bool.and_eq_false_iff,decide_eq_false_iff_not];omega
  ·rw[if_pos rfl];exact iz.put ae aY h1 aa
 cases o with
 |cells size s zero t=>
  simp only[bp.write]at hw;cases af:(Nat.blt off size&&dT v)with
  |false=>rw[af]at hw;cases hw
  |true=>
   rw[af]at hw;cases hw;have aY:=c4.1 (eF af).1;refine key size s (bp.cells size s zero (t.set off v)).cell ah aY ?_ ?_
   ·simp only[bp.cell,c4.2 aY,cond_true,bj.kq,if_pos]
   ·intro i U cE;simp only[bp.cell,c4.2 U,cond_true,bj.kq,if_neg cE]
 |bytes size s n=>
  simp only[bp.write]at hw;split at hw
  ·rename_i b;cases af:(Nat.blt off size&&Nat.blt b 256)with
   |false=>rw[af]at hw;cases hw
   |true=>
    rw[af]at hw;cases hw;have aY:=c4.1 (eF af).1;have hA:=c4.1 (eF af).2
    have qI:∀i,cC (n-(cC n off) <<< (8*off) +b<<< (8*off)) i=if i=off then b else cC n i:=by
     intro i;have:=FC n off 1 b i (by simpa using hA);have aw:(n>>> (8*off)) %2^(8*1)=cC n off:=rfl;rw[aw]at this;rw[this];by_cases U:i=off
     ·rw[if_pos (by omega),if_pos U,U,Nat.sub_self,hP];simp;omega
     ·rw[if_neg (by omega),if_neg U]
    refine key size s (bp.bytes size s (n-(cC n off) <<< (8*off) +b<<< (8*off))).cell ah aY ?_ ?_
    ·simp only[bp.cell,c4.2 aY,cond_true,qI,if_pos]
    ·intro i U cE;simp only[bp.cell,c4.2 U,cond_true,qI,if_neg cE]
  ·cases hw
 |dead=>cases hw
 |ro _ _=>cases hw
 |map _ _=>cases hw
 |loop _ _ _ _ _ _ _ _=>cases hw
 |deferred=>cases hw
def da(w aM:World) :Prop:=aM.os=w.os/\aM.tape=w.tape/\aM.output=w.output
theorem da.refl(w:World) :da w w:=⟨rfl,rfl,rfl⟩
theorem da.trans{a b c:World}(h:da a b)(bg:da b c) :da a c:=⟨bg.1.trans h.1,bg.2.1.trans h.2.1,bg.2.2.trans h.2.2⟩
theorem da.setCell(w:World)(a:Addr)(v:Value) :da w (w.setCell a v):=⟨rfl,rfl,rfl⟩
theorem KY{loc:Loc} :∀(vs:List J) (xs:List Value) (o bL:bp) (off i:Nat) (w:World),fg σ μ o loc w.heap[loc.b]? ->o.writes (off+i) vs=some bL->bX σ μ vs xs->
  ∃aM,(storeCells ⟨loc.b,loc.o+off,none⟩ xs i).run P w=.ok () aM/\da w aM/\aM.heap.size=w.heap.size/\(∀b,b≠loc.b->aM.heap[b]? =w.heap[b]?)/\fg σ μ bL loc aM.heap[loc.b]?
 |[],xs,o,bL,off,i,w,ah,hw,ae=>by rw[bX.iF.1 ae];simp only[bp.writes]at hw;cases hw;exact⟨w,by simp[storeCells],da.refl _,rfl,λ_ _=>rfl,ah⟩
 |v::vs,_,o,bL,off,i,w,ah,hw,⟨x,xs,e,ab,iV⟩=>by
  rw[e];simp only[bp.writes]at hw;cases h1:o.write (off+i) v with
  |none=>rw[h1]at hw;cases hw
  |some bU=>
   rw[h1]at hw;simp only at hw;obtain⟨⟨y,an⟩,aB,hB⟩:=ak0 (w:=w) ah h1 ab;have r6:=Rm (UX h1).2.2 ab;obtain⟨aM,a,b,c,d,f⟩:=KY vs xs bU bL off (i+1) (w.setCell ⟨loc.b,loc.o+(off+i),none⟩ x) hB (by rwa[Nat.add_assoc]at hw) iV;refine⟨aM,?_,(da.setCell _ _ _).trans b,by rw[c,Rs],λj az=> ?_,f⟩
   ·have lj:((⟨loc.b,loc.o+off,none⟩ :Addr).add i)=⟨loc.b,loc.o+(off+i),none⟩:=by
     unfold Addr.add;by_cases U:i=0
     ·simp[U]
     ·rw[if_neg U,Nat.add_assoc]
    simp only[storeCells,lj,Sem.run_bind,run_store P w _ x .plain r6,an,aB,Result.andThen_ok];exact a
   ·rw[d j az,D8,if_neg (λe=>az e.symm)]
theorem ak1{bL:bp} :∀(vs:List J) (off:Nat) (o:bp),vs≠[]->o.writes off vs=some bL->o.live=true
 |[],_,_,al,_=>absurd rfl al
 |v::vs,off,o,_,hw=>by
  simp only[bp.writes]at hw;cases h1:o.write off v with
  |none=>rw[h1]at hw;cases hw
  |some bU=>exact(UX h1).1
theorem Eh{E:Env}(r:c_ σ μ h w.heap){id off:Nat}{loc:Loc}{vs:List J}{xs:List Value}{bg:ag}(hm:μ id=some loc)(al:vs≠[])
  (hw:jc h id off vs=some bg) (ae:bX σ μ vs xs) :
  ∃aM,(storeCells ⟨loc.b,loc.o+off,none⟩ xs).run P w=.ok () aM/\da w aM/\dj σ μ h w.heap μ bg aM.heap:=by
 unfold jc at hw;cases h1:(h.get id).writes off vs with
 |none=>rw[h1]at hw;cases hw
 |some bL=>
  rw[h1]at hw;cases hw;have ar:=ak1 vs off (h.get id) al h1;have cL:h.get id≠.dead:=λe=>by rw[e]at ar;cases ar
  have aY:=ag.lT cL;obtain⟨aM,a,b,c,d,f⟩:=KY (P:=P) vs xs (h.get id) bL off 0 w (r.obj id loc _ hm aY) h1 ae;exact⟨aM,a,b,r.put hm aY ar c d f⟩
theorem BS{v:J}{x:Value}(ae:bk σ μ v x) :bX σ μ v.cells x.cells.toList:=by
 have one:∀{u:J} {y:Value},bk σ μ u y->bX σ μ [u] [y]:=λh=>⟨_,_,rfl,h,rfl⟩
 cases v with
 |agg cs=>obtain⟨vs,e,p⟩:=ae;rw[e];exact p
 |undef=>have e:x=_:=ae;subst e;exact one ae
 |tuple _=>obtain⟨vs,e,p⟩:=ae;subst e;exact one ⟨vs,rfl,p⟩
 |bool _=>have e:x=_:=ae;subst e;exact one ae
 |int _ _=>have e:x=_:=ae;subst e;exact one ae
 |sym _ _=>have e:x=_:=ae;subst e;exact one ae
 |str _ _=>have e:=ae.2;subst e;exact one ae
 |nilPtr=>have e:x=_:=ae;subst e;exact one ae
 |ptr _ _=>have e9:=ae;obtain⟨_,_,e⟩:=ae;subst e;exact one e9
 |bh=>have e:x=_:=ae;subst e;exact one ae
 |slice _ _ _ _ _ _=>have e9:=ae;obtain⟨_,_,_,_,e,_⟩:=ae;subst e;exact one e9
 |gf=>have e:x=_:=ae;subst e;exact one ae
 |map _=>have e9:=ae;obtain⟨_,_,e⟩:=ae;subst e;exact one e9
 |nilFunc=>have e:x=_:=ae;subst e;exact one ae
 |func _ _ _=>have e9:=ae;obtain⟨_,_,e,_⟩:=ae;subst e;exact one e9
 |yield _=>have e9:=ae;obtain⟨_,_,e⟩:=ae;subst e;exact one e9
 |nilIface=>have e:x=_:=ae;subst e;exact one ae
 |iface _ _=>have e9:=ae;obtain⟨_,e,_⟩:=ae;subst e;exact one e9
theorem aiR{E:Env}(ok:cX P E σ)(r:c_ σ μ h w.heap){t:TypeId}{id off:Nat}{loc:Loc}{v:J}{x:Value}{bg:ag}(hm:μ id=some loc)
  (hw:storeT E h t id off v=some bg) (ae:bk σ μ v x) :
  ∃aM,(storeVar t ⟨loc.b,loc.o+off,none⟩ x).run P w=.ok () aM/\da w aM/\dj σ μ h w.heap μ bg aM.heap:=by
 unfold storeT at hw;cases aN:E.ty t with
 |none=>rw[aN]at hw;cases hw
 |some i=>
  rw[aN]at hw;simp only at hw;cases af:(Nat.beq v.cells.length i.size&& !Nat.beq i.size 0)with
  |false=>rw[af]at hw;cases hw
  |true=>
   rw[af]at hw;have hlen:=beq_true.1 (eF af).1;have aA:=BS ae;have ev:x.cells.size=i.size:=by rw[<-hlen,aA.length,Array.length_toList]
   have al:v.cells≠[]:=λe=>by have:=(eF af).2;rw[e]at hlen;rw[<-hlen]at this;cases this
   unfold storeVar;simp only[Sem.run_bind,l4 ok aN,Result.andThen_ok,ev,ne_eq,not_true_eq_false,if_false,Sem.run_ite];obtain⟨aM,a,b,c⟩:=Eh (P:=P) (E:=E) r hm al hw aA;exact⟨aM,by simpa using a,b,c⟩
end
def e1(tmps:Array Value) :Operand->Value
 | .tmp t=>tmps.getD t undef
 | .const v=>v
 | .global g=>.pointer (some ⟨g,0,none⟩)
 | .func f=>.func (.func f) #[] #[]
def jT(E:Env)(μ:Map) :Prop:=∀g,g<E.xX->∃room,μ g=some ⟨g,0,room⟩
section
variable{P:Program}{E:Env}{σ:Nat->Int}{μ:Map}{h:ag}{w:World}{r:bl}{tmps:Array Value}
theorem L9{v:Value}{a:J}(aA:B0 v=some a) :bk σ μ a v:=by
 unfold B0 at aA;split at aA<;>first|(cases aA;done) |(cases aA;first|rfl|skip)
 ·rename_i s;exact⟨Ms _,by rw[LO]⟩
 ·exact⟨#[], #[],rfl,rfl,rfl⟩
theorem L8:∀{vs:List Value} {ck:List J},BZ vs=some ck->bX σ μ ck vs
 |[],_,aA=>by cases aA;rfl
 |v::vs,ck,aA=>by
  unfold BZ at aA;split at aA
  ·rename_i a l h1 aa;cases aA;exact⟨v,vs,rfl,L9 h1,L8 aa⟩
  ·cases aA
theorem FV{v:Value}{a:J}(aA:wX v=some a) :bk σ μ a v:=by
 unfold wX at aA;split at aA
 ·rename_i cs;split at aA
  ·rename_i l ar;cases aA;exact⟨cs,rfl,L8 ar⟩
  ·cases aA
 ·cases aA;rfl
 ·exact L9 aA
theorem sx(aE:jT E μ)(ah:∀i,bk σ μ (r.get i) (tmps.getD i undef)){x:Operand}{v:J}(he:dk E r x=some v) :bk σ μ v (e1 tmps x):=by
 cases x with
 |tmp t=>simp only[dk]at he;cases he;exact ah t
 |const c=>exact FV he
 |func f=>simp only[dk]at he;cases he;exact⟨#[], #[],rfl,rfl,rfl⟩
 |global g=>
  simp only[dk]at he;cases af:Nat.blt g E.xX with
  |false=>rw[af]at he;cases he
  |true=>
   rw[af]at he;cases he;obtain⟨room,hm⟩:=aE g (c4.1 af);exact⟨_,hm,rfl⟩
theorem sy(aE:jT E μ)(ah:∀i,bk σ μ (r.get i) (tmps.getD i undef)) :∀{xs:List Operand} {vs:List J},kp E r xs=some vs->bX σ μ vs (xs.map (e1 tmps))
 |[],_,he=>by cases he;rfl
 |x::xs,_,he=>by
  unfold kp at he;split at he
  ·rename_i v l h1 aa;cases he;exact⟨_,_,rfl,sx aE ah h1,sy aE ah aa⟩
  ·cases he
theorem tU(a b:Int) :n_ a b=decide (a<=b):=by
 cases a with
 |ofNat m=>cases b with
  |ofNat n=>simp only[n_];rw[Bool.eq_iff_iff,dr];simp
  |negSucc n=>simp only[n_];rw[eq_comm,decide_eq_false_iff_not];have:=Int.negSucc_lt_zero n;have:=Int.natCast_nonneg m;simp only[Int.ofNat_eq_natCast];omega
 |negSucc m=>cases b with
  |ofNat n=>simp only[n_];rw[eq_comm,decide_eq_true_iff];have:=Int.negSucc_lt_zero m;have:=Int.natCast_nonneg n;simp only[Int.ofNat_eq_natCast];omega
  |negSucc n=>simp only[n_];rw[Bool.eq_iff_iff,dr];simp only[decide_eq_true_eq,Int.negSucc_eq];omega
theorem oa(a b:Int) :mE a b=decide (a<b):=by unfold mE;rw[tU,Bool.eq_iff_iff];simp
theorem oJ(a b:Int) :h5 a b=(a==b):=by
 rw[Bool.eq_iff_iff];cases a with
 |ofNat m=>cases b with
  |ofNat n=>simp only[h5,beq_true];simp only[Int.ofNat_eq_natCast,beq_iff_eq];omega
  |negSucc n=>simp[h5]
 |negSucc m=>cases b with
  |ofNat n=>simp[h5]
  |negSucc n=>simp only[h5,beq_true];simp
theorem Gd{a b:Int} :h5 a b=true↔a=b:=by rw[oJ];simp
theorem kP{a b:IntKind} :ko a b=true↔a=b:=by cases a<;>cases b<;>simp[ko]
theorem wrap_small(k:IntKind)(m:Nat)(h:m<kx k) :k.wrap (m:Int)=m:=by cases k<;>simp only[kx]at h<;>simp only[IntKind.wrap,IntKind.bits,IntKind.signed]<;>simp<;>omega
theorem nA(k:IntKind)(n:Int) :bF k n=k.wrap n:=by
 cases n with
 |ofNat m=>
  simp only[bF];cases af:Nat.blt m (kx k)with
  |true=>rw[cond_true];exact(wrap_small k m (c4.1 af)).symm
  |false=>rfl
 |negSucc m=>rfl
theorem DJ(k:IntKind)(m:Nat)(h:m<kx k) :(BitVec.ofInt k.bits (m:Int)).toNat=m:=by
 have af:m<2^k.bits:=by cases k<;>simp only[kx,IntKind.bits]at h|- <;>omega
 rw[BitVec.ofInt_natCast,BitVec.toNat_ofNat,Nat.mod_eq_of_lt af]
theorem aeM(k:IntKind) :∃e,kx k=2^e:=by
 cases k
 ·exact⟨7,by decide⟩
 ·exact⟨15,by decide⟩
 ·exact⟨31,by decide⟩
 ·exact⟨63,by decide⟩
 ·exact⟨8,by decide⟩
 ·exact⟨16,by decide⟩
 ·exact⟨32,by decide⟩
 ·exact⟨64,by decide⟩
theorem Lp(k:IntKind)(a b:Int) :Fm k a b=l_ k a b:=by
 unfold Fm;split
 ·rename_i m n;cases af:(Nat.blt m (kx k) &&Nat.blt n (kx k))with
  |false=>rfl
  |true=>
   have h1:=c4.1 (eF af).1;have aa:=c4.1 (eF af).2;simp only[cond_true,l_,BitVec.toNat_and,Int.ofNat_eq_natCast,DJ k m h1,DJ k n aa];have:m&&&n<kx k:=Nat.lt_of_le_of_lt Nat.and_le_left h1;exact(wrap_small k _ this).symm
 ·rfl
theorem Qm(k:IntKind)(a b:Int) :I2 k a b=pT k a b:=by
 unfold I2;split
 ·rename_i m n;cases af:(Nat.blt m (kx k) &&Nat.blt n (kx k))with
  |false=>rfl
  |true=>
   have h1:=c4.1 (eF af).1;have aa:=c4.1 (eF af).2;simp only[cond_true,pT,BitVec.toNat_or,Int.ofNat_eq_natCast,DJ k m h1,DJ k n aa];obtain⟨e,he⟩:=aeM k;have:m|||n<kx k:=by rw[he]at h1 aa|-;exact Nat.or_lt_two_pow h1 aa
   exact(wrap_small k _ this).symm
 ·rfl
theorem acd{op:BinOp}(t:TypeId){k:IntKind}{a b:Int}{v:J}(au:jF op=false)(ae:lZ op k a b=some v)(w:World) :
  ∃x,(Go.binOp op t (.int k a) (.int k b)).run P w=.ok x w/\bk σ μ v x:=by
 cases op<;>simp only[lZ]at ae<;>first|(cases au;done) |(cases ae;done) |skip
 case add=>cases ae;exact⟨.int k (k.wrap (a+b)),by simp[Go.binOp,Op.intArith],by rw[bk,nA]⟩
 case sub=>cases ae;exact⟨.int k (k.wrap (a-b)),by simp[Go.binOp,Op.intArith],by rw[bk,nA]⟩
 case mul=>cases ae;exact⟨.int k (k.wrap (a*b)),by simp[Go.binOp,Op.intArith],by rw[bk,nA]⟩
 case quo=>
  cases af:h5 b 0 with
  |true=>rw[af]at ae;cases ae
  |false=>
   rw[af]at ae;cases ae;have:¬b=0:=λe=>by rw[e]at af;cases af
   exact⟨.int k (k.wrap (a.tdiv b)),by simp[Go.binOp,Op.intDiv,this],by rw[bk,nA]⟩
 case rem=>
  cases af:h5 b 0 with
  |true=>rw[af]at ae;cases ae
  |false=>
   rw[af]at ae;cases ae;have:¬b=0:=λe=>by rw[e]at af;cases af
   exact⟨.int k (a.tmod b),by simp[Go.binOp,Op.intDiv,this],rfl⟩
 case and=>cases ae;exact⟨.int k (l_ k a b),by rw[show Go.binOp .and t (.int k a) (.int k b)=Op.intBits .and k a b by simp[Go.binOp]];rfl,by rw[bk,Lp]⟩
 case or=>cases ae;exact⟨.int k (pT k a b),by rw[show Go.binOp .or t (.int k a) (.int k b)=Op.intBits .or k a b by simp[Go.binOp]];rfl,by rw[bk,Qm]⟩
 case xor=>cases ae;exact⟨.int k (E3 k a b),by rw[show Go.binOp .xor t (.int k a) (.int k b)=Op.intBits .xor k a b by simp[Go.binOp]];rfl,rfl⟩
 case andNot=>cases ae;exact⟨.int k (Lq k a b),by rw[show Go.binOp .andNot t (.int k a) (.int k b)=Op.intBits .andNot k a b by simp[Go.binOp]];rfl,rfl⟩
 case eql=>cases ae;exact⟨.bool (a==b),by simp[Go.binOp,Op.intCmp],by rw[bk,oJ]⟩
 case neq=>cases ae;exact⟨.bool (a !=b),by simp[Go.binOp,Op.intCmp],by rw[bk,oJ];rfl⟩
 case lss=>cases ae;exact⟨.bool (decide (a<b)),by simp[Go.binOp,Op.intCmp],by rw[bk,oa]⟩
 case leq=>cases ae;exact⟨.bool (decide (a<=b)),by simp[Go.binOp,Op.intCmp],by rw[bk,tU]⟩
 case gtr=>cases ae;exact⟨.bool (decide (b<a)),by simp[Go.binOp,Op.intCmp],by rw[bk,oa]⟩
 case geq=>cases ae;exact⟨.bool (decide (b<=a)),by simp[Go.binOp,Op.intCmp],by rw[bk,tU]⟩
theorem aim{op:BinOp}(t:TypeId){k dg:IntKind}{a b:Int}{v:J}(ae:AM op k a b=some v)(w:World) :
  ∃x,(Go.binOp op t (.int k a) (.int dg b)).run P w=.ok x w/\bk σ μ v x:=by
 cases b with
 |negSucc n=>cases ae
 |ofNat n=>
  have al:¬((n:Int) <0):=by omega
  cases op<;>simp only[AM]at ae<;>first|(cases ae;done) |skip
  case shl=>cases ae;exact⟨.int k (k.wrap (a*2^(min n k.bits))),by simp[Go.binOp,Op.shift,al],by rw[bk,nA]⟩
  case shr=>cases ae;exact⟨.int k (a.fdiv (2^(min n k.bits))),by simp[Go.binOp,Op.shift,al],rfl⟩
theorem MB{a b:BinOp}(he:y5 a b=true) :a=b:=by cases a<;>cases b<;>first|rfl|cases he
theorem gX.beq_true{a b:gX}(he:a.beq b=true) :a=b:=by
 cases a<;>cases b<;>first|cases he|skip
 ·rw[Gd.1 he]
 ·rw[Go.a6.beq_true.1 he]
theorem gX.VH(k:IntKind)(x:gX) :bk σ μ (x.dz k) (.int k (x.val σ)):=by cases x<;>rfl
theorem Cb{fs:List Fact}{op:BinOp}{k:IntKind}{x y:gX}{v:J}(aB:∀f,f∈fs->f.ok P σ)(ae:qn fs op k x y=some v)(t:TypeId)(w:World) :
  ∃u,(Go.binOp op t (.int k (x.val σ)) (.int k (y.val σ))).run P w=.ok u w/\bk σ μ v u:=by
 induction fs with
 |nil=>cases ae
 |cons f fs bI=>
  have vy:=bI λg aE=>aB g (List.mem_cons_of_mem _ aE)
  have h0:=aB f List.mem_cons_self;cases f with
  |num o j a b c=>
   simp only[qn]at ae;cases af:(y5 o op&&ko j k&&a.beq x&&b.beq y)with
   |false=>rw[af]at ae;exact vy ae
   |true=>
    rw[af]at ae;cases ae;simp only[Bool.and_eq_true]at af;obtain⟨⟨⟨h1,aa⟩,av⟩,aO⟩:=af;have aw:=MB h1;have aL:=kP.1 aa;have bo:=gX.beq_true av;have eh:=gX.beq_true aO;subst aw aL bo eh;exact⟨_,h0 t w,gX.VH _ _⟩
  |test o j a b c=>
   simp only[qn]at ae;cases af:(y5 o op&&ko j k&&a.beq x&&b.beq y)with
   |false=>rw[af]at ae;exact vy ae
   |true=>
    rw[af]at ae;cases ae;simp only[Bool.and_eq_true]at af;obtain⟨⟨⟨h1,aa⟩,av⟩,aO⟩:=af;have aw:=MB h1;have aL:=kP.1 aa;have bo:=gX.beq_true av;have eh:=gX.beq_true aO;subst aw aL bo eh;exact⟨_,h0 t w,rfl⟩
  |fits a j=>exact vy ae
theorem Yp{fs:List Fact}{e:Nat}{k:IntKind}(aB:∀f,f∈fs->f.ok P σ)(ae:za fs e k=true) :k.wrap (σ e)=σ e:=by
 induction fs with
 |nil=>cases ae
 |cons f fs bI=>
  have vy:=bI λg aE=>aB g (List.mem_cons_of_mem _ aE)
  have h0:=aB f List.mem_cons_self;cases f with
  |num o j a b c=>exact vy ae
  |test o j a b c=>exact vy ae
  |fits a j=>
   simp only[za,Bool.or_eq_true,Bool.and_eq_true]at ae;rcases ae with⟨h1,aa⟩ |h
   ·have aw:=Go.a6.beq_true.1 h1;have aL:=kP.1 aa;subst aw aL;exact h0
   ·exact vy h
theorem w9{k:IntKind}{x y:gX}{b:Bool}(ok:cX P E σ)(ae:y4 E k x y=some b) :(x.val σ==y.val σ)=b:=by
 unfold y4 at ae;split at ae
 ·rename_i c aB;cases ae;obtain⟨u,hu,ah⟩:=Cb (μ:=λ_=>none) ok.facts aB 0 default;have e:u=.bool b:=ah;subst e;simp only[Go.binOp,Op.intCmp,ne_eq,not_true_eq_false,if_false,Sem.run_pure]at hu;injection hu with h1 _;injection h1
 ·cases ae
theorem As(ok:cX P E σ){t:TypeId}{cs:List J}{xs:Array Value}{off:Nat}{v:J}(aA:bX σ μ cs xs.toList)(aD:nk E t cs off=some v)(w:World) :
  ∃x,(part t xs off).run P w=.ok x w/\bk σ μ v x:=by
 unfold nk at aD;split at aD
 ·rename_i i aN;unfold part;simp only[Sem.run_bind,Ra ok aN,Result.andThen_ok];cases ao:nd i.desc with
  |true=>
   rw[ao]at aD;cases aD;refine⟨_,by simp only[if_true,Sem.run_bind,l4 ok aN,Result.andThen_ok,Sem.run_pure];rfl,⟨_,rfl,?_⟩⟩;have:=(aA.drop off).take i.size;simpa [Array.toList_extract,List.extract_eq_take_drop,Nat.add_sub_cancel_left]using this
  |false=>
   rw[ao]at aD;obtain⟨x,ab,ah⟩:=aA.get off v aD;have iU:xs[off]? =some x:=by simpa using ab
   exact⟨x,by simp[iU],ah⟩
 ·cases aD
end
section
variable{P:Program}{E:Env}{σ:Nat->Int}{μ:Map}{h:ag}{w:World}{r:bl}{tmps:Array Value}
theorem c'{α:Type}{c:Bool}{x:Option α}{b:α}(he:(bif c then x else none)=some b) :c=true/\x=some b:=by
 cases c with
 |true=>exact⟨rfl,he⟩
 |false=>cases he
theorem BL{α:Type}{c:Bool}{x:Option α}{b:α}(he:(bif c then none else x)=some b) :c=false/\x=some b:=by
 cases c with
 |true=>cases he
 |false=>exact⟨rfl,he⟩
theorem Ej{l n bz ga:Nat}(h1:n<2^(8*l))(aa:ga<2^(8*bz)) :(bytesOf l n==bytesOf bz ga)=(Nat.beq l bz&&Nat.beq n ga):=by
 rw[Bool.eq_iff_iff];simp only[beq_iff_eq,Bool.and_eq_true,beq_true];constructor
 ·intro e;have ar:l=bz:=by rw[<-ma l n,<-ma bz ga,e]
  subst ar;exact⟨rfl,LP l n ga h1 aa e⟩
 ·rintro⟨rfl,rfl⟩;rfl
theorem yj(l:List UInt8) :(⟨l.toArray⟩ :ByteArray).toList=l:=by rw[ByteArray.toList_eq]
theorem ahf{o:bp}(ay:o.vS=true) :∃size,o.row=some (size,false):=by
 cases o with
 |cells size st zero t=>cases st with
  |false=>exact⟨size,rfl⟩
  |true=>cases ay
 |bytes size st n=>cases st with
  |false=>exact⟨size,rfl⟩
  |true=>cases ay
 |ro size t=>cases ay
 |dead=>cases ay
 |map _ _=>cases ay
 |loop _ _ _ _ _ _ _ _=>cases ay
 |deferred=>cases ay
theorem ahe{o:bp}(ay:o.vS=true) :o.live=true:=by cases o<;>first|rfl|cases ay
theorem QJ(rel:c_ σ μ h w.heap){id:Nat}{loc:Loc}(hm:μ id=some loc)(ay:(h.get id).vS=true) :
  ∃c E,w.heap[loc.b]? =some (.cells c E (0,0)):=by
 obtain⟨size,dY⟩:=ahf ay;have ao:h.get id≠.dead:=λe=>by rw[e]at ay;cases ay
 obtain⟨c,E,fr,e,_,_,aL,_⟩:=(rel.obj id loc _ hm (ag.lT ao)).row dY;rw[aL rfl]at e;exact⟨c,E,e⟩
theorem aib(rel:c_ σ μ h w.heap){a b:Nat}{sg sk:Loc}{o p:Nat}(zD:μ a=some sg)(qF:μ b=some sk)
  (Hl:(h.get a).vS=true) (vm:(h.get b).vS=true) :
  (sameAddr ⟨sg.b,sg.o+o,none⟩ ⟨sk.b,sk.o+p,none⟩).run P w=.ok (Nat.beq a b&&Nat.beq o p) w:=by
 obtain⟨dd,Va,lj⟩:=QJ rel zD Hl;obtain⟨qb,Vb,w5⟩:=QJ rel qF vm;have X':∀o,w.frozen? ⟨sg.b,o,none⟩=false:=λo=>by rw[Ck,lj];simp
 have fb:∀o,w.frozen? ⟨sk.b,o,none⟩=false:=λo=>by rw[Ck,w5];simp
 have JB:w.shape? sg.b=some (Va,dd.size):=by simp[World.shape?,lj]
 have Rl:w.shape? sk.b=some (Vb,qb.size):=by simp[World.shape?,w5]
 by_cases ix:a=b
 ·subst ix;rw[zD]at qF;cases qF;have tD:Nat.beq a a=true:=beq_true.2 rfl;simp only[sameAddr,beq_self_eq_true,if_true,Sem.run_bind,Sem.run_pure,tD,Bool.true_and];congr 1;rw[Bool.eq_iff_iff,beq_true];simp
 ·have cE:sg.b≠sk.b:=λe=>by
   have Nn:h.get b≠.dead:=λe=>by rw[e]at vm;cases vm
   refine ix (rel.inj a b sg sk zD qF e (λx ab=> ?_) ?_)
   ·have:=ag.get_eq ab;rw[this]at Hl;exact ahe Hl
   ·rw[ag.lT Nn];simpa using Nn
  have tD:Nat.beq a b=false:=beq_false.2 ix;have aaL:(sg.b==sk.b)=false:=by simpa using cE
  simp[sameAddr,aaL,tD,X',fb,noView,viewAt,JB,Rl,mayBeOne,stringish]
theorem My(ok:cX P E σ){d:Nat}{g:TypeId->J->J->Option Bool}
  (aE:∀t x y b,g t x y=some b->∀u v,bk σ μ x u->bk σ μ y v->(Op.equalIn d t u v).run P w=.ok b w) :
  ∀(fs:List Field) (xs fe:List J) (us vs:Array Value) (b:Bool),(∀f,f∈fs->f.name≠ "_")->eqFields E g fs xs fe=some b->bX σ μ xs us.toList->bX σ μ fe vs.toList->
   (Op.eqFields d us vs fs).run P w=.ok b w
 |[],xs,fe,us,vs,b,_,he,_,_=>by simp only[eqFields]at he;cases he;simp[Op.eqFields]
 |f::fs,xs,fe,us,vs,b,al,he,ab,an=>by
  simp only[eqFields]at he;have lX:=al f List.mem_cons_self;cases h1:nk E f.type xs f.offset with
  |none=>rw[h1]at he;cases he
  |some a=>
   cases aa:nk E f.type fe f.offset with
   |none=>rw[h1,aa]at he;cases he
   |some c=>
    rw[h1,aa]at he;simp only at he;obtain⟨u,hu,hI⟩:=As ok ab h1 w;obtain⟨v,ae,rv⟩:=As ok an aa w;cases av:g f.type a c with
    |none=>rw[av]at he;cases he
    |some q=>
     rw[av]at he;have bo:=aE _ _ _ _ av u v hI rv;simp only[Op.eqFields,ne_eq,lX,not_false_eq_true,if_true,Sem.run_bind,hu,ae,bo,Result.andThen_ok];cases q with
     |false=>simp only at he;cases he;simp
     |true=>
      simp only at he;simp only[Bool.not_true,Bool.false_eq_true,if_false];exact My ok aE fs xs fe us vs b (λf aB=>al f (List.mem_cons_of_mem _ aB)) he ab an
theorem MC(ok:cX P E σ)(rel:c_ σ μ h w.heap) :∀(d D:Nat) (t:TypeId) (x y:J) (b:Bool),d<=D->fm E h d t x y=some b->
  ∀u v,bk σ μ x u->bk σ μ y v->(Op.equalIn D t u v).run P w=.ok b w:=by
 intro d;induction d with
 |zero=>intro D t x y b _ he;cases he
 |succ d bI=>
  intro D t x y b ao he u v hu ae;obtain⟨D,rfl⟩ :∃U_,D=U_+1:=⟨D-1,by omega⟩;simp only[fm]at he;cases aN:E.ty t with
  |none=>rw[aN]at he;cases he
  |some i=>
   rw[aN]at he;simp only at he;have dN:=(ok.ty t i aN).dN;split at he
   ·rename_i ao;rw[ao]at dN;have a7:u=_:=hu;have cm:v=_:=ae;subst a7 cm;cases he;exact run_equalIn_bool w D t _ _ dN
   ·rename_i ao;rw[ao]at dN;have a7:u=_:=hu;have cm:v=_:=ae;subst a7 cm;replace he:=c' he;obtain⟨aj,he⟩:=he;have uX:=kP.1 aj;subst uX;cases he;rw[oJ];exact run_equalIn_int w D t _ _ _ _ dN
   ·rename_i ao;rw[ao]at dN;have a7:u=_:=hu;have cm:v=_:=ae;subst a7 cm;replace he:=c' he;obtain⟨aj,he⟩:=he;have uX:=kP.1 aj;subst uX;rw[<-w9 ok he];exact run_equalIn_int w D t _ _ _ _ dN
   ·rename_i ao;rw[ao]at dN;have a7:u=_:=hu;have cm:v=_:=ae;subst a7 cm;replace he:=c' he;obtain⟨aj,he⟩:=he;have uX:=kP.1 aj;subst uX;rw[<-w9 ok he];exact run_equalIn_int w D t _ _ _ _ dN
   ·rename_i k a dg ea ao;rw[ao]at dN;have a7:u=_:=hu;have cm:v=_:=ae;subst a7 cm;replace he:=c' he;obtain⟨aj,he⟩:=he;have uX:=kP.1 aj;subst uX;rw[run_equalIn_int w D t _ _ _ _ dN];cases ix:Nat.beq a ea with
    |true=>
     rw[ix]at he;cases he;rw[beq_true.1 ix];simp
    |false=>
     rw[ix]at he;rw[<-w9 ok he];rfl
   ·rename_i ao;rw[ao]at dN;obtain⟨oW,a7⟩:=hu;obtain⟨iC,cm⟩:=ae;subst a7 cm;cases he;rw[run_equalIn_string w D t _ _ dN,yj,yj,Ej oW iC]
   ·rename_i ao;rw[ao]at dN;have a7:u=_:=hu;have cm:v=_:=ae;subst a7 cm;cases he;simp[Op.equalIn,run_underlying dN]
   ·rename_i ao;rw[ao]at dN;obtain⟨l,_,cm⟩:=ae;have a7:u=_:=hu;subst a7 cm;cases he;simp[Op.equalIn,run_underlying dN]
   ·rename_i ao;rw[ao]at dN;obtain⟨l,_,a7⟩:=hu;have cm:v=_:=ae;subst a7 cm;cases he;simp[Op.equalIn,run_underlying dN]
   ·rename_i ao;rw[ao]at dN;obtain⟨sg,zD,a7⟩:=hu;obtain⟨sk,qF,cm⟩:=ae;subst a7 cm;split at he
    ·rename_i ie eJ;replace he:=BL he;obtain⟨h0,he⟩:=he;replace he:=c' he;obtain⟨ay,he⟩:=he;cases he;have aI:¬ie.size=0:=beq_false.1 h0;simp[Op.equalIn,run_underlying dN,l4 ok eJ,aI,aib rel zD qF (eF ay).1 (eF ay).2]
    ·cases he
   ·rename_i fs xs fe ao;rw[ao]at dN;obtain⟨us,a7,hI⟩:=hu;obtain⟨vs,cm,rv⟩:=ae;subst a7 cm;replace he:=c' he;obtain⟨aD,he⟩:=he;obtain⟨gG,fz,Ar⟩:=(ok.ty t i aN).plain aD;have aB:P.fieldsOf t=fs:=by simp[Program.fieldsOf,dN]
    rw[run_equalIn_struct w D t us vs (by rw[aB];exact dN) gG,aB];exact My ok (λot cn Br ea bg dD df nZ e9=>bI D ot cn Br ea (by omega) bg dD df nZ e9) fs.toList xs fe us vs b (Ar fs ao) he hI rv
   ·rename_i ao;rw[ao]at dN;have a7:u=_:=hu;have cm:v=_:=ae;subst a7 cm;cases he;simp[Op.equalIn,run_underlying dN]
   ·rename_i ao;rw[ao]at dN;obtain⟨l,a,c,_,cm,_⟩:=ae;have a7:u=_:=hu;subst a7 cm;cases he;simp[Op.equalIn,run_underlying dN]
   ·rename_i ao;rw[ao]at dN;obtain⟨l,a,c,_,a7,_⟩:=hu;have cm:v=_:=ae;subst a7 cm;cases he;simp[Op.equalIn,run_underlying dN]
   ·rename_i ao;rw[ao]at dN;have a7:u=_:=hu;have cm:v=_:=ae;subst a7 cm;cases he;simp[Op.equalIn,run_underlying dN]
   ·rename_i ao;rw[ao]at dN;obtain⟨l,_,cm⟩:=ae;have a7:u=_:=hu;subst a7 cm;cases he;simp[Op.equalIn,run_underlying dN]
   ·rename_i ao;rw[ao]at dN;obtain⟨l,_,a7⟩:=hu;have cm:v=_:=ae;subst a7 cm;cases he;simp[Op.equalIn,run_underlying dN]
   ·rename_i ao;rw[ao]at dN;have a7:u=_:=hu;have cm:v=_:=ae;subst a7 cm;cases he;simp[Op.equalIn,run_underlying dN]
   ·rename_i ao;rw[ao]at dN;obtain⟨l,_,cm,_⟩:=ae;have a7:u=_:=hu;subst a7 cm;cases he;simp[Op.equalIn,run_underlying dN]
   ·rename_i ao;rw[ao]at dN;obtain⟨l,_,a7,_⟩:=hu;have cm:v=_:=ae;subst a7 cm;cases he;simp[Op.equalIn,run_underlying dN]
   ·cases he
theorem VX(ok:cX P E σ)(rel:c_ σ μ h w.heap){op:BinOp}{t:TypeId}{x y:J}{v:J}(af:cV E h op t x y=some v)(et hW:Operand)
  {u z:Value} (hu:bk σ μ x u) (aI:bk σ μ y z) :
  ∃q,(do eqGuard op t et hW u z;Go.binOp op t u z:Sem Value).run P w=.ok q w/\bk σ μ v q:=by
 have Cm:∀(k dg:IntKind) (a b:Int) (w:World),(eqGuard op t et hW (.int k a) (.int dg b)).run P w=.ok () w:=λk dg a b w=>by cases op<;>simp[eqGuard]
 unfold cV at af;split at af
 ·rename_i k a dg b;have a7:u=_:=hu;have cI:z=_:=aI;subst a7 cI;simp only[Sem.run_bind,Cm,Result.andThen_ok];cases au:jF op with
  |true=>rw[au]at af;exact aim t af w
  |false=>
   rw[au]at af;replace af:=c' af;obtain⟨aj,af⟩:=af;rw[<-kP.1 aj];exact acd t au af w
 ·rename_i k a dg b;have a7:u=_:=hu;have cI:z=_:=aI;subst a7 cI;simp only[Sem.run_bind,Cm,Result.andThen_ok];replace af:=c' af;obtain⟨aj,af⟩:=af;rw[<-kP.1 (eF aj).1];exact Cb ok.facts af t w
 ·rename_i k a dg b;have a7:u=_:=hu;have cI:z=_:=aI;subst a7 cI;simp only[Sem.run_bind,Cm,Result.andThen_ok];replace af:=c' af;obtain⟨aj,af⟩:=af;rw[<-kP.1 (eF aj).1];exact Cb ok.facts af t w
 ·rename_i k a dg b;have a7:u=_:=hu;have cI:z=_:=aI;subst a7 cI;simp only[Sem.run_bind,Cm,Result.andThen_ok];replace af:=c' af;obtain⟨aj,af⟩:=af;rw[<-kP.1 (eF aj).1];exact Cb ok.facts af t w
 ·rename_i l a bz b;obtain⟨oW,a7⟩:=hu;obtain⟨n2,cI⟩:=aI;subst a7 cI;have g:(eqGuard op t et hW (.string ⟨(bytesOf l a).toArray⟩) (.string ⟨(bytesOf bz b).toArray⟩)).run P w=.ok () w:=by cases op<;>simp[eqGuard]
  simp only[Sem.run_bind,g,Result.andThen_ok];split at af
  ·unfold Ei at af;replace af:=c' af;obtain⟨aj,af⟩:=af;cases af;have bK:=c4.1 aj
   have ev:¬((((⟨(bytesOf l a).toArray⟩ :ByteArray).size+(⟨(bytesOf bz b).toArray⟩ :ByteArray).size:Nat) :Int) >IntKind.i64.max):=by show¬((((bytesOf l a).toArray.size+(bytesOf bz b).toArray.size:Nat) :Int) >IntKind.i64.max);simp only[List.size_toArray,ma,IntKind.max,IntKind.signed,IntKind.bits];simp;omega
   refine⟨.string (⟨(bytesOf l a).toArray⟩++⟨(bytesOf bz b).toArray⟩),by simp only[Go.binOp,Op.stringOp,if_neg ev,Sem.run_pure],acr _ _ _ _ oW n2,?_⟩;rw[LQ _ _ _ _ oW];congr 1
  ·cases af;exact⟨.bool _,by simp only[Go.binOp,Op.stringOp,Sem.run_pure,yj,Ej oW n2],rfl⟩
  ·cases af;exact⟨.bool _,by simp only[Go.binOp,Op.stringOp,Sem.run_pure,yj,Ej oW n2],rfl⟩
  ·cases af
 ·replace af:=c' af;obtain⟨ay,af⟩:=af
  have main:∀b,fm E h 9 t x y=some b->(eqGuard op t et hW u z).run P w=.ok () w->(Go.binOp .eql t u z=(do let b<-Op.equal t u z;pure (.bool b))/\Go.binOp .neq t u z=(do let b<-Op.equal t u z;pure (.bool !b)))->
    ∃q,(do eqGuard op t et hW u z;Go.binOp op t u z:Sem Value).run P w=.ok q w/\bk σ μ v q:=by
   intro b he aE Ct;have au:=MC ok rel 9 10000 t x y b (by omega) he u z hu aI;split at af
   ·rename_i c aA;rw[he]at aA;cases aA;cases af;exact⟨.bool b,by simp[aE,Ct.1,Ct.2,Op.equal,Op.maxDepth,au],rfl⟩
   ·rename_i c aA;rw[he]at aA;cases aA;cases af;exact⟨.bool !b,by simp[aE,Ct.1,Ct.2,Op.equal,Op.maxDepth,au],rfl⟩
   ·cases af
  have he:∃b,fm E h 9 t x y=some b:=by
   split at af
   ·exact⟨_,by assumption⟩
   ·exact⟨_,by assumption⟩
   ·cases af
  obtain⟨b,he⟩:=he;refine main b he ?_ ?_
  ·unfold y6 at ay;split at ay
   ·have a7:u=_:=hu;have cI:z=_:=aI;subst a7 cI;cases op<;>simp[eqGuard]
   ·have a7:u=_:=hu;have cI:z=_:=aI;subst a7 cI;cases op<;>simp[eqGuard]
   ·have a7:u=_:=hu;obtain⟨_,_,cI⟩:=aI;subst a7 cI;cases op<;>simp[eqGuard]
   ·have cI:z=_:=aI;obtain⟨_,_,a7⟩:=hu;subst a7 cI;cases op<;>simp[eqGuard]
   ·obtain⟨_,_,cI⟩:=aI;obtain⟨_,_,a7⟩:=hu;subst a7 cI;cases op<;>simp[eqGuard]
   ·obtain⟨_,cI,_⟩:=aI;obtain⟨_,a7,_⟩:=hu;subst a7 cI
    have aD:P.eqGuardType P.depth t=false:=by
     simp only[fm]at he;cases aN:E.ty t with
     |none=>rw[aN]at he;cases he
     |some i=>
      rw[aN]at he;simp only at he;split at he<;>first|(cases he;done) |skip
      all_goals first|(rename_i ab an;cases ab;done) |(rename_i ab an _;cases ab;done) |skip
      all_goals (try (replace he:=c' he;obtain⟨aD,he⟩:=he;exact((ok.ty t i aN).plain aD).2.1))
    exact run_eqGuard_agg w op t et hW _ _ aD
   ·have a7:u=_:=hu;have cI:z=_:=aI;subst a7 cI;cases op<;>simp[eqGuard]
   ·have a7:u=_:=hu;obtain⟨_,_,_,_,cI,_⟩:=aI;subst a7 cI;cases op<;>simp[eqGuard]
   ·have cI:z=_:=aI;obtain⟨_,_,_,_,a7,_⟩:=hu;subst a7 cI;cases op<;>simp[eqGuard]
   ·have a7:u=_:=hu;have cI:z=_:=aI;subst a7 cI;cases op<;>simp[eqGuard]
   ·have a7:u=_:=hu;obtain⟨_,_,cI⟩:=aI;subst a7 cI;cases op<;>simp[eqGuard]
   ·have cI:z=_:=aI;obtain⟨_,_,a7⟩:=hu;subst a7 cI;cases op<;>simp[eqGuard]
   ·have a7:u=_:=hu;have cI:z=_:=aI;subst a7 cI;cases op<;>simp[eqGuard]
   ·have a7:u=_:=hu;obtain⟨_,_,cI,_⟩:=aI;subst a7 cI;cases op<;>simp[eqGuard]
   ·have cI:z=_:=aI;obtain⟨_,_,a7,_⟩:=hu;subst a7 cI;cases op<;>simp[eqGuard]
   ·cases ay
  ·unfold y6 at ay;split at ay
   ·have a7:u=_:=hu;have cI:z=_:=aI;subst a7 cI;exact⟨by simp[Go.binOp],by simp[Go.binOp]⟩
   ·have a7:u=_:=hu;have cI:z=_:=aI;subst a7 cI;exact⟨by simp[Go.binOp],by simp[Go.binOp]⟩
   ·have a7:u=_:=hu;obtain⟨_,_,cI⟩:=aI;subst a7 cI;exact⟨by simp[Go.binOp],by simp[Go.binOp]⟩
   ·have cI:z=_:=aI;obtain⟨_,_,a7⟩:=hu;subst a7 cI;exact⟨by simp[Go.binOp],by simp[Go.binOp]⟩
   ·obtain⟨_,_,cI⟩:=aI;obtain⟨_,_,a7⟩:=hu;subst a7 cI;exact⟨by simp[Go.binOp],by simp[Go.binOp]⟩
   ·obtain⟨_,cI,_⟩:=aI;obtain⟨_,a7,_⟩:=hu;subst a7 cI;exact⟨by simp[Go.binOp],by simp[Go.binOp]⟩
   ·have a7:u=_:=hu;have cI:z=_:=aI;subst a7 cI;exact⟨by simp[Go.binOp],by simp[Go.binOp]⟩
   ·have a7:u=_:=hu;obtain⟨_,_,_,_,cI,_⟩:=aI;subst a7 cI;exact⟨by simp[Go.binOp],by simp[Go.binOp]⟩
   ·have cI:z=_:=aI;obtain⟨_,_,_,_,a7,_⟩:=hu;subst a7 cI;exact⟨by simp[Go.binOp],by simp[Go.binOp]⟩
   ·have a7:u=_:=hu;have cI:z=_:=aI;subst a7 cI;exact⟨by simp[Go.binOp],by simp[Go.binOp]⟩
   ·have a7:u=_:=hu;obtain⟨_,_,cI⟩:=aI;subst a7 cI;exact⟨by simp[Go.binOp],by simp[Go.binOp]⟩
   ·have cI:z=_:=aI;obtain⟨_,_,a7⟩:=hu;subst a7 cI;exact⟨by simp[Go.binOp],by simp[Go.binOp]⟩
   ·have a7:u=_:=hu;have cI:z=_:=aI;subst a7 cI;exact⟨by simp[Go.binOp],by simp[Go.binOp]⟩
   ·have a7:u=_:=hu;obtain⟨_,_,cI,_⟩:=aI;subst a7 cI;exact⟨by simp[Go.binOp],by simp[Go.binOp]⟩
   ·have cI:z=_:=aI;obtain⟨_,_,a7,_⟩:=hu;subst a7 cI;exact⟨by simp[Go.binOp],by simp[Go.binOp]⟩
   ·cases ay
end
section
variable{P:Program}{E:Env}{σ:Nat->Int}{μ:Map}{h:ag}{w:World}{r:bl}{tmps:Array Value}
theorem ake{op:UnOp}{x v:J}{u:Value}(ae:k5 op x=some v)(hu:bk σ μ x u) :∃q,(Op.unary op u).run P w=.ok q w/\bk σ μ v q:=by
 unfold k5 at ae;split at ae
 ·rename_i k n;have a7:u=_:=hu;subst a7;cases ae;exact⟨.int k (k.wrap (0-n)),by simp[Op.unary,Op.intArith],by rw[bk,nA]⟩
 ·rename_i k n;have a7:u=_:=hu;subst a7;cases ae;refine⟨.int k (E3 k (if k.signed then-1 else k.max) n),?_,by rw[bk];cases k.signed<;>rfl⟩;rfl
 ·have a7:u=_:=hu;subst a7;cases ae;exact⟨.bool _,rfl,rfl⟩
 ·cases ae
theorem HP{d:TypeDesc}(ao:hF d=true) :d=.int .u8:=by
 unfold hF at ao;split at ao
 ·rfl
 ·cases ao
def la(l n:Nat) :List Value:=(bytesOf l n).map λb=>.int .u8 b.toNat
theorem LJ(l n:Nat) :(la l n).length=l:=by simp[la,ma]
theorem FA(l n i:Nat) :(la l n)[i]? =if i<l then some (.int .u8 (cC n i:Nat))else none:=by
 unfold la;rw[List.getElem?_map,qa];by_cases U:i<l
 ·rw[if_pos U,if_pos U,Option.map_some];have:=nJ n i;congr 3;simp;omega
 ·rw[if_neg U,if_neg U];rfl
theorem QR(rel:c_ σ μ h w.heap){id off len n:Nat}{loc:Loc}(hm:μ id=some loc)(ah:mK h id off len=some n) :
  n<2^(8*len)/\(loadCells ⟨loc.b,loc.o+off,none⟩ len).run P w=.ok (la len n).toArray w:=by
 unfold mK at ah;split at ah
 ·rename_i size st N aE;replace ah:=c' ah;obtain⟨hle,ah⟩:=ah;cases ah;refine⟨FY _ _ _,?_⟩
  have:=run_loadCells_list (P:=P) w ⟨loc.b,loc.o+off,none⟩ (la len ((N>>> (8*off)) %2^(8*len))) λj v az=>by
   rw[FA]at az;by_cases ar:j<len
   ·rw[if_pos ar,FB _ _ _ _ ar]at az;cases az;have pK:=dr.1 hle
    obtain⟨x,ab,rx⟩:=ug (w:=w) rel hm (off:=off+j) (v:=.int .u8 (.ofNat (cC N (off+j)))) (by
     unfold bE;rw[aE]
     simp only[bp.cell,c4.2 (show off+j<size by omega),cond_true])
    have ex:x=_:=rx;subst ex;rw[wQ,Nat.add_assoc];exact ab
   ·rw[if_neg ar]at az;cases az
  rwa[LJ]at this
 ·cases ah
theorem foldl_push(l:List UInt8) :∀(s:ByteArray),((l.map λb=>((b.toNat:Nat) :Int)).foldl (λr n=>r.push (UInt8.ofNat n.toNat)) s)=⟨s.data++l.toArray⟩:=by
 induction l with
 |nil=>intro s;simp
 |cons b bs bI=>
  intro s;simp only[List.map_cons,List.foldl_cons,bI];apply ByteArray.ext;simp[ByteArray.push]
theorem Xa(ok:cX P E σ)(rel:c_ σ μ h w.heap){src dst:TypeId}{x v:J}{u:Value}(ae:fS E h src dst x=some v)(hu:bk σ μ x u) :
  ∃q,(convert src dst u).run P w=.ok q w/\bk σ μ v q:=by
 unfold fS at ae;split at ae
 ·rename_i s d au ao;have us:=gT (P:=P) ok au w;have wu:=gT (P:=P) ok ao w;split at ae
  ·rename_i k n;have a7:u=_:=hu;subst a7;split at ae
   ·rename_i j az;cases ae;exact⟨.int j (j.wrap n),by simp[convert,us,wu,az,Conv.intToInt],by rw[bk,nA]⟩
   ·cases ae
  ·rename_i k e;have a7:u=_:=hu;subst a7;split at ae
   ·rename_i j az;replace ae:=c' ae;obtain⟨aB,ae⟩:=ae;cases ae;exact⟨.int j (j.wrap (σ e)),by simp[convert,us,wu,az,Conv.intToInt],by rw[bk,Yp ok.facts aB]⟩
   ·cases ae
  ·rename_i l n;have nZ:=hu;obtain⟨_,a7⟩:=hu;subst a7;split at ae
   ·rename_i az;cases ae;exact⟨_,by simp[convert,us,wu,az],nZ⟩
   ·cases ae
  ·have a7:u=_:=hu;subst a7;split at ae
   ·rename_i e xC va;split at ae
    ·rename_i ie eJ;replace ae:=c' ae;obtain⟨dR,ae⟩:=ae;cases ae;have he:P.underlying e=some (.int .u8):=by rw[<-HP dR];exact(ok.ty e ie eJ).dN
     refine⟨.string .empty,?_,by decide,rfl⟩;rw[run_convert_bytes_string w src dst e none 0 0 (by rw[<-xC];exact(ok.ty src s au).dN) he (by rw[<-va];exact(ok.ty dst d ao).dN)];rfl
    ·cases ae
   ·cases ae
  ·rename_i id off len cap cu ex;obtain⟨loc,a,c,hm,a7,kT,mi,_,aU,_⟩:=hu;subst a7;split at ae
   ·rename_i e xC va;split at ae
    ·rename_i ie eJ;replace ae:=c' ae;obtain⟨dR,ae⟩:=ae;have he:P.underlying e=some (.int .u8):=by rw[<-HP dR];exact(ok.ty e ie eJ).dN
     rw[run_convert_bytes_string w src dst e (some a) len c (by rw[<-xC];exact(ok.ty src s au).dN) he (by rw[<-va];exact(ok.ty dst d ao).dN)];cases h0:Nat.beq len 0 with
     |true=>
      rw[h0]at ae;cases ae;have:=beq_true.1 h0;subst this;refine⟨.string .empty,?_,by decide,rfl⟩;rw[run_bytesToString w a 0 c [] (by simp[loadCells,loadCellsFrom])];rfl
     |false=>
      rw[h0]at ae;simp only[cond_false]at ae;split at ae
      ·rename_i n al;cases ae;have cE:c≠0:=by have:=beq_false.1 h0;omega
       obtain⟨bK,ar⟩:=QR (P:=P) rel hm al;rw[<-aU cE]at ar;refine⟨.string ⟨(bytesOf len n).toArray⟩,?_,bK,rfl⟩;rw[run_bytesToString w a len c ((bytesOf len n).map λb=>((b.toNat:Nat) :Int)) (by rw[ar];simp[la]),foldl_push];congr 2;apply ByteArray.ext;simp
      ·cases ae
    ·cases ae
   ·cases ae
  ·cases ae
 ·cases ae
theorem add_eq(b o n:Nat) :Addr.add ⟨b,o,none⟩ n=⟨b,o+n,none⟩:=by
 unfold Addr.add;by_cases al:n=0
 ·rw[if_pos al,al,Nat.add_zero]
 ·rw[if_neg al]
theorem tj{x:Int}{y m:Nat}(af:oE x y=some m)(k:IntKind)(code:BoundsCode) :(Instr.sliceBound (.int k x) y code).run P w=.ok m w/\m<=y:=by
 cases x with
 |negSucc n=>cases af
 |ofNat n=>
  simp only[oE]at af;replace af:=c' af;obtain⟨hle,af⟩:=af;cases af;have:=dr.1 hle;refine⟨?_,this⟩;have aa:(0:Int)<=(m:Int)/\(m:Int)<=(y:Int):=by omega
  simp[Instr.sliceBound,asIntOf,aa,this]
theorem LH{x:Int}{y Br m:Nat}(af:oE x y=some m)(an:y<=Br) :oE x Br=some m:=by
 cases x with
 |negSucc n=>cases af
 |ofNat n=>
  simp only[oE]at af|-;replace af:=c' af;obtain⟨hle,af⟩:=af;cases af;rw[dr.2 (Nat.le_trans (dr.1 hle) an)];rfl
inductive p6:Option Int->Option Value->Prop
 |none:p6 none none
 |some (n:Int) (k:IntKind) :p6 (some n) (some (.int k n))
theorem I0(aE:jT E μ)(ah:∀i,bk σ μ (r.get i) (tmps.getD i undef)){o:Option Operand}{z:Option Int}(he:qS E r o=some z) :p6 z (o.map (e1 tmps)):=by
 unfold qS at he;split at he
 ·cases he;exact .none
 ·rename_i x;split at he
  ·rename_i k m ab;cases he;have:=sx (σ:=σ) aE ah ab;have e:e1 tmps x=.int k m:=this;rw[Option.map_some,e];exact p6.some m k
  ·cases he
theorem BN{len cap c:Nat}{ex:Bool}{lo U e':Option Int}{Bj Bi Bk:Option Value}{l aC m:Nat}{fC:Bool}(af:iv len cap ex lo U e'=some (l,aC,m,fC))
  (kT:len<=cap) (aA:cap<=c) (hex:ex=true->c=cap) (ij:p6 lo Bj) (um:p6 U Bi) (uo:p6 e' Bk) (cZ:Bool) :
  ∃M,(Instr.sliceBounds cZ len c Bj Bi Bk).run P w=.ok (l,aC,M) w/\m<=M/\(fC=true->M=m)/\l<=aC/\aC<=m/\M<=c:=by
 unfold iv at af;split at af
 ·rename_i a b;cases uo with|some _ Dn=> ?_
  cases um with|some _ Dm=> ?_
  split at af
  ·rename_i fE hm;split at af
   ·rename_i bg lV;obtain⟨s1,s2⟩:=tj (P:=P) (w:=w) (LH hm aA) Dn (if cZ then .slice3Acap else .slice3Alen);obtain⟨du,lC⟩:=tj (P:=P) (w:=w) lV Dm .slice3B;have amd:fE<=cap:=(tj (P:=P) (w:=w) hm Dn .slice3B).2;split at af
    ·rename_i bz;cases ij with|some _ ku=> ?_
     split at af
     ·rename_i H3 ar;cases af;obtain⟨jO,kA⟩:=tj (P:=P) (w:=w) ar ku .slice3C;exact⟨_,by simp[Instr.sliceBounds,s1,du,jO],Nat.le_refl _,λ_=>rfl,kA,lC,s2⟩
     ·cases af
    ·cases ij with|none=> ?_
     cases af;exact⟨_,by simp[Instr.sliceBounds,s1,du],Nat.le_refl _,λ_=>rfl,Nat.zero_le _,lC,s2⟩
   ·cases af
  ·cases af
 ·cases af
 ·rename_i b;cases uo with|none=> ?_
  cases um with|some _ Dm=> ?_
  split at af
  ·rename_i bg lV;obtain⟨du,lC⟩:=tj (P:=P) (w:=w) (LH lV aA) Dm (if cZ then .sliceAcap else .sliceAlen);have D6:=(tj (P:=P) (w:=w) lV Dm .slice3B).2;split at af
   ·rename_i bz;cases ij with|some _ ku=> ?_
    split at af
    ·rename_i H3 ar;cases af;obtain⟨jO,kA⟩:=tj (P:=P) (w:=w) ar ku .sliceB;exact⟨c,by simp[Instr.sliceBounds,du,jO],aA,hex,kA,D6,Nat.le_refl _⟩
    ·cases af
   ·cases ij with|none=> ?_
    cases af;exact⟨c,by simp[Instr.sliceBounds,du],aA,hex,Nat.zero_le _,D6,Nat.le_refl _⟩
  ·cases af
 ·cases uo with|none=> ?_
  cases um with|none=> ?_
  split at af
  ·rename_i bz;cases ij with|some _ ku=> ?_
   split at af
   ·rename_i H3 ar;cases af;obtain⟨jO,kA⟩:=tj (P:=P) (w:=w) ar ku .sliceB;exact⟨c,by simp[Instr.sliceBounds,jO],aA,hex,kA,kT,Nat.le_refl _⟩
   ·cases af
  ·cases ij with|none=> ?_
   cases af;exact⟨c,by simp[Instr.sliceBounds],aA,hex,Nat.zero_le _,kT,Nat.le_refl _⟩
theorem aiu(ok:cX P E σ)(rel:c_ σ μ h w.heap){t:TypeId}{x v:J}{u:Value}{lo U e':Option Int}{Bj Bi Bk:Option Value}(ae:jP E h t x lo U e'=some v)(hu:bk σ μ x u)
  (ij:p6 lo Bj) (um:p6 U Bi) (uo:p6 e' Bk) :∃q,(Instr.sliceAt t u Bj Bi Bk).run P w=.ok q w/\bk σ μ v q:=by
 unfold jP at ae;split at ae
 ·cases ae
 ·rename_i i aN;have ut:=gT (P:=P) ok aN w;split at ae
  ·rename_i len n ao;obtain⟨bK,a7⟩:=hu;subst a7;replace ae:=BL ae;obtain⟨aaH,ae⟩:=ae;split at ae
   ·rename_i l aC m ex af;cases ae;cases uo with|some _ _=>cases aaH|none=> ?_
    obtain⟨M,ah,Hd,_,G',G4,GJ⟩:=BN (P:=P) (w:=w) (c:=len) af (Nat.le_refl _) (Nat.le_refl _) (λ_=>rfl) ij um .none false;have ev:(⟨(bytesOf len n).toArray⟩ :ByteArray).size=len:=by show(bytesOf len n).toArray.size=len;simp[ma]
    refine⟨.string ((⟨(bytesOf len n).toArray⟩ :ByteArray).extract l aC),by simp[Instr.sliceAt,Instr.slice,ut,ao,ev,ah],FY _ _ _,?_⟩;rw[Ws len n l (aC-l) (by omega)];congr 1;apply ByteArray.ext;simp[ByteArray.data_extract,List.extract_toArray,List.extract_eq_take_drop]
   ·cases ae
  ·rename_i e ao;have a7:u=_:=hu;subst a7;split at ae
   ·rename_i y ie af eJ;cases ae;obtain⟨l,aC,m,ex⟩:=y;obtain⟨M,ah,Hd,_,G',G4,GJ⟩:=BN (P:=P) (w:=w) (c:=0) af (Nat.le_refl _) (Nat.le_refl _) (λ_=>rfl) ij um uo true;obtain rfl:M=0:=by omega
    obtain rfl:l=0:=by omega
    obtain rfl:aC=0:=by omega
    exact⟨.slice none 0 0,by simp[Instr.sliceAt,Instr.slice,ut,ao,ah,l4 ok eJ],rfl⟩
   ·cases ae
  ·rename_i e id off len cap cu ex ao;obtain⟨loc,a,c,hm,a7,kT,mi,hex,aU,iB⟩:=hu;subst a7;split at ae
   ·rename_i l aC m fC ie af eJ;replace ae:=c' ae;obtain⟨ev,ae⟩:=ae;cases ae;have Hw:=beq_true.1 ev;obtain⟨M,ah,Hd,zp,G',G4,GJ⟩:=BN (P:=P) (w:=w) af kT mi hex ij um uo true;refine⟨.slice (some (if M=l then a else a.add (l*cu))) (aC-l) (M-l),?_,loc,_,_,hm,rfl,by omega,by omega,λe=>by rw[zp e],λcE=> ?_,?_⟩
    ·simp only[Instr.sliceAt,Instr.slice,ut,ao,ah,l4 ok eJ,Sem.run_bind,Result.andThen_ok,Sem.run_pure,Hw];by_cases e:M=l<;>simp[e]
    ·rw[if_neg (by omega),aU (by omega),add_eq,Nat.add_assoc]
    ·have:l*cu+(M-l) *cu<=c*cu:=by
      rw[<-Nat.add_mul];exact Nat.mul_le_mul_right _ (by omega)
     omega
   ·cases ae
  ·rename_i n e id off ao;obtain⟨loc,hm,a7⟩:=hu;subst a7;split at ae
   ·rename_i ie l aC m fC eJ af;split at ae
    ·rename_i size st dY;replace ae:=c' ae;obtain⟨hle,ae⟩:=ae;cases ae;have pK:=dr.1 hle;obtain⟨M,ah,Hd,zp,G',G4,GJ⟩:=BN (P:=P) (w:=w) (c:=n) af (Nat.le_refl _) (Nat.le_refl _) (λ_=>rfl) ij um uo false
     have Z4:fC=true:=by have:=af;unfold iv at this;split at this<;>(repeat' (split at this))<;>first|(cases this;rfl) |cases this
     obtain rfl:=zp Z4;have cL:h.get id≠.dead:=λe=>by rw[e]at dY;cases dY
     obtain⟨jA,alj,fr,aw,aL,bo,_⟩:=(rel.obj id loc _ hm (ag.lT cL)).row dY;refine⟨.slice (some (if M=l then⟨loc.b,loc.o+off,none⟩else Addr.add ⟨loc.b,loc.o+off,none⟩ (l*ie.size))) (aC-l) (M-l),?_,loc,_,_,hm,rfl,by omega,Nat.le_refl _,λ_=>rfl,λcE=> ?_,?_⟩
     ·simp[Instr.sliceAt,Instr.sureAddr,ut,ao,ah,l4 ok eJ]
     ·rw[if_neg (by omega),add_eq,Nat.add_assoc]
     ·have:l*ie.size+(M-l) *ie.size<=n*ie.size:=by
       rw[<-Nat.add_mul];exact Nat.mul_le_mul_right _ (by omega)
      omega
    ·cases ae
   ·cases ae
  ·cases ae
end
section
variable{P:Program}{E:Env}{σ:Nat->Int}{μ:Map}{h:ag}{w:World}{r:bl}{tmps:Array Value}
theorem Ye(ok:cX P E σ){s:TypeId}{x v:J}{u:Value}{f:Nat}(ae:gN E s x f=some v)(hu:bk σ μ x u) :
  ∃q,(Instr.fieldAt s u f).run P w=.ok q w/\bk σ μ v q:=by
 unfold gN at ae;split at ae
 ·rename_i i id off au;obtain⟨loc,hm,a7⟩:=hu;subst a7;split at ae
  ·rename_i fs ao;split at ae
   ·rename_i fd aB;split at ae
    ·rename_i e7 pH;replace ae:=BL ae;obtain⟨h0,ae⟩:=ae;cases ae;have aI:¬e7.size=0:=beq_false.1 h0;refine⟨.pointer (some ⟨loc.b,loc.o+(off+fd.offset),none⟩),?_,loc,hm,rfl⟩;simp[Instr.fieldAt,gT ok au,ao,aB,Instr.sureAddr,fieldPlace,l4 ok pH,aI,add_eq,Nat.add_assoc]
    ·cases ae
   ·cases ae
  ·cases ae
 ·cases ae
theorem Yf(ok:cX P E σ){s:TypeId}{x v:J}{u:Value}{f:Nat}(ae:lS E s x f=some v)(hu:bk σ μ x u) :
  ∃q,(Instr.field s u f).run P w=.ok q w/\bk σ μ v q:=by
 unfold lS at ae;split at ae
 ·rename_i i cs au;obtain⟨vs,a7,rv⟩:=hu;subst a7;split at ae
  ·rename_i fs ao;split at ae
   ·rename_i fd aB;obtain⟨q,ay,jN⟩:=As (P:=P) ok rv ae w;exact⟨q,by simp[Instr.field,gT ok au,ao,aB,asAgg,ay],jN⟩
   ·cases ae
  ·cases ae
 ·cases ae
theorem C7{x:Int}{n j:Nat}(az:mB x n=some j) :0<=x/\x<(n:Int)/\x.toNat=j/\j<n:=by
 cases x with
 |negSucc m=>cases az
 |ofNat m=>
  simp only[mB]at az;replace az:=c' az;obtain⟨bK,az⟩:=az;cases az;have:=c4.1 bK;simp;omega
theorem ab9(ok:cX P E σ){t:TypeId}{x fx v:J}{u z:Value}(ae:eV E t x fx=some v)(hu:bk σ μ x u)(aI:bk σ μ fx z) :
  ∃q,(Instr.indexAt t u z).run P w=.ok q w/\bk σ μ v q:=by
 unfold eV at ae;split at ae
 ·rename_i i k n aN;have cI:z=_:=aI;subst cI;have ut:=gT (P:=P) ok aN w;split at ae
  ·rename_i len e id off ao;obtain⟨loc,hm,a7⟩:=hu;subst a7;split at ae
   ·rename_i ie j eJ az;cases ae;obtain⟨a,b,c,d⟩:=C7 az;refine⟨.pointer (some ⟨loc.b,loc.o+(off+j*ie.size),none⟩),?_,loc,hm,rfl⟩;simp[Instr.indexAt,asIntOf,ut,ao,Instr.sureAddr,l4 ok eJ,a,b,c,add_eq,Nat.add_assoc]
   ·cases ae
  ·rename_i e id off len cap cu ex ao;obtain⟨loc,ad,jA,hm,a7,kT,mi,hex,aU,iB⟩:=hu;subst a7;split at ae
   ·rename_i ie j eJ az;replace ae:=c' ae;obtain⟨ev,ae⟩:=ae;cases ae;obtain⟨a,b,c,d⟩:=C7 az;have Hw:=beq_true.1 ev;have cq:=aU (by omega);subst cq;refine⟨.pointer (some ⟨loc.b,loc.o+(off+j*cu),none⟩),?_,loc,hm,rfl⟩;simp[Instr.indexAt,asIntOf,ut,ao,l4 ok eJ,a,b,c,Hw,add_eq,Nat.add_assoc]
   ·cases ae
  ·cases ae
 ·cases ae
theorem aiS(l:List UInt8)(j:Nat) :(⟨l.toArray⟩ :ByteArray)[j]? =l[j]? :=by
 by_cases az:j<l.length
 ·rw[getElem?_pos (⟨l.toArray⟩ :ByteArray) j (by show j<l.toArray.size;simpa using az),List.getElem?_eq_getElem az];rfl
 ·rw[getElem?_neg (⟨l.toArray⟩ :ByteArray) j (by show¬j<l.toArray.size;simpa using az),List.getElem?_eq_none (by omega)]
theorem ab'(ok:cX P E σ){t:TypeId}{x fx v:J}{u z:Value}(ae:jn E t x fx=some v)(hu:bk σ μ x u)(aI:bk σ μ fx z) :
  ∃q,(Instr.index t u z).run P w=.ok q w/\bk σ μ v q:=by
 unfold jn at ae;split at ae
 ·rename_i i k n aN;have cI:z=_:=aI;subst cI;have ut:=gT (P:=P) ok aN w;split at ae
  ·rename_i len e cs ao;obtain⟨vs,a7,rv⟩:=hu;subst a7;split at ae
   ·rename_i ie j eJ az;obtain⟨a,b,c,d⟩:=C7 az;obtain⟨q,ay,jN⟩:=As (P:=P) ok rv ae w;exact⟨q,by simp[Instr.index,asIntOf,ut,ao,l4 ok eJ,a,b,c,ay],jN⟩
   ·cases ae
  ·rename_i len m ao;obtain⟨bK,a7⟩:=hu;subst a7;split at ae
   ·rename_i j az;cases ae;obtain⟨a,b,c,d⟩:=C7 az;have aE:(⟨(bytesOf len m).toArray⟩ :ByteArray)[j]? =some (UInt8.ofNat (cC m j)):=by rw[aiS,qa,if_pos d]
    have af:=nJ m j;refine⟨.int .u8 (UInt8.ofNat (cC m j)).toNat,by simp[Instr.index,asIntOf,ut,ao,a,c,aE],?_⟩;rw[bk];congr 1;simp;omega
   ·cases ae
  ·cases ae
 ·cases ae
theorem C'{d:TypeDesc}(ao:oY d=true) :(∃k,d=.int k)\/d=.string\/d=.bool:=by
 unfold oY at ao;split at ao
 ·exact .inl ⟨_,rfl⟩
 ·exact .inr (.inl rfl)
 ·exact .inr (.inr rfl)
 ·cases ao
theorem L0(em:Bool)(D:Nat){t:TypeId}{d:TypeDesc}(hu:P.underlying t=some d)(ao:oY d=true)(u:Value) :(Instr.checkKey em (D+1) t u).run P w=.ok () w:=by rcases C' ao with⟨k,rfl⟩ |rfl|rfl<;>simp[Instr.checkKey,run_underlying hu]
theorem Dl{i:bm}{dv:TypeId}(aj:sf E dv=true)(aN:E.ty dv=some i) :oY i.desc=true\/
  ∃fs,i.desc=.struct fs/\(x0 fs.toList 0=true/\i.size=fs.toList.length)/\∀f,f∈fs.toList->∃e7,E.ty f.type=some e7/\oY e7.desc=true/\e7.size=1:=by
 unfold sf at aj;rw[aN]at aj;simp only[Bool.or_eq_true]at aj;rcases aj with aj|aj
 ·exact .inl aj
 ·right;split at aj
  ·rename_i fs ao;simp only[Bool.and_eq_true,List.all_eq_true]at aj;refine⟨fs,ao,⟨aj.1.1.2,beq_true.1 aj.1.2⟩,λf aB=> ?_⟩;have:=aj.2 f aB;split at this
   ·rename_i e7 pH;exact⟨e7,pH,(eF this).1,beq_true.1 (eF this).2⟩
   ·cases this
  ·cases aj
theorem LZ(ok:cX P E σ)(em:Bool)(D:Nat){xs:List J}{us:Array Value}(rx:bX σ μ xs us.toList){g:TypeId->J->J->Option Bool} :
  ∀(fs:List Field) (b:Bool),(∀f,f∈fs->∃e7,E.ty f.type=some e7/\oY e7.desc=true)->eqFields E g fs xs xs=some true->
   (forIn fs PUnit.unit λf (_:PUnit)=>(if f.name≠ "_" then do
     let x<-part f.type us f.offset
     Instr.checkKey em (D+1) f.type x
     pure (ForInStep.yield PUnit.unit)else pure (ForInStep.yield PUnit.unit) :Sem (ForInStep PUnit))).run P w=.ok PUnit.unit w
 |[],b,_,_=>by simp
 |f::fs,b,aB,he=>by
  simp only[eqFields]at he;cases h1:nk E f.type xs f.offset with
  |none=>rw[h1]at he;cases he
  |some a=>
   rw[h1]at he;simp only at he;cases aa:g f.type a a with
   |none=>rw[aa]at he;cases he
   |some q=>
    rw[aa]at he;cases q with
    |false=>cases he
    |true=>
     simp only at he;obtain⟨x,ab,_⟩:=As (P:=P) ok rx h1 w;obtain⟨e7,pH,aj⟩:=aB f List.mem_cons_self;have bI:=LZ ok em D rx fs b (λf qz=>aB f (List.mem_cons_of_mem _ qz)) he;simp only[List.forIn_cons,Sem.run_bind,Sem.run_ite];by_cases al:f.name≠ "_"
     ·rw[if_pos al];simp only[Sem.run_bind,ab,Result.andThen_ok,L0 em D (ok.ty _ _ pH).dN aj,Sem.run_pure];exact bI
     ·rw[if_neg al];simp only[Sem.run_pure,Result.andThen_ok];exact bI
theorem Gc{t:TypeId}{i:bm}{fs:Array Field}{d:Nat}{x y:J}{b:Bool}(aN:E.ty t=some i)(ao:i.desc=.struct fs)(he:fm E h (d+1) t x y=some b) :
  ∃xs fe,x=.agg xs/\y=.agg fe/\i.plain=true/\eqFields E (fm E h d) fs.toList xs fe=some b:=by
 simp only[fm,aN,ao]at he;split at he;all_goals first|contradiction|skip
 rename_i gs xs fe aE;cases aE;replace he:=c' he;obtain⟨aD,he⟩:=he;exact⟨xs,fe,rfl,rfl,aD,he⟩
theorem WW(ok:cX P E σ)(em:Bool)(D:Nat){dv:TypeId}{k:J}{u:Value}(aj:lz E h dv k=true)(hu:bk σ μ k u) :(Instr.checkKey em (D+1+1) dv u).run P w=.ok () w:=by
 unfold lz at aj;obtain⟨h1,aa⟩:=eF (eF aj).1;cases aN:E.ty dv with
 |none=>simp only[sf,aN]at h1;cases h1
 |some i=>
  rcases Dl h1 aN with aB|⟨fs,ao,aD,gn⟩
  ·exact L0 em (D+1) (ok.ty _ _ aN).dN aB u
  ·split at aa
   ·rename_i b af;subst aa;obtain⟨xs,fe,rfl,aL,_,he⟩:=Gc aN ao af;cases aL;obtain⟨us,a7,hI⟩:=hu;subst a7;have:=LZ (P:=P) (w:=w) ok em D hI fs.toList true (λf aB=>let⟨e7,a,b,_⟩:=gn f aB;⟨e7,a,b⟩) he;obtain⟨n,al⟩ :∃n,n=D+1:=⟨_,rfl⟩;rw[<-al]at this|-;simp only[Instr.checkKey,Sem.run_bind,gT ok aN,ao,Result.andThen_ok];rw[<-Array.forIn_toList];have e:=this;simp only[ne_eq,ite_not,bind_pure_comp]at e|-;rw[e];rfl
   ·cases aa
theorem uP(ok:cX P E σ)(em:Bool){dv:TypeId}{k:J}{u:Value}(aj:lz E h dv k=true)(hu:bk σ μ k u) :(Instr.checkKey em 10000 dv u).run P w=.ok () w:=
 WW ok em 9998 aj hu
def wJ(σ:Nat->Int)(μ:Map)(u:Value)(cj:List MapEntry)(i:Nat) :Option (Nat×J×Nat)->Option (Nat×Value)->Prop
 |none,x=>x=none
 |some (j,v,b),x=>∃y e,x=some (j,y)/\bk σ μ v y/\i<=j/\cj[j-i]? =some e/\e.key=u/\e.val=y/\e.born=b
theorem wJ.step{u:Value}{e:MapEntry}{cj:List MapEntry}{i:Nat}{res:Option (Nat×J×Nat)}{x:Option (Nat×Value)}(ah:wJ σ μ u cj (i+1) res x) :wJ σ μ u (e::cj) i res x:=by
 cases res with
 |none=>exact ah
 |some y=>
  obtain⟨j,v,b⟩:=y;obtain⟨y,cR,h1,aa,av,aO,bb⟩:=ah;refine⟨y,cR,h1,aa,by omega,?_,bb⟩;rw[show j-i=(j-(i+1)) +1 by omega,List.getElem?_cons_succ];exact aO
theorem Ad(ok:cX P E σ){dv:TypeId}{i:bm}(aN:E.ty dv=some i)(aB:oY i.desc=true){d:Nat}{k dg:J}{b:Bool}{u dD:Value}(he:fm E h (d+1) dv k dg=some b)
  (hu:bk σ μ k u) (nZ:bk σ μ dg dD) :Instr.sameNow i.desc u dD=some b/\(b=true->u=dD):=by
 simp only[fm,aN]at he;rcases C' aB with⟨j,ao⟩ |ao|ao
 ·rw[ao]at he|-;split at he;all_goals first|contradiction|skip
  ·have a7:u=_:=hu;have pB:dD=_:=nZ;subst a7 pB;replace he:=c' he;obtain⟨aj,he⟩:=he;cases he;rw[kP.1 aj,oJ];exact⟨by simp[Instr.sameNow],λe=>by rw[beq_iff_eq.1 e]⟩
  ·have a7:u=_:=hu;have pB:dD=_:=nZ;subst a7 pB;replace he:=c' he;obtain⟨aj,he⟩:=he;rw[kP.1 aj,<-w9 ok he];exact⟨by simp[Instr.sameNow,gX.val],λe=>by have:=beq_iff_eq.1 e;simp only[gX.val]at this;rw[this]⟩
  ·have a7:u=_:=hu;have pB:dD=_:=nZ;subst a7 pB;replace he:=c' he;obtain⟨aj,he⟩:=he;rw[kP.1 aj,<-w9 ok he];exact⟨by simp[Instr.sameNow,gX.val],λe=>by have:=beq_iff_eq.1 e;simp only[gX.val]at this;rw[this]⟩
  ·rename_i k a dg ea _;have a7:u=_:=hu;have pB:dD=_:=nZ;subst a7 pB;replace he:=c' he;obtain⟨aj,he⟩:=he;rw[kP.1 aj];cases ix:Nat.beq a ea with
   |true=>
    rw[ix]at he;cases he;rw[beq_true.1 ix];exact⟨by simp[Instr.sameNow],λ_=>rfl⟩
   |false=>
    rw[ix]at he;rw[<-w9 ok he];exact⟨by simp[Instr.sameNow,gX.val],λe=>by have:=beq_iff_eq.1 e;simp only[gX.val]at this;rw[this]⟩
 ·rw[ao]at he|-;split at he;all_goals first|contradiction|skip
  obtain⟨h1,a7⟩:=hu;obtain⟨aa,pB⟩:=nZ;subst a7 pB;cases he;refine⟨by simp only[Instr.sameNow];rw[beq_toListBytes,yj,yj,Ej h1 aa],λe=> ?_⟩;rw[beq_true.1 (eF e).1,beq_true.1 (eF e).2]
 ·rw[ao]at he|-;split at he;all_goals first|contradiction|skip
  have a7:u=_:=hu;have pB:dD=_:=nZ;subst a7 pB;cases he;exact⟨rfl,λe=>by rw[beq_iff_eq.1 e]⟩
theorem MA(ok:cX P E σ){d:Nat}{xs fe:List J}{us vs:Array Value}(rx:bX σ μ xs us.toList)(i_:bX σ μ fe vs.toList) :
  ∀(fs:List Field),(∀f,f∈fs->∃e7,E.ty f.type=some e7/\oY e7.desc=true/\e7.size=1)->eqFields E (fm E h (d+1)) fs xs fe=some true->
   ∀f,f∈fs->us[f.offset]? =vs[f.offset]? /\(us[f.offset]?).isSome=true
 |[],_,_,f,aB=>by cases aB
 |f::fs,aj,he,g,aE=>by
  simp only[eqFields]at he;obtain⟨e7,pH,pJ,ev⟩:=aj f List.mem_cons_self;have nQ:nd e7.desc=false:=by rcases C' pJ with⟨k,e⟩ |e|e<;>rw[e]<;>rfl
  cases h1:nk E f.type xs f.offset with
  |none=>rw[h1]at he;cases he
  |some a=>
   cases aa:nk E f.type fe f.offset with
   |none=>rw[h1,aa]at he;cases he
   |some c=>
    rw[h1,aa]at he;simp only at he;cases av:fm E h (d+1) f.type a c with
    |none=>rw[av]at he;cases he
    |some q=>
     rw[av]at he;cases q with
     |false=>cases he
     |true=>
      simp only at he;rcases List.mem_cons.1 aE with rfl|aE
      ·unfold nk at h1 aa;rw[pH]at h1 aa;simp only[nQ]at h1 aa;obtain⟨x,ab,cg⟩:=rx.get _ _ h1;obtain⟨y,an,cK⟩:=i_.get _ _ aa;have:=(Ad ok pH pJ av cg cK).2 rfl;subst this;have iU:us[g.offset]? =some x:=by simpa using ab
       have zV:vs[g.offset]? =some x:=by simpa using an
       rw[iU,zV];exact⟨rfl,rfl⟩
      ·exact MA ok rx i_ fs (λf aB=>aj f (List.mem_cons_of_mem _ aB)) he g aE
theorem Lt(ok:cX P E σ)(rel:c_ σ μ h w.heap){dv:TypeId}{k:J}{u:Value}(hu:bk σ μ k u)(same:∀dg dD,HZ k dg=true->fm E h 5 dv k dg=some true->bk σ μ dg dD->dD=u) :
  ∀(es:List (J×J×Nat)) (cj:List MapEntry) (i:Nat) (res:Option (Nat×J×Nat)),h6 E h dv k es i=some res->fX σ μ es cj->
   ∃x,(Instr.findAsking dv u cj i).run P w=.ok x w/\wJ σ μ u cj i res x
 |[],_,i,res,he,ah=>by simp only[h6]at he;cases he;have:_=_:=ah;subst this;exact⟨none,by simp[Instr.findAsking],rfl⟩
 |(dg,v,b)::es,_,i,res,he,⟨e,cj,rfl,aj,ae,af,ah⟩=>by
  simp only[h6]at he;replace he:=c' he;obtain⟨vi,he⟩:=he;cases h1:fm E h 5 dv k dg with
  |none=>rw[h1]at he;cases he
  |some q=>
   rw[h1]at he;have ay:=MC ok rel 5 10000 dv k dg q (by omega) h1 u e.key hu aj;have nW:(Op.equal dv u e.key).run P w=.ok q w:=ay;cases q with
   |true=>
    simp only at he;cases he;refine⟨some (i,e.val),by simp[Instr.findAsking,nW],e.val,e,rfl,ae,Nat.le_refl _,by simp,same _ _ vi h1 aj,rfl,af⟩
   |false=>
    simp only at he;obtain⟨x,ab,aB⟩:=Lt ok rel hu same es cj (i+1) res he ah;exact⟨x,by simp[Instr.findAsking,nW,ab],aB.step⟩
theorem PJ(ok:cX P E σ){dv:TypeId}{i:bm}(aN:E.ty dv=some i)(aB:oY i.desc=true){k:J}{u:Value}(hu:bk σ μ k u) :
  ∀(es:List (J×J×Nat)) (cj:List MapEntry) (n:Nat) (res:Option (Nat×J×Nat)),h6 E h dv k es n=some res->fX σ μ es cj->
   ∃x,Instr.findNow i.desc u cj n=some x/\wJ σ μ u cj n res x
 |[],_,n,res,he,ah=>by simp only[h6]at he;cases he;have:_=_:=ah;subst this;exact⟨none,rfl,rfl⟩
 |(dg,v,b)::es,_,n,res,he,⟨e,cj,rfl,aj,ae,af,ah⟩=>by
  simp only[h6]at he;replace he:=c' he;obtain⟨vi,he⟩:=he;cases h1:fm E h 5 dv k dg with
  |none=>rw[h1]at he;cases he
  |some q=>
   rw[h1]at he;obtain⟨ay,au⟩:=Ad ok aN aB h1 hu aj;cases q with
   |true=>
    simp only at he;cases he;exact⟨some (n,e.val),by simp[Instr.findNow,ay],e.val,e,rfl,ae,Nat.le_refl _,by simp,(au rfl).symm,rfl,af⟩
   |false=>
    simp only at he;obtain⟨x,ab,kS⟩:=PJ ok aN aB hu es cj (n+1) res he ah;exact⟨x,by simp[Instr.findNow,ay,ab],kS.step⟩
end
section
variable{P:Program}{E:Env}{σ:Nat->Int}{μ:Map}{h:ag}{w:World}{r:bl}{tmps:Array Value}
theorem IT:∀(fs:List Field) (i:Nat),x0 fs i=true->∀j,j<fs.length->∃f,f∈fs/\f.offset=i+j
 |[],_,_,j,az=>by simp at az
 |f::fs,i,aY,0,_=>⟨f,List.mem_cons_self,by simp only[x0]at aY;have:=beq_true.1 (eF aY).1;omega⟩
 |f::fs,i,aY,j+1,az=>by simp only[x0]at aY;obtain⟨g,aE,e⟩:=IT fs (i+1) (eF aY).2 j (by simpa using az);exact⟨g,List.mem_cons_of_mem _ aE,by omega⟩
theorem acC(ok:cX P E σ){dv:TypeId}{k:J}{u:Value}(aj:lz E h dv k=true)(hu:bk σ μ k u) :
  ∀dg dD,HZ k dg=true->fm E h 5 dv k dg=some true->bk σ μ dg dD->dD=u:=by
 intro dg dD ar he nZ;unfold lz at aj;obtain⟨u6,av⟩:=eF aj;obtain⟨h1,aa⟩:=eF u6;cases aN:E.ty dv with
 |none=>simp only[sf,aN]at h1;cases h1
 |some i=>
  rcases Dl h1 aN with aB|⟨fs,ao,⟨aY,au⟩,gn⟩
  ·exact((Ad ok aN aB he hu nZ).2 rfl).symm
  ·obtain⟨xs,fe,rfl,rfl,_,he⟩:=Gc aN ao he;obtain⟨us,rfl,hI⟩:=hu;obtain⟨vs,rfl,rv⟩:=nZ;have al:=MA ok hI rv fs.toList gn he;rw[aN]at av;have e_:xs.length=fs.toList.length:=by rw[beq_true.1 av,au]
   have gF:xs.length=fe.length:=beq_true.1 ar;have aw:=hI.length;have aL:=rv.length;congr 1;apply Array.ext_getElem?;intro j;by_cases az:j<fs.toList.length
   ·obtain⟨f,aB,oI⟩:=IT fs.toList 0 aY j az;have:=(al f aB).1;rw[oI,Nat.zero_add]at this;exact this.symm
   ·rw[Array.getElem?_eq_none (by simp only[Array.length_toList]at aw aL;omega),Array.getElem?_eq_none (by simp only[Array.length_toList]at aw aL;omega)]
theorem u0(ok:cX P E σ)(rel:c_ σ μ h w.heap){dv:TypeId}{k:J}{u:Value}(aj:lz E h dv k=true)(hu:bk σ μ k u){es:List (J×J×Nat)}{cj:List MapEntry}
  {res:Option (Nat×J×Nat)} (he:h6 E h dv k es 0=some res) (ah:fX σ μ es cj) :
  ∃x,(Instr.findKey dv u cj).run P w=.ok x w/\wJ σ μ u cj 0 res x:=by
 have iR:=aj;unfold lz at aj;obtain⟨u6,av⟩:=eF aj;obtain⟨h1,aa⟩:=eF u6;cases aN:E.ty dv with
 |none=>simp only[sf,aN]at h1;cases h1
 |some i=>
  rcases Dl h1 aN with aB|⟨fs,ao,_,gn⟩
  ·obtain⟨x,ab,kS⟩:=PJ ok aN aB hu es cj 0 res he ah;exact⟨x,by simp[Instr.findKey,gT ok aN,ab],kS⟩
  ·obtain⟨x,ab,kS⟩:=Lt (P:=P) ok rel hu (acC ok iR hu) es cj 0 res he ah;refine⟨x,?_,kS⟩;simp only[Instr.findKey,Sem.run_bind,gT ok aN,ao,Result.andThen_ok];cases cj with
   |nil=>
    simp[Instr.findAsking]at ab;simp[Instr.findNow,ab]
   |cons e cj=>simpa [Instr.findNow,Instr.sameNow]using ab
theorem ze(rel:c_ σ μ h w.heap){id:Nat}{loc:Loc}{es:List (J×J×Nat)}{clock:Nat}(hm:μ id=some loc)(aE:h.get id=.map es clock) :
  ∃cj,w.heap[loc.b]? =some (.map cj clock)/\fX σ μ es cj.toList/\(getObj loc.b).run P w=.ok (.map cj clock) w:=by
 have cL:h.get id≠.dead:=by rw[aE];simp
 have:=rel.obj id loc _ hm (ag.lT cL);rw[aE]at this;obtain⟨cj,e,r⟩:=this;exact⟨cj,e,r,by simp[getObj,Sem.run,e]⟩
theorem aeU(ok:cX P E σ)(rel:c_ σ μ h w.heap){t:TypeId}{x fx v:J}{u z:Value}{b:Bool}(ae:iD E h t x fx b=some v)(hu:bk σ μ x u)(aI:bk σ μ fx z) :
  ∃q,(Instr.lookup t u z b).run P w=.ok q w/\bk σ μ v q:=by
 unfold iD at ae;split at ae
 ·cases ae
 ·rename_i i aN;split at ae
  ·rename_i dv e ao;split at ae
   ·cases ae
   ·rename_i ie eJ;replace ae:=c' ae;obtain⟨aj,ae⟩:=ae;obtain⟨am7,Og,hJ,_⟩:=vY (P:=P) ok eJ
    have pair:∀(a:J) (q:Value) (c:Bool),bk σ μ a q->bk σ μ (bif b then .tuple [a,.bool c]else a) (if b=true then .tuple #[q,.bool c]else q):=by
     intro a q c o7;cases b with
     |true=>exact⟨_,rfl,q,[.bool c],rfl,o7,.bool c,[],rfl,rfl,rfl⟩
     |false=>exact o7
    split at ae
    ·have a7:u=_:=hu;subst a7;split at ae
     ·rename_i nS;cases ae;refine⟨_,?_,pair _ _ false (hJ μ)⟩;obtain⟨x,ab,kS⟩:=u0 (P:=P) ok rel aj aI nS (cj:=[]) rfl;have:x=none:=kS;subst this;simp[Instr.lookup,gT ok aN,ao,uP ok true aj aI,ab,Og]
     ·cases ae
    ·rename_i id;obtain⟨loc,hm,a7⟩:=hu;subst a7;split at ae
     ·rename_i es clock aE;obtain⟨cj,aw,aL,bo⟩:=ze (P:=P) rel hm aE;split at ae
      ·rename_i j df ea nS;cases ae;obtain⟨x,ab,kS⟩:=u0 (P:=P) ok rel aj aI nS aL;obtain⟨y,ent,vv,i_,_⟩:=kS;subst vv;refine⟨_,?_,pair _ _ true i_⟩;simp[Instr.lookup,gT ok aN,ao,bo,uP ok cj.isEmpty aj aI,ab]
      ·rename_i nS;cases ae;obtain⟨x,ab,kS⟩:=u0 (P:=P) ok rel aj aI nS aL;have:x=none:=kS;subst this;refine⟨_,?_,pair _ _ false (hJ μ)⟩;simp[Instr.lookup,gT ok aN,ao,bo,uP ok cj.isEmpty aj aI,ab,Og]
      ·cases ae
     ·cases ae
    ·cases ae
  ·cases ae
theorem fX.length:∀{ck:List (J×J×Nat)} {es:List MapEntry},fX σ μ ck es->ck.length=es.length
 |[],_,e=>by have:_=_:=e;subst this;rfl
 |(k,v,b)::ck,_,⟨e,cj,rfl,_,_,_,r⟩=>by simp[fX.length r]
theorem acX(ok:cX P E σ)(rel:c_ σ μ h w.heap){t:TypeId}{x v:J}{u:Value}(ts:Array TypeId)(oV:ts[0]? =some t)(rt:TypeId)(ae:eW E h t x=some v)(hu:bk σ μ x u) :
  ∃q,(Builtin.len_ ts rt #[u]).run P w=.ok q w/\bk σ μ v q:=by
 unfold eW at ae;split at ae
 ·cases ae
 ·rename_i i aN;have ut:=gT (P:=P) ok aN w;split at ae
  ·rename_i l n ao;obtain⟨_,a7⟩:=hu;subst a7;cases ae;have ev:(⟨(bytesOf l n).toArray⟩ :ByteArray).size=l:=by show(bytesOf l n).toArray.size=l;simp[ma]
   exact⟨.int .i64 l,by simp[Builtin.len_,oV,ut,ao,goInt,ev],rfl⟩
  ·rename_i n e ao;cases ae;exact⟨.int .i64 n,by simp[Builtin.len_,oV,ut,ao,goInt],rfl⟩
  ·rename_i e ao;have a7:u=_:=hu;subst a7;cases ae;exact⟨.int .i64 0,by simp[Builtin.len_,oV,ut,ao,goInt],rfl⟩
  ·rename_i e id off len cap cu ex ao;obtain⟨loc,a,c,_,a7,_⟩:=hu;subst a7;cases ae;exact⟨.int .i64 len,by simp[Builtin.len_,oV,ut,ao,goInt],rfl⟩
  ·rename_i a b ao;have a7:u=_:=hu;subst a7;cases ae;exact⟨.int .i64 0,by simp[Builtin.len_,oV,ut,ao,goInt],rfl⟩
  ·rename_i a b id ao;obtain⟨loc,hm,a7⟩:=hu;subst a7;split at ae
   ·rename_i es clock aE;cases ae;obtain⟨cj,aw,aL,bo⟩:=ze (P:=P) rel hm aE;refine⟨.int .i64 cj.size,by simp[Builtin.len_,oV,ut,ao,goInt,bo],?_⟩;rw[bk,aL.length];simp
   ·cases ae
  ·cases ae
theorem WS(ok:cX P E σ){t:TypeId}{x v:J}{u:Value}(ts:Array TypeId)(oV:ts[0]? =some t)(rt:TypeId)(ae:lO E t x=some v)(hu:bk σ μ x u) :
  ∃q,(Builtin.cap_ ts rt #[u]).run P w=.ok q w/\bk σ μ v q:=by
 unfold lO at ae;split at ae
 ·cases ae
 ·rename_i i aN;have ut:=gT (P:=P) ok aN w;split at ae
  ·rename_i e ao;have a7:u=_:=hu;subst a7;cases ae;exact⟨.int .i64 0,by simp[Builtin.cap_,oV,ut,ao,goInt],rfl⟩
  ·rename_i e id off len c cu ao;obtain⟨loc,a,jA,_,a7,_,_,hex,_⟩:=hu;subst a7;cases ae;exact⟨.int .i64 jA,by simp[Builtin.cap_,oV,ut,ao,goInt],by rw[hex rfl];rfl⟩
  ·cases ae
theorem Pw:∀(xs:List J) (x v:J) (us:List Value) (u:Value),jI x xs=some v->bk σ μ x u->bX σ μ xs us->∃q,(us.foldlM Builtin.min2 u).run P w=.ok q w/\bk σ μ v q
 |[],x,v,us,u,ae,hu,ah=>by simp only[jI]at ae;cases ae;rw[bX.iF.1 ah];exact⟨u,by simp,hu⟩
 |y::fe,x,v,_,u,ae,hu,⟨z,us,rfl,aI,ah⟩=>by
  unfold jI at ae;split at ae
  ·rename_i heq;cases heq
  ·rename_i heq;cases heq;have a7:u=_:=hu;have cI:z=_:=aI;subst a7 cI;obtain⟨q,ay,jN⟩:=Pw _ _ v us _ ae rfl ah;refine⟨q,?_,jN⟩;simp only[List.foldlM_cons,Sem.run_bind,Builtin.min2,Sem.run_pure,Result.andThen_ok];rw[oa,cond_decide]at ay;exact ay
  ·cases ae
theorem Pv:∀(xs:List J) (x v:J) (us:List Value) (u:Value),jH x xs=some v->bk σ μ x u->bX σ μ xs us->∃q,(us.foldlM Builtin.max2 u).run P w=.ok q w/\bk σ μ v q
 |[],x,v,us,u,ae,hu,ah=>by simp only[jH]at ae;cases ae;rw[bX.iF.1 ah];exact⟨u,by simp,hu⟩
 |y::fe,x,v,_,u,ae,hu,⟨z,us,rfl,aI,ah⟩=>by
  unfold jH at ae;split at ae
  ·rename_i heq;cases heq
  ·rename_i heq;cases heq;have a7:u=_:=hu;have cI:z=_:=aI;subst a7 cI;obtain⟨q,ay,jN⟩:=Pv _ _ v us _ ae rfl ah;refine⟨q,?_,jN⟩;simp only[List.foldlM_cons,Sem.run_bind,Builtin.max2,Sem.run_pure,Result.andThen_ok];rw[oa,cond_decide]at ay;exact ay
  ·cases ae
end
section
variable{P:Program}{E:Env}{σ:Nat->Int}{μ:Map}{h:ag}{w:World}{r:bl}{tmps:Array Value}
theorem bX.set:∀{ck:List J} {vs:List Value},bX σ μ ck vs->∀(i:Nat) {a:J} {v:Value},bk σ μ a v->bX σ μ (ck.set i a) (vs.set i v)
 |[],_,e,i,a,v,_=>by rw[bX.iF.1 e];rfl
 |b::ck,_,⟨u,us,rfl,p,q⟩,0,a,v,ae=>⟨v,us,rfl,ae,q⟩
 |b::ck,_,⟨u,us,rfl,p,q⟩,i+1,a,v,ae=>⟨u,_,rfl,p,bX.set q i ae⟩
theorem Rv:∀(vs:List J) (us:List Value) (cs:List J) (xs:Array Value) (off n:Nat),bX σ μ vs us->bX σ μ cs xs.toList->
  bX σ μ (uu cs (off+n) vs) ((us.zipIdx n).foldl (λ(cs:Array Value) (p:Value×Nat)=>cs.setIfInBounds (off+p.2) p.1) xs).toList
 |[],us,cs,xs,off,n,ae,aA=>by rw[bX.iF.1 ae];exact aA
 |v::vs,_,cs,xs,off,n,⟨u,us,rfl,hu,xE⟩,aA=>by simp only[uu,List.zipIdx_cons,List.foldl_cons];have:=Rv vs us (cs.set (off+n) v) (xs.setIfInBounds (off+n) u) off (n+1) xE (by rw[Array.toList_setIfInBounds];exact aA.set _ hu);rwa[<-Nat.add_assoc]at this
theorem Ru:∀(vs cs:List J) (i:Nat),(uu cs i vs).length=cs.length
 |[],cs,i=>rfl
 |v::vs,cs,i=>by simp only[uu,Ru vs,List.length_set]
def Bv(σ:Nat->Int)(μ:Map) :List (Nat×J)->List (Nat×Value)->Prop
 |[],qs=>qs=[]
 |(i,v)::ps,qs=>∃x QI,qs=(i,x)::QI/\bk σ μ v x/\Bv σ μ ps QI
theorem Jd(aE:jT E μ)(ah:∀i,bk σ μ (r.get i) (tmps.getD i undef)) :∀{ps:List (Nat×Operand)} {l:List (Nat×J)},qk E r ps=some l->
  Bv σ μ l (ps.map λ(p:Nat×Operand)=>(p.1,e1 tmps p.2))
 |[],_,he=>by cases he;rfl
 |(i,x)::ps,_,he=>by
  unfold qk at he;split at he
  ·rename_i v l h1 aa;cases he;exact⟨_,_,rfl,sx aE ah h1,Jd aE ah aa⟩
  ·cases he
theorem Cc{pl:Nat->Option (Nat×Nat)} :∀(ps:List (Nat×J)) (qs:List (Nat×Value)) (cs j0:List J) (xs:Array Value),kQ pl cs ps=some j0->Bv σ μ ps qs->bX σ μ cs xs.toList->
  ∃E4,Instr.fill pl xs qs=some E4/\bX σ μ j0 E4.toList
 |[],qs,cs,j0,xs,he,aD,aA=>by have:qs=[]:=aD;subst this;simp only[kQ]at he;cases he;exact⟨xs,rfl,aA⟩
 |(i,v)::ps,_,cs,j0,xs,he,⟨x,qs,rfl,ab,aD⟩,aA=>by
  simp only[kQ]at he;split at he
  ·cases he
  ·rename_i off size mw;replace he:=c' he;obtain⟨af,he⟩:=he;have GO:=BS ab;have e_:x.cells.size=size:=by rw[<-beq_true.1 (eF af).1,GO.length,Array.length_toList]
   have gF:off+x.cells.size<=xs.size:=by have:=dr.1 (eF af).2;rw[GO.length,aA.length,Array.length_toList,Array.length_toList]at this;exact this
   have aa:=Rv v.cells x.cells.toList cs xs off 0 GO aA;obtain⟨E4,e,rx⟩:=Cc ps qs _ j0 _ he aD aa;refine⟨E4,?_,rx⟩;have ZI:(decide (x.cells.size≠size) ||decide (off+x.cells.size>xs.size))=false:=by simp[e_];omega
   simp only[Instr.fill,mw,ZI,Bool.false_eq_true,if_false];rw[<-Array.foldl_toList,Array.toList_zipIdx];exact e
theorem Wp(ok:cX P E σ){t:TypeId}{ps:List (Nat×J)}{qs:Array (Nat×Value)}{i:bm}{v:J}(aN:E.ty t=some i)(aD:Bv σ μ ps qs.toList)
  (ae:(match i.desc with
    | .struct _=>match kQ (λk=>i.parts[k]?) i.zero ps with
     |some cs=>some (.agg cs)
     |none=>none
    | .array _ e=>match E.ty e with
     |some ie=>match kQ (λk=>some (k*ie.size,ie.size)) i.zero ps with
      |some cs=>some (.agg cs)
      |none=>none
     |none=>none
    |_=>none)=some v) :∃q,(Instr.build t qs).run P w=.ok q w/\bk σ μ v q:=by
 obtain⟨z,aI,_,hJ⟩:=vY (P:=P) ok aN;split at ae
 ·rename_i fs ao;split at ae
  ·rename_i cs aB;cases ae;obtain⟨xs,ab,rx⟩:=Cc ps qs.toList i.zero cs z.cells aB aD (hJ μ);refine⟨.agg xs,?_,xs,rfl,rx⟩;have aa6:=(ok.ty t i aN).parts fs ao w
   have iU:Instr.fill (λk=>i.parts.toArray[k]?) z.cells qs.toList=some xs:=by rw[<-ab];congr 1;funext k;simp
   simp only[Instr.build,Sem.run_bind,aI,Result.andThen_ok,gT ok aN,ao];rw[aa6];simp only[Result.andThen_ok,iU,Sem.run_pure]
  ·cases ae
 ·rename_i n e ao;split at ae
  ·rename_i ie eJ;split at ae
   ·rename_i cs aB;cases ae;obtain⟨xs,ab,rx⟩:=Cc ps qs.toList i.zero cs z.cells aB aD (hJ μ);exact⟨.agg xs,by simp[Instr.build,aI,gT ok aN,ao,l4 ok eJ,ab],xs,rfl,rx⟩
   ·cases ae
  ·cases ae
 ·cases ae
theorem aeS(ok:cX P E σ)(rel:c_ σ μ h w.heap)(aE:jT E μ)(ah:∀i,bk σ μ (r.get i) (tmps.getD i undef)){o:Oper}{v:J}(ae:ep E r h o.op=some v) :
  ∃q,(execOp (e1 tmps) o).run P w=.ok (.value q) w/\bk σ μ v q:=by
 obtain⟨dst,op,ty,pos,after,guard⟩:=o;simp only at ae
 have wrap:∀{s:Sem Value} {v:J},(∃q,s.run P w=.ok q w/\bk σ μ v q)->∃q,(do pure (Next.value (<-s)) :Sem Next).run P w=.ok (.value q) w/\bk σ μ v q:=
  λ⟨q,e,jN⟩=>⟨q,by simp[e],jN⟩
 have O:=λ{x:Operand} {v:J} (he:dk E r x=some v)=>sx (σ:=σ) aE ah he
 cases op<;>simp only[ep]at ae<;>first|(cases ae;done) |skip
 case move x=>exact⟨_,rfl,O ae⟩
 case assign x=>exact⟨_,rfl,O ae⟩
 case pick c a b=>
  split at ae
  ·rename_i aA;have e:e1 tmps c=_:=O aA;exact⟨_,by simp[execOp,e,asBool],O ae⟩
  ·rename_i aA;have e:e1 tmps c=_:=O aA;exact⟨_,by simp[execOp,e,asBool],O ae⟩
  ·cases ae
 case build t parts=>
  split at ae
  ·rename_i i ps aN vl;have:=Jd (σ:=σ) aE ah vl;refine wrap (Wp (P:=P) ok aN (qs:=parts.map λ(i,x)=>(i,e1 tmps x)) ?_ ae);rw[Array.toList_map];exact this
  ·cases ae
 case load t a=>
  split at ae
  ·rename_i id off aU;obtain⟨loc,hm,e⟩:=O aU;obtain⟨q,ay,jN⟩:=Pj (P:=P) ok rel hm ae;exact⟨q,by simp[execOp,Instr.loadAt,Instr.sureAddr,e,ay],jN⟩
  ·cases ae
 case nilCheck x=>
  split at ae
  ·rename_i id off aU;have ro:=O aU;obtain⟨loc,hm,e⟩:=ro;cases ae;exact⟨_,by simp only[execOp,e];rfl,loc,hm,rfl⟩
  ·rename_i f a b aU;have ro:=O aU;obtain⟨bB,U0,e,o7,dL⟩:=ro;cases ae;exact⟨_,by simp only[execOp,e];rfl,bB,U0,rfl,o7,dL⟩
  ·rename_i l aU;have ro:=O aU;obtain⟨loc,hm,e⟩:=ro;cases ae;exact⟨_,by simp only[execOp,e];rfl,loc,hm,rfl⟩
  ·cases ae
 case binOp op t x y ala=>
  split at ae
  ·rename_i a b aU af;exact wrap (VX (P:=P) ok rel ae x y (O aU) (O af))
  ·cases ae
 case unOp op t x=>
  split at ae
  ·rename_i a aU;exact wrap (ake ae (O aU))
  ·cases ae
 case convert s d x=>
  split at ae
  ·rename_i a aU;exact wrap (Xa (P:=P) ok rel ae (O aU))
  ·cases ae
 case makeFunc fn first captured=>
  split at ae
  ·rename_i f a b h1 aa;cases ae;have cg:=sy (σ:=σ) aE ah h1;have cK:=sy (σ:=σ) aE ah aa;exact⟨.func (.func f) (first.map (e1 tmps)) (captured.map (e1 tmps)),by simp[execOp,Instr.makeFunc],_,_,rfl,by rw[Array.toList_map];exact cg,by rw[Array.toList_map];exact cK⟩
  ·cases ae
 case slice t x lo U e'=>
  split at ae
  ·rename_i df amH eo amK h1 aa av aO;exact wrap (aiu (P:=P) ok rel ae (O h1) (I0 (σ:=σ) aE ah aa) (I0 (σ:=σ) aE ah av) (I0 (σ:=σ) aE ah aO))
  ·cases ae
 case fieldAddr s x f=>
  split at ae
  ·rename_i a aU;exact wrap (Ye (P:=P) ok ae (O aU))
  ·cases ae
 case field s x f=>
  split at ae
  ·rename_i a aU;exact wrap (Yf (P:=P) ok ae (O aU))
  ·cases ae
 case indexAddr t x fx=>
  split at ae
  ·rename_i a b aU af;exact wrap (ab9 (P:=P) ok ae (O aU) (O af))
  ·cases ae
 case index t x fx=>
  split at ae
  ·rename_i a b aU af;exact wrap (ab' (P:=P) ok ae (O aU) (O af))
  ·cases ae
 case lookup t x fx b=>
  split at ae
  ·rename_i a b aU af;exact wrap (aeU (P:=P) ok rel ae (O aU) (O af))
  ·cases ae
 case extract t i=>
  split at ae
  ·rename_i vs aU;obtain⟨us,e,hI⟩:=O aU;obtain⟨q,ay,jN⟩:=hI.get i v ae;have nW:us[i]? =some q:=by simpa using ay
   exact⟨q,by simp[execOp,Instr.extract,e,nW],jN⟩
  ·cases ae
 case call c=>
  obtain⟨callee,args,argTypes⟩:=c;simp only at ae
  have BG:∀{x:J},kp E r args.toList=some [x]->∃u,args.map (e1 tmps)= #[u]/\bk σ μ x u:=by intro x ab;obtain⟨u,us,e,hI,pX⟩:=sy (σ:=σ) aE ah ab;rw[bX.iF.1 pX]at e;refine⟨u,?_,hI⟩;apply Array.toList_inj.1;rw[Array.toList_map,e]
  split at ae
  ·rename_i x aU;split at ae
   ·rename_i t aN;obtain⟨u,e,hI⟩:=BG aU;obtain⟨q,ay,jN⟩:=acX (P:=P) ok rel argTypes aN ty ae hI;exact⟨q,by simp[execOp,resolve,invoke,builtin,e,ay],jN⟩
   ·cases ae
  ·rename_i x aU;split at ae
   ·rename_i t aN;obtain⟨u,e,hI⟩:=BG aU;obtain⟨q,ay,jN⟩:=WS (P:=P) (w:=w) ok argTypes aN ty ae hI;exact⟨q,by simp[execOp,resolve,invoke,builtin,e,ay],jN⟩
   ·cases ae
  ·rename_i x xs aU;obtain⟨u,us,e,hI,pX⟩:=sy (σ:=σ) aE ah aU;obtain⟨q,ay,jN⟩:=Pw (P:=P) (w:=w) xs x v us u ae hI pX;have cR:(args.map (e1 tmps)).toList=u::us:=by rw[Array.toList_map,e]
   exact⟨q,by simp[execOp,resolve,invoke,builtin,Builtin.min_,e,ay],jN⟩
  ·rename_i x xs aU;obtain⟨u,us,e,hI,pX⟩:=sy (σ:=σ) aE ah aU;obtain⟨q,ay,jN⟩:=Pv (P:=P) (w:=w) xs x v us u ae hI pX;have cR:(args.map (e1 tmps)).toList=u::us:=by rw[Array.toList_map,e]
   exact⟨q,by simp[execOp,resolve,invoke,builtin,Builtin.max_,e,ay],jN⟩
  ·cases ae
end
section
variable{P:Program}{E:Env}{σ:Nat->Int}{μ:Map}{h:ag}{w:World}{r:bl}{tmps:Array Value}
theorem LN:∀(cs:List J) (n:Nat),BP cs=some n->∀i,i<cs.length->cs[i]? =some (.int .u8 (.ofNat (cC n i)))
 |[],_,_,i,U=>by simp at U
 |c::cs,n,he,i,U=>by
  unfold BP at he;split at he
  ·rename_i heq;cases heq
  ·rename_i b j0 heq;cases heq;split at he
   ·rename_i m hm;replace he:=c' he;obtain⟨af,he⟩:=he;cases he;have hi:=c4.1 af;cases i with
    |zero=>simp[hP];omega
    |succ i=>
     have:=LN cs m hm i (by simpa using U);have nL:(2:Nat) ^(8*1)=256:=by decide
     have e:(b+256*m) /2^(8*(i+1))=m/2^(8*i):=by rw[Nat.mul_add,Nat.add_comm (8*i),Nat.pow_add,<-Nat.div_div_eq_div_mul,nL];congr 1;omega
     rw[List.getElem?_cons_succ,this,hP,hP,e]
   ·cases he
  ·cases he
theorem MZ(n:Nat) :∀i,i<n->¬(((0,0) :Nat×Nat).1<=i/\i<((0,0) :Nat×Nat).2):=λi _ h=>by simp at h
theorem BT{cs:List J}{xs:Array Value}{iq:TypeId}{loc:Loc}(aY:loc.o=0)(ar:loc.room=xs.size)(ah:bX σ μ cs xs.toList){cell:Nat->Option J}
  (aA:∀i,i<cs.length->cell i=cs[i]?) :k9 σ μ cell cs.length false loc (some (.cells xs iq)):=by
 refine⟨xs,iq,(0,0),rfl,by omega,by rw[ar,ah.length,Array.length_toList];exact Nat.le_refl _,λ_=>rfl,MZ _,λi U=> ?_⟩;have aE:cs[i]? =some cs[i]:=List.getElem?_eq_getElem U;obtain⟨x,ab,rx⟩:=ah.get i _ aE;exact⟨cs[i],x,by rw[aA i U,aE],by rw[aY,Nat.zero_add];simpa using ab,rx⟩
theorem Iv{d:TypeDesc}{cs:List J}{xs:Array Value}{iq:TypeId}{loc:Loc}(aY:loc.o=0)(ar:loc.room=xs.size)(ah:bX σ μ cs xs.toList) :fg σ μ (qN d cs) loc (some (.cells xs iq)):=by
 unfold qN;split
 ·rename_i n h1 aa;refine BT aY ar ah λi U=> ?_
  simp only[bp.cell,c4.2 U,cond_true];rw[LN cs n aa i U]
 ·refine BT aY ar ah λi U=> ?_
  simp only[bp.cell,c4.2 U,cond_true,bj.tx,List.getElem?_eq_getElem U]
theorem DY(l:List J) :∀(n k:Nat),l≠[]->(iH n l)[k]? =if k<n*l.length then l[k%l.length]? else none
 |0,k,_=>by simp[iH]
 |n+1,k,ar=>by
  have lY:0<l.length:=List.length_pos_iff.2 ar;simp only[iH];by_cases aj:k<l.length
  ·rw[List.getElem?_append_left aj,if_pos (by rw[Nat.add_mul];omega),Nat.mod_eq_of_lt aj]
  ·rw[List.getElem?_append_right (by omega),DY l n (k-l.length) ar]
   have e:(k-l.length) %l.length=k%l.length:=by
    conv=>rhs;rw[show k=(k-l.length) +l.length by omega,Nat.add_mod_right]
   rw[e];by_cases aa:k-l.length<n*l.length
   ·rw[if_pos aa,if_pos (by rw[Nat.add_mul];omega)]
   ·rw[if_neg aa,if_neg (by rw[Nat.add_mul];omega)]
theorem ui(l:List J) :∀n,(iH n l).length=n*l.length
 |0=>by simp[iH]
 |n+1=>by simp only[iH,List.length_append,ui l n,Nat.add_mul];omega
theorem K4{zero:List J}{z:Array Value}(aI:bX σ μ zero z.toList)(n:Nat)(cE:zero≠[]) :bX σ μ (iH n zero) ((Array.range (n*z.size)).map (z[· %z.size]!)).toList:=by
 have ar:zero.length=z.size:=by rw[aI.length,Array.length_toList]
 have lY:0<z.size:=by rw[<-ar];exact List.length_pos_iff.2 cE
 refine bX.o6 (by rw[ui,ar];simp) λi a v aU ae=> ?_
 rw[DY _ _ _ cE]at aU;split at aU
 ·rename_i U;obtain⟨x,ab,rx⟩:=aI.get _ a aU;have eo:i<n*z.size:=by rw[<-ar];exact U
  have hm:i%z.size<z.size:=Nat.mod_lt _ lY
  have e:v=z[i%z.size]! :=by
   have:((Array.range (n*z.size)).map (z[· %z.size]!)).toList[i]? =some (z[i%z.size]!):=by simp[eo]
   rw[this]at ae;exact(Option.some.inj ae).symm
  rw[ar]at ab;have iU:z[i%z.size]? =some x:=by simpa using ab
  rw[e,getElem!_def,iU];exact rx
 ·cases aU
theorem MJ{pl:Nat->Option (Nat×Nat)} :∀(ps:List (Nat×J)) (cs j0:List J),True->kQ pl cs ps=some j0->j0.length=cs.length
 |[],cs,j0,_,he=>by simp only[kQ]at he;cases he;rfl
 |(i,v)::ps,cs,j0,_,he=>by
  simp only[kQ]at he;split at he
  ·cases he
  ·replace he:=c' he;obtain⟨_,he⟩:=he;rw[MJ ps _ j0 trivial he,Ru]
def Lg(P:Program)(σ:Nat->Int)(μ:Map)(tmps:Array Value)(o:Oper)(f:Nat->J)(bP:bp)(w:World) :Prop:=
 ∃x obj room aM,(execOp (e1 tmps) o).run P w=.ok (.value x) aM/\aM.heap=w.heap.push obj/\da w aM/\
  ∀bu id,Ext μ bu->bu id=some ⟨w.heap.size,0,room⟩->bk σ bu (f id) x/\fg σ bu bP ⟨w.heap.size,0,room⟩ (some obj)
theorem W'(ok:cX P E σ){dst:TypeId}{a:J}{l:Nat}{bP:bp}{u:Value}(ae:B1 E dst a=some (l,bP))(hu:bk σ μ a u)(src:TypeId)(au:∃d,P.underlying src=some d) :
  ∃x obj room aM,(convert src dst u).run P w=.ok x aM/\aM.heap=w.heap.push obj/\da w aM/\
  ∀bu id,Ext μ bu->bu id=some ⟨w.heap.size,0,room⟩->bk σ bu (.slice id 0 l l 1 false) x/\fg σ bu bP ⟨w.heap.size,0,room⟩ (some obj):=by
 unfold B1 at ae;split at ae
 ·rename_i d bz n ao;obtain⟨bK,a7⟩:=hu;subst a7;split at ae
  ·rename_i e va;split at ae
   ·rename_i ie eJ;replace ae:=c' ae;obtain⟨dR,ae⟩:=ae;cases ae;obtain⟨ds,xj⟩:=au;have he:=HP dR;have ev:(⟨(bytesOf l n).toArray⟩ :ByteArray).size=l:=by show(bytesOf l n).toArray.size=l;simp[ma]
    generalize aA:(Question.appendCap l 0 e).cut (w.tape w.drawn (.appendCap l 0 e))=c;have f_:l<=c:=by rw[<-aA];simp only[Question.cut];omega
    let row:Array Value:=((⟨(bytesOf l n).toArray⟩ :ByteArray).data.map λb=>Value.int .u8 b.toNat)++Array.replicate (c-l) (.int .u8 0);have dY:row.size=c:=by simp[row,ma];omega
    let bV:World:={w with drawn:=w.drawn+1,heap:=w.heap.push (.cells row e)};have Hy:bV.heap[w.heap.size]? =some (.cells row e (0,0)):=by simp[bV]
    refine⟨.slice (some ⟨w.heap.size,0,none⟩) l c,.cells row e (row.size,row.size+1),c,{bV with heap:=w.heap.push (.cells row e (row.size,row.size+1))},?_,rfl,⟨rfl,rfl,rfl⟩,?_⟩
    ·have ZK:(convert src dst (.string ⟨(bytesOf l n).toArray⟩)).run P w=(Conv.stringToBytes e ⟨(bytesOf l n).toArray⟩).run P w:=by
      simp[convert,run_underlying xj,gT ok ao,va,gT ok eJ,he]
     rw[ZK];unfold Conv.stringToBytes;simp only[Sem.run_bind,run_choose,Question.forced,Bool.false_eq_true,if_false,ev,aA,Result.andThen_ok,newRow,run_newObj,Sem.run_pure,markStringish,run_shape];have xD:bV.shape? w.heap.size=some (e,row.size):=by simp[World.shape?,Hy]
     have eT:bV.freeze {block:=w.heap.size,off:=row.size} 1={bV with heap:=w.heap.push (.cells row e (row.size,row.size+1))}:=by
      simp only[World.freeze];rw[if_neg (by decide)];congr 1;apply Array.ext_getElem?;intro j;rw[Array.getElem?_modify];by_cases az:w.heap.size=j
      ·subst az;simp[bV]
      ·rw[if_neg az];simp only[bV];by_cases bK:j<w.heap.size
       ·rw[Array.getElem?_push_lt bK,Array.getElem?_push_lt bK]
       ·rw[Array.getElem?_eq_none (by simp;omega),Array.getElem?_eq_none (by simp;omega)]
     show(Result.andThen (Sem.run P (match bV.shape? w.heap.size with|some (_,n)=>freeze {block:=w.heap.size,off:=n} 1|_=>pure ()) bV) _)=_;rw[xD];simp only[run_freeze,eT,Result.andThen_ok]
    ·intro bu id h7 hid;refine⟨⟨_,_,_,hid,rfl,Nat.le_refl _,f_,(λe=>by cases e),λ_=>by simp,by simp⟩,?_⟩;refine⟨row,e,(row.size,row.size+1),rfl,by simp[dY],f_,(λe=>by cases e),λi U=>by simp;omega,λi U=> ?_⟩;refine⟨.int .u8 (.ofNat (cC n i)),.int .u8 (UInt8.ofNat (cC n i)).toNat,by simp only[bp.cell,c4.2 U,cond_true],?_,?_⟩
     ·have aE:(bytesOf l n)[i]? =some (UInt8.ofNat (cC n i)):=by rw[qa,if_pos U]
      simp only[row,Nat.zero_add];rw[Array.getElem?_append_left (by simp[ma];exact U)];simp[aE]
     ·have:=nJ n i;rw[bk];congr 1;simp;omega
   ·cases ae
  ·cases ae
 ·cases ae
theorem PC(ok:cX P E σ)(aE:jT E μ)(ah:∀i,bk σ μ (r.get i) (tmps.getD i undef)){o:Oper}{f:Nat->J}{bP:bp}(ae:jq E r o.op=some (f,bP))(w:World) :
  Lg P σ μ tmps o f bP w:=by
 obtain⟨dst,op,ty,pos,after,guard⟩:=o;simp only at ae;have O:=λ{x:Operand} {v:J} (he:dk E r x=some v)=>sx (σ:=σ) aE ah he
 cases op<;>simp only[jq]at ae<;>first|(cases ae;done) |skip
 case alloc t=>
  split at ae
  ·rename_i i aN;cases ae;obtain⟨z,aI,_,hJ⟩:=vY (P:=P) ok aN;refine⟨_,.cells z.cells t,z.cells.size,{w with heap:=w.heap.push (.cells z.cells t)},by simp[execOp,Instr.alloc,aI,newVar,newRow],rfl,⟨rfl,rfl,rfl⟩,λbu id h7 hid=>⟨⟨_,hid,rfl⟩,Iv rfl rfl (hJ bu)⟩⟩
  ·cases ae
 case box t x=>
  split at ae
  ·rename_i i v aN ab;cases ae;have rx:=O ab;refine⟨_,.cells (e1 tmps x).cells t,(e1 tmps x).cells.size,{w with heap:=w.heap.push (.cells (e1 tmps x).cells t)},by simp[execOp,Instr.box,newVar,newRow],rfl,⟨rfl,rfl,rfl⟩,λbu id h7 hid=>⟨⟨_,hid,rfl⟩,Iv rfl rfl (BS (bk.ext h7 _ _ rx))⟩⟩
  ·cases ae
 case buildSlice t len parts=>
  split at ae
  ·rename_i i ps aN vl;split at ae
   ·rename_i e ao;split at ae
    ·rename_i ie eJ;replace ae:=c' ae;obtain⟨hle,ae⟩:=ae;split at ae
     ·rename_i cs aB;cases ae;obtain⟨z,aI,_,hJ⟩:=vY (P:=P) ok eJ;have gP:ie.zero.length=ie.size:=(ok.ty _ _ eJ).wH;have r9:z.cells.size=ie.size:=by rw[<-gP,(hJ μ).length,Array.length_toList]
      have pK:¬len*ie.size>2^24:=by have:=dr.1 hle;omega
      have aa9:=Jd (σ:=σ) aE ah vl;let z0:Array Value:=if len*ie.size=0 then #[]else z.cells
      have r8:bX σ μ (iH len ie.zero) ((Array.range (len*ie.size)).map (z0[· %z0.size]!)).toList:=by
       by_cases h0:len*ie.size=0
       ·have aw:iH len ie.zero=[]:=by apply List.eq_nil_of_length_eq_zero;rw[ui,gP,h0]
        rw[aw,h0];simp[bX.iF]
       ·have cE:ie.zero≠[]:=λe=>h0 (by rw[<-gP,e];simp)
        have:=K4 (hJ μ) len cE;simp only[z0,if_neg h0];rw[r9]at this|-;exact this
      obtain⟨xs,ab,rx⟩:=Cc ps ((parts.map λ(i,x)=>(i,e1 tmps x)).toList) _ cs _ aB (by rw[Array.toList_map];exact aa9) r8
      have hlen:xs.size=len*ie.size:=by rw[<-Array.length_toList,<-rx.length];have:=MJ _ _ _ trivial aB;rw[this,ui,gP]
      refine⟨.slice (some ⟨w.heap.size,0,none⟩) len len,.cells xs e,xs.size,{w with heap:=w.heap.push (.cells xs e)},?_,rfl,⟨rfl,rfl,rfl⟩,λbu id h7 hid=>⟨⟨_,_,_,hid,rfl,Nat.le_refl _,Nat.le_refl _,(λ_=>rfl),(λ_=>by simp),by simp[hlen]⟩,Iv rfl rfl (bX.ext h7 _ _ rx)⟩⟩;have m':Instr.fill (λi=>some (i*ie.size,ie.size)) ((Array.range (len*ie.size)).map (z0[· %z0.size]!)) (Array.map (λ(x:Nat×Operand)=>(x.fst,e1 tmps x.snd)) parts).toList=some xs:=ab;simp only[execOp,Instr.buildSlice,Sem.run_bind,gT ok aN,ao,Result.andThen_ok,l4 ok eJ,if_neg pK,Sem.run_pure];by_cases h0:len*ie.size=0
      ·simp only[z0,if_pos h0]at m';rw[if_pos h0];simp only[Sem.run_bind,Sem.run_pure,Result.andThen_ok,m',newRow,run_newObj]
      ·simp only[z0,if_neg h0]at m';rw[if_neg h0];simp only[Sem.run_bind,Sem.run_pure,Result.andThen_ok,aI,m',newRow,run_newObj]
     ·cases ae
    ·cases ae
   ·cases ae
  ·cases ae
 case makeMap t rv=>
  cases rv with
  |some x=>cases ae
  |none=>
   cases ae;exact⟨_,.map #[] 0,0,{w with heap:=w.heap.push (.map #[] 0)},by simp[execOp,Instr.makeMap],rfl,⟨rfl,rfl,rfl⟩,λbu id h7 hid=>⟨⟨_,hid,rfl⟩, #[],rfl,rfl⟩⟩
 case makeSlice t l c=>
  split at ae
  ·rename_i a b aU af;split at ae
   ·rename_i bz gz sz bL j5;cases ae;have o7:=O aU;have dL:=O af;unfold xR at j5;split at j5
    ·rename_i i a' e_ bR bc aN;have lj:e1 tmps l=_:=o7;have w5:e1 tmps c=_:=dL;split at j5
     ·rename_i e ao;split at j5
      ·rename_i ie eJ;replace j5:=c' j5;obtain⟨hle,j5⟩:=j5;obtain⟨inf,z,xp,aam,G6,NA,_,hJ⟩:=D3 (P:=P) ok eJ;obtain⟨z2,aI,_,_⟩:=vY (P:=P) ok eJ
       have cI:z2=z:=by have:=aI w;simp[zeroValue,xp,NA]at this;exact this.symm
       subst cI;have gP:ie.zero.length=ie.size:=(ok.ty _ _ eJ).wH;have r9:z2.cells.size=ie.size:=by rw[<-gP,(hJ μ).length,Array.length_toList]
       have fj:=dr.1 (eF (eF hle).1).1;have eS:=dr.1 (eF (eF hle).1).2;have fY:=dr.1 (eF hle).2;have alU:bc<=140737488355328:=Nat.le_trans (Nat.le_mul_of_pos_left bc fY) eS;have wl:IntKind.i64.wrap (e_:Int)=e_:=wrap_small .i64 e_ (by simp only[kx];omega);have wF:IntKind.i64.wrap (bc:Int)=bc:=wrap_small .i64 bc (by simp only[kx];omega);let z0:Array Value:=if bc*ie.size=0 then #[]else z2.cells
       let xs:Array Value:=(Array.range (bc*ie.size)).map (z0[· %z0.size]!)
       have r8:∀bu,bX σ bu (iH bc ie.zero) xs.toList:=by
        intro bu;by_cases h0:bc*ie.size=0
        ·have aw:iH bc ie.zero=[]:=by apply List.eq_nil_of_length_eq_zero;rw[ui,gP,h0]
         simp only[xs];rw[aw,h0];simp[bX.iF]
        ·have cE:ie.zero≠[]:=λe=>h0 (by rw[<-gP,e];simp)
         have:=K4 (hJ bu) bc cE;simp only[xs,z0,if_neg h0];rw[r9]at this|-;exact this
       have iV:xs.size=bc*ie.size:=by simp[xs]
       have aax:¬((bc:Int) <0):=by omega
       have Zu:¬(((ie.bytes:Int) *(bc:Int)) >2^48):=by have:=Int.ofNat_le.2 eS;rw[Int.natCast_mul]at this;omega
       have CI:¬((e_:Int) <0):=by omega
       have kT:¬((e_:Int) >(bc:Int)):=by omega
       have main:∀(kZ:bp),(e_,bc,ie.size,kZ)=(bz,gz,sz,bP)->(∀bu,fg σ bu kZ ⟨w.heap.size,0,xs.size⟩ (some (.cells xs e)))->
         Lg P σ μ tmps {dst,op:=.makeSlice t l c,type:=ty,pos,after,guard} (λid=>.slice id 0 bz gz sz true) bP w:=by
        intro kZ he Hk
        obtain⟨aw,aL,bo,eh⟩ :e_=bz/\bc=gz/\ie.size=sz/\kZ=bP:=by injection he with a b;injection b with b c;injection c with c d;exact⟨a,b,c,d⟩
        rw[<-aw,<-aL,<-bo,<-eh];refine⟨.slice (some ⟨w.heap.size,0,none⟩) e_ bc,.cells xs e,xs.size,{w with heap:=w.heap.push (.cells xs e)},?_,rfl,⟨rfl,rfl,rfl⟩,λbu id h7 hid=>⟨⟨_,_,_,hid,rfl,fj,Nat.le_refl _,(λ_=>rfl),(λ_=>by simp),by simp[iV]⟩,Hk bu⟩⟩
        have Zt:(decide ((bc:Int) <0) ||decide ((ie.bytes:Int) *(bc:Int) >2^48) ||decide ((e_:Int) <0) ||decide ((e_:Int) >(bc:Int)))=false:=by simp only[aax,Zu,CI,kT,decide_false,Bool.or_false]
        simp only[execOp,Instr.makeSlice,lj,w5,asInt,asIntOf,Sem.run_bind,gT ok aN,ao,Sem.run_pure,Result.andThen_ok,xp,G6,Int.ofNat_eq_natCast,wl,wF,Zt,
         Bool.false_eq_true,if_false,run_askRoom,l4 ok eJ,Int.toNat_natCast]
        by_cases h0:bc*ie.size=0
        ·rw[if_pos h0];simp only[Sem.run_bind,Sem.run_pure,Result.andThen_ok,newRow,run_newObj,xs,z0,if_pos h0]
        ·rw[if_neg h0];simp only[Sem.run_bind,Sem.run_pure,Result.andThen_ok,newRow,run_newObj,xs,z0,if_neg h0,aI]
       split at j5
       ·rename_i dR n2;refine main _ (Option.some.inj j5) λbu=> ?_
        have cg:=r8 bu;have gO:ie.size=1:=by rw[<-gP,n2];rfl
        have zA:(iH bc ie.zero).length=bc:=by rw[ui,gP,gO,Nat.mul_one]
        have:=BT (σ:=σ) (μ:=bu) (cs:=iH bc ie.zero) (xs:=xs) (iq:=e) (loc:=⟨w.heap.size,0,xs.size⟩) rfl rfl cg (cell:=(bp.bytes bc false 0).cell) λi U=>by
         rw[zA]at U;simp only[bp.cell,c4.2 U,cond_true];rw[DY _ _ _ (by rw[n2];simp),if_pos (by rw[gP,gO];omega),n2];have lh:cC 0 i=0:=by simp[hP]
         rw[lh,List.length_singleton,Nat.mod_one];rfl
        rw[zA]at this;exact this
       ·refine main _ (Option.some.inj j5) λbu=> ?_
        have cg:=r8 bu;have zA:(iH bc ie.zero).length=bc*ie.size:=by rw[ui,gP]
        have:=BT (σ:=σ) (μ:=bu) (cs:=iH bc ie.zero) (xs:=xs) (iq:=e) (loc:=⟨w.heap.size,0,xs.size⟩) rfl rfl cg (cell:=(bp.cells (bc*ie.size) false ie.zero .nil).cell) λi U=>by
         rw[zA]at U;have cE:ie.zero≠[]:=λe=>by rw[<-gP,e]at U;simp at U
         simp only[bp.cell,c4.2 U,cond_true,bj.get_nil];rw[DY _ _ _ cE,if_pos (by rw[gP];exact U)]
        rw[zA]at this;exact this
      ·cases j5
     ·cases j5
    ·cases j5
   ·cases ae
  ·cases ae
 case convert s d x=>
  split at ae
  ·rename_i i0 a h0 aU;split at ae
   ·rename_i l bL aA;cases ae;obtain⟨cn,obj,room,aM,h1,aa,av,aO⟩:=W' (P:=P) (w:=w) ok aA (O aU) s ⟨_,(ok.ty _ _ h0).dN⟩;exact⟨cn,obj,room,aM,by simp[execOp,h1],aa,av,aO⟩
   ·cases ae
  ·cases ae
end
section
variable{P:Program}{E:Env}{σ:Nat->Int}{μ:Map}{h:ag}{w:World}{r:bl}{tmps:Array Value}
def lN:Nat->Nat->List J
 |0,_=>[]
 |l+1,m=>.int .u8 (.ofNat (m%256))::lN l (m/256)
theorem BI:∀(l m:Nat),bX σ μ (lN l m) (la l m)
 |0,_=>rfl
 |l+1,m=>by refine⟨.int .u8 (UInt8.ofNat (m%256)).toNat,la l (m/256),rfl,?_,BI l (m/256)⟩;have:m%256<256:=Nat.mod_lt _ (by decide);rw[bk];congr 1;simp
theorem LR(size:Nat)(s:Bool) :∀(l m n off:Nat),off+l<=size->
  ∃ga,(bp.bytes size s n).writes off (lN l m)=some (.bytes size s ga)/\∀i,cC ga i=if off<=i/\i<off+l then cC m (i-off)else cC n i
 |0,m,n,off,_=>⟨n,rfl,λi=>by rw[if_neg (by omega)]⟩
 |l+1,m,n,off,hle=>by
  have af:m%256<256:=Nat.mod_lt _ (by decide);obtain⟨ga,e,al⟩:=LR size s l (m/256) (n-(cC n off) <<< (8*off) +(m%256) <<< (8*off)) (off+1) (by omega);refine⟨ga,?_,λi=> ?_⟩
  ·have aA:(Nat.blt off size&&Nat.blt (m%256) 256)=true:=by rw[c4.2 (by omega),c4.2 af];rfl
   simp only[lN,bp.writes,bp.write,aA,cond_true];exact e
  ·rw[al];have qI:=FC n off 1 (m%256) i (by simpa using af);have aw:(n>>> (8*off)) %2^(8*1)=cC n off:=rfl;rw[aw]at qI;rw[qI];have nL:(2:Nat) ^(8*1)=256:=by decide
   by_cases h1:off+1<=i/\i<off+1+l
   ·rw[if_pos h1,if_pos (by omega)];obtain⟨j,rfl⟩ :∃j,i=off+1+j:=⟨i-off-1,by omega⟩;rw[show off+1+j-(off+1)=j by omega,show off+1+j-off=j+1 by omega,hP,hP,Nat.mul_add,Nat.add_comm (8*j),Nat.pow_add,<-Nat.div_div_eq_div_mul,nL]
   ·rw[if_neg h1];by_cases aa:off<=i/\i<off+1
    ·obtain rfl:i=off:=by omega
     rw[if_pos aa,if_pos (by omega),Nat.sub_self,hP,hP];simp
    ·rw[if_neg aa,if_neg (by omega)]
theorem Wu{size:Nat}{st:Bool}{n ga:Nat}{loc:Loc}{x:Option Obj}(ah:fg σ μ (.bytes size st n) loc x)(he:∀i,i<size->cC n i=cC ga i) :fg σ μ (.bytes size st ga) loc x:=by obtain⟨c,iq,fr,h1,aa,av,aO,bb,cp⟩:=ah;refine⟨c,iq,fr,h1,aa,av,aO,bb,λi U=> ?_⟩;obtain⟨v,y,a,b,d⟩:=cp i U;refine⟨v,y,?_,b,d⟩;rw[<-a];simp only[bp.cell,he i U]
theorem wG(rel:c_ σ μ h w.heap){id off len m:Nat}{loc:Loc}{bg:ag}(hm:μ id=some loc)(hw:ox h id off len m=some bg)(bK:m<2^(8*len)) :
  ∃aM,(storeCells ⟨loc.b,loc.o+off,none⟩ (la len m)).run P w=.ok () aM/\da w aM/\dj σ μ h w.heap μ bg aM.heap:=by
 unfold ox at hw;split at hw
 ·rename_i size st n aE;replace hw:=c' hw;obtain⟨hle,hw⟩:=hw;cases hw;have pK:=dr.1 hle;have cL:h.get id≠.dead:=by rw[aE];simp
  have aY:=ag.lT cL;obtain⟨ga,e,al⟩:=LR size st len m n off pK;have vj:=rel.obj id loc _ hm aY;rw[aE]at vj aY;obtain⟨aM,a,b,c,d,f⟩:=KY (P:=P) (lN len m) (la len m) (.bytes size st n) (.bytes size st ga) off 0 w vj e (BI len m);refine⟨aM,a,b,rel.put hm aY rfl c d (Wu f λi U=> ?_)⟩;rw[al,FC _ _ _ _ _ bK]
 ·cases hw
theorem D_(rel:c_ σ μ h w.heap){id:Nat}{loc:Loc}{es es2:List (J×J×Nat)}{clock clock2:Nat}{cj:Array MapEntry}(hm:μ id=some loc)(aE:h.get id=.map es clock)
  (ah:fX σ μ es2 cj.toList) :
  (setObj loc.b (.map cj clock2)).run P w=.ok () {w with heap:=w.heap.setIfInBounds loc.b (.map cj clock2)}/\
    dj σ μ h w.heap μ (h.put id (.map es2 clock2)) (w.heap.setIfInBounds loc.b (.map cj clock2)):=by
 have cL:h.get id≠.dead:=by rw[aE];simp
 have aY:=ag.lT cL;rw[aE]at aY;obtain⟨alI,e,_⟩:=rel.obj id loc _ hm aY;refine⟨by simp[setObj,Sem.run,e],rel.put hm aY rfl (by simp) (λb af=>by rw[Array.getElem?_setIfInBounds_ne (Ne.symm af)]) ⟨cj,?_,ah⟩⟩;rw[Array.getElem?_setIfInBounds_self,if_pos (rel.lt id loc hm)]
theorem fX.snoc:∀{ck:List (J×J×Nat)} {es:List MapEntry} {k v:J} {b:Nat} {e:MapEntry},fX σ μ ck es->bk σ μ k e.key->bk σ μ v e.val->e.born=b->fX σ μ (ck++[(k,v,b)]) (es++[e])
 |[],_,k,v,b,e,ah,h1,aa,av=>by have:_=_:=ah;subst this;exact⟨e,[],rfl,h1,aa,av,rfl⟩
 |(dg,df,ea)::ck,_,k,v,b,e,⟨cR,cj,rfl,p,q,s,t⟩,h1,aa,av=>⟨cR,_,rfl,p,q,s,fX.snoc t h1 aa av⟩
theorem fX.set:∀{ck:List (J×J×Nat)} {es:List MapEntry} (i:Nat) {v:J} {x:Value},fX σ μ ck es->bk σ μ v x->fX σ μ (tV ck i v) (es.modify i λe=>{e with val:=x})
 |[],_,i,v,x,ah,ae=>by have:_=_:=ah;subst this;cases i<;>rfl
 |(dg,df,ea)::ck,_,0,v,x,⟨cR,cj,rfl,p,q,s,t⟩,ae=>⟨{cR with val:=x},cj,rfl,p,ae,s,t⟩
 |(dg,df,ea)::ck,_,i+1,v,x,⟨cR,cj,rfl,p,q,s,t⟩,ae=>⟨cR,_,rfl,p,q,s,fX.set i t ae⟩
theorem fX.erase:∀{ck:List (J×J×Nat)} {es:List MapEntry} (i:Nat),fX σ μ ck es->fX σ μ (ck.eraseIdx i) (es.eraseIdx i)
 |[],_,i,ah=>by have:_=_:=ah;subst this;cases i<;>rfl
 |(dg,df,ea)::ck,_,0,⟨cR,cj,rfl,p,q,s,t⟩=>t
 |(dg,df,ea)::ck,_,i+1,⟨cR,cj,rfl,p,q,s,t⟩=>⟨cR,_,rfl,p,q,s,fX.erase i t⟩
def Ce:Value->Bool
 | .int _ _| .bool _| .string _=>true
 |_=>false
theorem Ri{v:Value}(ae:Ce v=true)(n:Nat) :Instr.sameBits n v v=true:=by
 cases v<;>first|cases ae|skip
 ·cases n<;>simp[Instr.sameBits]
 ·cases n<;>simp[Instr.sameBits]
 ·cases n<;>simp[Instr.sameBits,beq_toListBytes]
theorem Rk{d:TypeDesc}{u dD:Value}{b:Bool}(au:Instr.sameNow d u dD=some b) :Ce u=true:=by unfold Instr.sameNow at au;split at au<;>first|rfl|cases au
theorem Rj(n:Nat) :∀(l:List Value),(∀v,v∈l->Ce v=true)->(l.zip l).all (λp=>Instr.sameBits n p.1 p.2)=true
 |[],_=>rfl
 |v::l,ar=>by simp only[List.zip_cons_cons,List.all_cons,Ri (ar v List.mem_cons_self),Bool.true_and];exact Rj n l λu hu=>ar u (List.mem_cons_of_mem _ hu)
theorem Mz(ok:cX P E σ){d:Nat}{xs:List J}{us:Array Value}(rx:bX σ μ xs us.toList) :
  ∀(fs:List Field),(∀f,f∈fs->∃e7,E.ty f.type=some e7/\oY e7.desc=true/\e7.size=1)->eqFields E (fm E h (d+1)) fs xs xs=some true->
   ∀f,f∈fs->∃x,us[f.offset]? =some x/\Ce x=true
 |[],_,_,f,aB=>by cases aB
 |f::fs,aj,he,g,aE=>by
  simp only[eqFields]at he;obtain⟨e7,pH,pJ,ev⟩:=aj f List.mem_cons_self;have nQ:nd e7.desc=false:=by rcases C' pJ with⟨k,e⟩ |e|e<;>rw[e]<;>rfl
  cases h1:nk E f.type xs f.offset with
  |none=>rw[h1]at he;cases he
  |some a=>
   rw[h1]at he;simp only at he;cases av:fm E h (d+1) f.type a a with
   |none=>rw[av]at he;cases he
   |some q=>
    rw[av]at he;cases q with
    |false=>cases he
    |true=>
     simp only at he;rcases List.mem_cons.1 aE with rfl|aE
     ·unfold nk at h1;rw[pH]at h1;simp only[nQ]at h1;obtain⟨x,ab,cg⟩:=rx.get _ _ h1;exact⟨x,by simpa using ab,Rk (Ad ok pH pJ av cg cg).1⟩
     ·exact Mz ok rx fs (λf aB=>aj f (List.mem_cons_of_mem _ aB)) he g aE
theorem acA(ok:cX P E σ){dv:TypeId}{k:J}{u:Value}(aj:lz E h dv k=true)(hu:bk σ μ k u)(n:Nat) :Instr.sameBits (n+1) u u=true:=by
 unfold lz at aj;obtain⟨u6,av⟩:=eF aj;obtain⟨h1,aa⟩:=eF u6;cases aN:E.ty dv with
 |none=>simp only[sf,aN]at h1;cases h1
 |some i=>
  split at aa
  ·rename_i b af;subst aa;rcases Dl h1 aN with aB|⟨fs,ao,⟨aY,au⟩,gn⟩
   ·exact Ri (Rk (Ad ok aN aB af hu hu).1) _
   ·obtain⟨xs,fe,rfl,aL,_,he⟩:=Gc aN ao af;cases aL;obtain⟨us,rfl,hI⟩:=hu;have al:=Mz ok hI fs.toList gn he;rw[aN]at av;have e_:xs.length=fs.toList.length:=by rw[beq_true.1 av,au]
    have aw:=hI.length;simp only[Instr.sameBits,beq_self_eq_true,Bool.true_and];refine Rj n us.toList λv ae=> ?_
    obtain⟨j,az,jj⟩:=List.getElem_of_mem ae;obtain⟨f,aB,oI⟩:=IT fs.toList 0 aY j (by omega);obtain⟨x,ab,lr⟩:=al f aB;rw[oI,Nat.zero_add]at ab;have:us.toList[j]? =some v:=by rw[List.getElem?_eq_getElem az,jj]
    have iU:us.toList[j]? =some x:=by simpa using ab
    rw[this]at iU;cases iU;exact lr
  ·cases aa
theorem aiM(ok:cX P E σ){dv:TypeId}{k:J}{u:Value}(aj:lz E h dv k=true)(hu:bk σ μ k u) :(Instr.keyThatStays u u).run P w=.ok u w:=by have:=acA ok aj hu 9999;simp[Instr.keyThatStays,this]
theorem aff{es:Array MapEntry}{i:Nat}{e:MapEntry}{u x:Value}(he:es.toList[i]? =some e)(aj:e.key=u) :
  (es.modify i λe=>{e with key:=u,val:=x}).toList=es.toList.modify i λe=>{e with val:=x}:=by
 rw[Array.toList_modify];apply List.ext_getElem?;intro j;rw[List.getElem?_modify,List.getElem?_modify];by_cases az:i=j
 ·subst az;rw[he];simp[aj]
 ·simp[az]
theorem Pt(ok:cX P E σ)(rel:c_ σ μ h w.heap){t:TypeId}{x k v:J}{u z y:Value}{bg:ag}(ae:iE E h t x k v=some bg)(hu:bk σ μ x u)(aI:bk σ μ k z)(an:bk σ μ v y) :
  ∃aM,(Instr.mapUpdate t u z y).run P w=.ok () aM/\da w aM/\dj σ μ h w.heap μ bg aM.heap:=by
 unfold iE at ae;split at ae
 ·rename_i i id aN;obtain⟨loc,hm,a7⟩:=hu;subst a7;split at ae
  ·rename_i dv e es clock ao aE;replace ae:=c' ae;obtain⟨aj,ae⟩:=ae;obtain⟨cj,aw,aL,bo⟩:=ze (P:=P) rel hm aE;split at ae
   ·rename_i j df ea nS;cases ae;obtain⟨q,ay,alb,ent,Hm,i_,hle,j3,vg,C0,af⟩:=u0 (P:=P) ok rel aj aI nS aL;subst Hm;rw[Nat.sub_zero]at j3;have Z1:cj[j]? =some ent:=by simpa using j3
    obtain⟨s1,s2⟩:=D_ (P:=P) rel hm aE (es2:=tV es j v) (clock2:=clock) (cj:=cj.modify j λe=>{e with key:=z,val:=y}) (by rw[aff j3 vg];exact fX.set j aL an);refine⟨{w with heap:=w.heap.setIfInBounds loc.b (.map _ _)},?_,⟨rfl,rfl,rfl⟩,s2⟩;simp[Instr.mapUpdate,gT ok aN,ao,bo,uP ok false aj aI,ay,Z1,vg,aiM ok aj aI,s1]
   ·rename_i nS;cases ae;obtain⟨q,ay,kS⟩:=u0 (P:=P) ok rel aj aI nS aL;have:q=none:=kS;subst this;obtain⟨s1,s2⟩:=D_ (P:=P) rel hm aE (es2:=es++[(k,v,clock)]) (clock2:=clock+1) (cj:=cj.push {key:=z,val:=y,born:=clock}) (by rw[Array.toList_push];exact fX.snoc aL aI an rfl);refine⟨{w with heap:=w.heap.setIfInBounds loc.b (.map _ _)},?_,⟨rfl,rfl,rfl⟩,s2⟩;simp[Instr.mapUpdate,gT ok aN,ao,bo,uP ok false aj aI,ay,s1]
   ·cases ae
  ·cases ae
 ·cases ae
theorem Xw(ok:cX P E σ)(rel:c_ σ μ h w.heap){t:TypeId}{x k:J}{u z:Value}{bg:ag}(ts:Array TypeId)(oV:ts[0]? =some t)(rt:TypeId)(ae:kn E h t x k=some bg)(hu:bk σ μ x u)(aI:bk σ μ k z) :
  ∃aM,(Builtin.delete_ ts rt #[u,z]).run P w=.ok (.tuple #[]) aM/\da w aM/\dj σ μ h w.heap μ bg aM.heap:=by
 unfold kn at ae;split at ae
 ·rename_i i id aN;obtain⟨loc,hm,a7⟩:=hu;subst a7;split at ae
  ·rename_i dv e es clock ao aE;replace ae:=c' ae;obtain⟨aj,ae⟩:=ae;obtain⟨cj,aw,aL,bo⟩:=ze (P:=P) rel hm aE;split at ae
   ·rename_i j df ea nS;cases ae;obtain⟨q,ay,alb,ent,Hm,i_,hle,j3,vg,C0,af⟩:=u0 (P:=P) ok rel aj aI nS aL;subst Hm;obtain⟨s1,s2⟩:=D_ (P:=P) rel hm aE (es2:=es.eraseIdx j) (clock2:=clock) (cj:=cj.eraseIdxIfInBounds j) (by rw[Array.toList_eraseIdxIfInBounds];exact fX.erase j aL);refine⟨{w with heap:=w.heap.setIfInBounds loc.b (.map _ _)},?_,⟨rfl,rfl,rfl⟩,s2⟩;simp[Builtin.delete_,oV,gT ok aN,ao,bo,uP ok cj.isEmpty aj aI,ay,s1]
   ·rename_i nS;cases ae;obtain⟨q,ay,kS⟩:=u0 (P:=P) ok rel aj aI nS aL;have:q=none:=kS;subst this
    have nY:w.heap.setIfInBounds loc.b (.map cj clock)=w.heap:=by
     apply Array.ext_getElem?;intro b;by_cases af:loc.b=b
     ·subst af;rw[Array.getElem?_setIfInBounds_self,if_pos (rel.lt id loc hm),aw]
     ·rw[Array.getElem?_setIfInBounds_ne af]
    refine⟨w,?_,da.refl _,dj.refl rel⟩;simp[Builtin.delete_,oV,gT ok aN,ao,bo,uP ok cj.isEmpty aj aI,ay,setObj,Sem.run,aw,nY]
   ·cases ae
  ·cases ae
 ·cases ae
end
section
variable{P:Program}{E:Env}{σ:Nat->Int}{μ:Map}{h:ag}{w:World}{r:bl}{tmps:Array Value}
theorem c_.ahC(rel:c_ σ μ h w.heap){id off:Nat}{loc:Loc}{bL:bp}{jv:Array Obj}(hm:μ id=some loc)(ar:(h.get id).live=true)(au:jv.size=w.heap.size)
  (aB:∀b,b≠loc.b->jv[b]? =w.heap[b]?) (ah:fg σ (μ.aq h.next ⟨loc.b,loc.o+off,loc.room-off⟩) bL ⟨loc.b,loc.o+off,loc.room-off⟩ jv[loc.b]?) :
  dj σ μ h w.heap (μ.aq h.next ⟨loc.b,loc.o+off,loc.room-off⟩) ((h.put id .dead).new bL) jv:=by
 have cL:h.get id≠.dead:=λe=>by rw[e]at ar;cases ar
 have aY:=ag.lT cL;have al:=rel.gv h.next (Nat.le_refl _);have cE:id≠h.next:=λe=>by rw[e,al]at hm;cases hm
 have al4:id<h.next:=by apply Classical.byContradiction;intro qD;have:=rel.gv id (by omega);rw[this]at hm;cases hm
 have c7:∀j,((h.put id .dead).new bL).c7.get j=if j=h.next then some bL else if j=id then some .dead else h.c7.get j:=λj=>by rw[mR,l7];rfl
 have live:h.wr id:=λx ab=>by rw[aY]at ab;cases ab;exact ar
 exact
  {ext:=Map.pj _ _ al
   next:=by simp[ag.new,ag.put]
   l0:=λj az ab=>by rw[Map.jb _ _ (by omega)];exact ab
   kept:=λj az ab=>by
    have:j≠id:=λe=>by
     rcases ab with ab|ab
     ·rw[e,hm]at ab;cases ab
     ·rw[e,aY]at ab;cases ab
    rw[c7,if_neg (by omega),if_neg this]
   size:=Nat.le_of_eq au.symm
   own:=λb af ⟨j,l,q,az,ay,ao,mo⟩=>by
    by_cases e:j=h.next
    ·rw[e,Map.hb]at az;cases az;exact⟨id,loc,_,hm,aY,ar,mo⟩
    ·rw[Map.jb _ _ e]at az;rw[c7,if_neg e]at ay;by_cases aL:j=id
     ·rw[if_pos aL]at ay;cases ay;cases ao
     ·rw[if_neg aL]at ay;exact⟨j,l,q,az,ay,ao,mo⟩
   frame:=λb af qG=>aB b λe=>qG ⟨id,loc,_,hm,aY,ar,e.symm⟩
   rel:=
    {obj:=λj l q az ay=>by
      rw[c7]at ay;by_cases e:j=h.next
      ·rw[if_pos e]at ay;cases ay;rw[e,Map.hb]at az;cases az;exact ah
      ·rw[if_neg e]at ay;rw[Map.jb _ _ e]at az;by_cases aL:j=id
       ·rw[if_pos aL]at ay;cases ay;trivial
       ·rw[if_neg aL]at ay;by_cases ao:q=.dead
        ·rw[ao];trivial
        ·have af:l.b≠loc.b:=λaf=>aL (rel.inj id j loc l hm az af.symm live (by rw[ay];simpa using ao)).symm
         rw[aB _ af];exact(rel.obj j l q az ay).ext (Map.pj _ _ al)
     inj:=λi j l bz U az af zU hR=>by
      rw[c7]at hR;by_cases j1:i=h.next
      ·by_cases jj:j=h.next
       ·rw[j1,jj]
       ·rw[j1,Map.hb]at U;cases U;rw[Map.jb _ _ jj]at az;rw[if_neg jj]at hR;by_cases aL:j=id
        ·rw[if_pos aL]at hR;exact absurd rfl hR
        ·rw[if_neg aL]at hR;exact absurd (rel.inj id j loc bz hm az af live hR).symm aL
      ·rw[Map.jb _ _ j1]at U;have C2:i≠id->h.wr i:=λaL x ab=>zU x (by rw[c7,if_neg j1,if_neg aL];exact ab)
       have hid:i≠id:=λaL=>by have:=zU .dead (by rw[c7,if_neg j1,if_pos aL]);cases this
       by_cases jj:j=h.next
       ·rw[jj,Map.hb]at az;cases az;have:=rel.inj i id l loc U hm af (C2 hid) (by rw[aY];simpa using cL);exact absurd this hid
       ·rw[Map.jb _ _ jj]at az;rw[if_neg jj]at hR;by_cases aL:j=id
        ·rw[if_pos aL]at hR;exact absurd rfl hR
        ·rw[if_neg aL]at hR;exact rel.inj i j l bz U az af (C2 hid) hR
     lt:=λj l az=>by
      rw[au];by_cases e:j=h.next
      ·rw[e,Map.hb]at az;cases az;exact rel.lt id loc hm
      ·rw[Map.jb _ _ e]at az;exact rel.lt j l az
     gv:=λj az=>by simp only[ag.new,ag.put]at az;rw[Map.jb _ _ (by omega)];exact rel.gv j (by omega)
     jR:=λj az=>by
      simp only[ag.new,ag.put]at az;rw[c7,if_neg (by omega),if_neg (by omega)]
      exact rel.jR j (by omega)}}
theorem c_.kill(rel:c_ σ μ h w.heap){id:Nat}{loc:Loc}(hm:μ id=some loc)(ar:(h.get id).live=true) :dj σ μ h w.heap μ (h.put id .dead) w.heap:=by
 have cL:h.get id≠.dead:=λe=>by rw[e]at ar;cases ar
 exact rel.put hm (ag.lT cL) ar rfl (λ_ _=>rfl) trivial
theorem Q8{o:bp}{x:Nat×Bool}(ah:o.row=some x) :o.live=true:=by cases o<;>first|rfl|cases ah
theorem M7(l2:Nat) :∀(rounds c:Nat),c<=2*l2+200->Builtin.growBy l2 rounds c<=2*l2+200
 |0,c,aA=>aA
 |rounds+1,c,aA=>by
  simp only[Builtin.growBy];by_cases h1:c≥l2
  ·rw[if_pos h1];exact aA
  ·rw[if_neg h1];exact M7 l2 rounds _ (by omega)
theorem afv(l2 cap:Nat)(aA:cap<=l2) :Builtin.nextslicecap l2 cap<=2*l2+200:=by
 unfold Builtin.nextslicecap;split
 ·omega
 ·split
  ·omega
  ·exact M7 l2 4 cap (by omega)
structure App(P:Program)(w:World)(argTypes:Array TypeId)(elem:TypeId)(size bytes:Nat)(x:Value)(n:Nat)(new:List Value) :Prop where
 st:∃t u d,argTypes[0]? =some t/\argTypes[1]? =some u/\(∀w,(underlying t).run P w=.ok (.slice elem) w)/\(∀w,(underlying u).run P w=.ok d w)/\(match d with| .slice _| .string=>true|_=>false)=true
 oT:∀w,(sizeOf elem).run P w=.ok size w
 aak:∃inf z,(∀w,(typeInfo elem).run P w=.ok inf w)/\inf.bytes=bytes/\(∀w,(zeroValue elem).run P w=.ok z w)
 hlen:∀w,(Builtin.lenOf x).run P w=.ok n w
 m5:∀aM,aM.heap=w.heap->(Builtin.firstCells size n x).run P aM=.ok new.toArray aM
theorem wR{argTypes:Array TypeId}{elem:TypeId}{size bytes:Nat}{x:Value}{n:Nat}{new:List Value}(a:App P w argTypes elem size bytes x n new)(rt:TypeId){ad:Addr}{len cap:Nat}
  (aA:len+n<=cap) {aM:World} (au:(storeCells (ad.add (len*size)) new).run P w=.ok () aM) :
  (Builtin.append_ argTypes rt #[.slice (some ad) len cap,x]).run P w=.ok (.slice (some ad) (len+n) cap) aM:=by
 obtain⟨t,u,d,h1,aa,av,aO,bb⟩:=a.st;have m5:=a.m5 w rfl;cases d<;>first|cases bb|skip
 all_goals simp[Builtin.append_,h1,aa,av,aO,a.oT,a.hlen,aA,m5,au]
theorem Lr{argTypes:Array TypeId}{elem:TypeId}{size bytes:Nat}{x:Value}{new:List Value}(a:App P w argTypes elem size bytes x 0 new)(rt:TypeId)(al:new=[])(u:Value)(hu:u=.slice none 0 0\/∃ad len cap,u=.slice (some ad) len cap/\len<=cap) :
  (Builtin.append_ argTypes rt #[u,x]).run P w=.ok u w:=by
 obtain⟨t,dD,d,h1,aa,av,aO,bb⟩:=a.st;have m5:=a.m5 w rfl;subst al;rcases hu with rfl|⟨ad,len,cap,rfl,hle⟩
 ·cases d<;>first|cases bb|skip
  all_goals simp[Builtin.append_,h1,aa,av,aO,a.oT,a.hlen,m5]
 ·cases d<;>first|cases bb|skip
  all_goals simp[Builtin.append_,h1,aa,av,aO,a.oT,a.hlen,m5,hle,storeCells]
theorem Fo{argTypes:Array TypeId}{elem:TypeId}{size bytes:Nat}{x:Value}{n:Nat}{new:List Value}(a:App P w argTypes elem size bytes x n new)(rt:TypeId){base:Option Addr}{len cap:Nat}{old:List Value}
  (aA:¬len+n<=cap) (hle:len<=cap) (iB:roomy (len+n) bytes=true) (hold:∀aM,aM.heap=w.heap->(Builtin.firstCells size len (.slice base len cap)).run P aM=.ok old.toArray aM) :
  ∃c rest aM,(Builtin.append_ argTypes rt #[.slice base len cap,x]).run P w=.ok (.slice (some ⟨w.heap.size,0,none⟩) (len+n) c) aM/\aM.heap=w.heap.push (.cells (old++new++rest).toArray elem)/\da w aM/\
   len+n<=c/\∀z,(zeroValue elem).run P w=.ok z w->rest.length=(c-(len+n)) *z.cells.size:=by
 obtain⟨t,u,d,h1,aa,av,aO,bb⟩:=a.st;obtain⟨inf,z,xp,af,aI⟩:=a.aak;have ah:=eF iB;have cg:=dr.1 ah.1;have cK:=dr.1 ah.2;have lq:=afv (len+n) cap (by omega)
 have hbound:¬(Builtin.nextslicecap (len+n) cap*inf.bytes>2^48):=by rw[af];have:=Nat.mul_le_mul_right bytes lq;omega
 have amn:len+n<=140737488355328:=by have:(2*(len+n) +200) *1<=(2*(len+n) +200) *bytes:=Nat.mul_le_mul_left _ cK;omega
 have NK:¬((((len+n:Nat) :Int) >IntKind.i64.max)/\(False\/inf.bytes=0)):=by
  rintro⟨_,ab|ab⟩
  ·exact ab
  ·omega
 generalize ay:(Question.appendCap (len+n) cap elem).cut (w.tape w.drawn (.appendCap (len+n) cap elem))=c;have rX:len+n<=c:=by rw[<-ay];simp only[Question.cut];omega
 let bV:World:={w with drawn:=w.drawn+1};have m5:=a.m5 bV rfl;have aa1:=hold bV rfl;refine⟨c,(Builtin.zeroCells z.cells (c-(len+n))).toList,{bV with heap:=w.heap.push (.cells (old++new++(Builtin.zeroCells z.cells (c-(len+n))).toList).toArray elem)},?_,rfl,⟨rfl,rfl,rfl⟩,rX,?_⟩
 ·have alW:(choose (.appendCap (len+n) cap elem)).run P w=.ok c bV:=by
   simp[run_choose,Question.forced,ay,bV]
  have hzero:(∀w,(zeroValue elem).run P w=.ok z w):=aI;have NI:¬(IntKind.i64.max<(len:Int) +(n:Int)/\inf.bytes=0):=λh=>by have:=h.2;omega
  have m4:¬(2^48<Builtin.nextslicecap (len+n) cap*inf.bytes):=hbound;cases d<;>first|cases bb|skip
  all_goals have aaB:¬((9223372036854775807:Int) <(len:Int) +(n:Int)/\inf.bytes=0):=λh=>by have:=h.2;omega
  all_goals have Z7:(Question.appendCap (len+n) cap elem).forced=false:=rfl
  all_goals have ZG:(Builtin.firstCells size n x).run P w.drew=.ok new.toArray w.drew:=m5
  all_goals have aa2:(Builtin.firstCells size len (.slice base len cap)).run P w.drew=.ok old.toArray w.drew:=aa1
  all_goals simp[Builtin.append_,h1,aa,av,aO,a.oT,a.hlen,aA,xp,aaB,m4,Z7,ay,ZG,aa2,aI,newRow]
  all_goals rw[show old.toArray++(new.toArray++Builtin.zeroCells z.cells (c-(len+n)))=(old++(new++(Builtin.zeroCells z.cells (c-(len+n))).toList)).toArray by apply Array.toList_inj.1;simp]
  all_goals rfl
 ·intro alc oX;rw[aI]at oX;cases oX;simp[Builtin.zeroCells]
theorem OZ{x:J}{u:Value}{n:Nat}(ar:kv x=some n)(hu:bk σ μ x u)(w:World) :(Builtin.lenOf u).run P w=.ok n w:=by
 cases x<;>simp only[kv]at ar<;>first|(cases ar;done) |skip
 ·rename_i l m;cases ar;obtain⟨_,e⟩:=hu;subst e;have ev:(⟨(bytesOf n m).toArray⟩ :ByteArray).size=n:=by show(bytesOf n m).toArray.size=n;simp[ma]
  simp only[Builtin.lenOf,Sem.run_pure,ev]
 ·cases ar;have e:u=_:=hu;subst e;simp[Builtin.lenOf]
 ·cases ar;obtain⟨loc,a,c,_,e,_⟩:=hu;subst e;simp[Builtin.lenOf]
theorem MN(rel:c_ σ μ h w.heap){x:J}{u:Value}{n m:Nat}{l:Nat}(ar:kv x=some l)(al:n<=l)(af:yT h x n=some m)(hu:bk σ μ x u)(lY:0<n)(aM:World)(hw:aM.heap=w.heap) :
  m<2^(8*n)/\(Builtin.firstCells 1 n u).run P aM=.ok (la n m).toArray aM:=by
 cases x<;>simp only[yT]at af<;>first|(cases af;done) |skip
 ·rename_i bz q;cases af;obtain⟨bK,e⟩:=hu;subst e;simp only[kv]at ar;cases ar;refine⟨Nat.mod_lt _ (vR _),?_⟩;simp only[Builtin.firstCells,Sem.run_pure];congr 1;apply Array.toList_inj.1;apply List.ext_getElem?;intro i;simp only[FA];by_cases U:i<n
  ·rw[if_pos U,LL _ _ _ U];have aE:(bytesOf l q)[i]? =some (UInt8.ofNat (cC q i)):=by rw[qa,if_pos (by omega)]
   have af:=nJ q i;simp[ByteArray.data_extract,List.extract_toArray,List.extract_eq_take_drop,List.getElem?_take,U,aE];omega
  ·rw[if_neg U];simp[ByteArray.data_extract,List.extract_toArray,List.extract_eq_take_drop,List.getElem?_take,U]
 ·rename_i id off len cap cu ex;obtain⟨loc,a,c,hm,e,kT,mi,_,aU,_⟩:=hu;subst e;simp only[kv]at ar;cases ar;have x9:c_ σ μ h aM.heap:=by rw[hw];exact rel
  obtain⟨h1,aa⟩:=QR (P:=P) (w:=aM) x9 hm af;rw[<-aU (by omega)]at aa;exact⟨h1,by simp[Builtin.firstCells,aa]⟩
theorem MO(rel:c_ σ μ h w.heap){id off len cap cu:Nat}{ex:Bool}{u:Value}{n:Nat}{l:List J}(al:n<=len)(af:jM h id off (n*cu)=some l)(hu:bk σ μ (.slice id off len cap cu ex) u)(lY:0<n) :
  ∃xs,bX σ μ l xs/\∀aM,aM.heap=w.heap->(Builtin.firstCells cu n u).run P aM=.ok xs.toArray aM:=by
 obtain⟨loc,a,c,hm,e,kT,mi,_,aU,_⟩:=hu;subst e;obtain⟨xs,h1,aa,av⟩:=QQ (P:=P) (w:=w) rel hm af;refine⟨xs,h1,λaM hw=> ?_⟩;have x9:c_ σ μ h aM.heap:=by rw[hw];exact rel
 obtain⟨hB,mx⟩:=bp.x6 _ _ _ af
 have:(loadCells ⟨loc.b,loc.o+off,none⟩ (n*cu)).run P aM=.ok xs.toArray aM:=by
  have ar:=run_loadCells_list (P:=P) aM ⟨loc.b,loc.o+off,none⟩ xs λj v az=>by
   have nT:j<xs.length:=by apply Classical.byContradiction;intro qD;rw[List.getElem?_eq_none (by omega)]at az;cases az
   have aI:w.cell? (Addr.add ⟨loc.b,loc.o+off,none⟩ j)=some v:=by
    rw[wQ];obtain⟨df,e9⟩ :∃df,l[j]? =some df:=⟨l[j]'(by rw[hB,<-aa];exact nT),List.getElem?_eq_getElem _⟩;obtain⟨x,ab,_⟩:=ug (w:=w) rel hm (mx j df e9);rw[<-Nat.add_assoc]at ab;have rR:=av;have iy:w.cell? ⟨loc.b,loc.o+off+j,none⟩=some x:=ab
    rw[run_loadCells w ⟨loc.b,loc.o+off,none⟩ (n*cu) (λi=>(w.cell? ⟨loc.b,loc.o+off+i,none⟩).getD undef) (λi U=>by
     rw[wQ];obtain⟨v2,n0⟩ :∃v2,l[i]? =some v2:=⟨l[i]'(by rw[hB];exact U),List.getElem?_eq_getElem _⟩;obtain⟨kG,m',_⟩:=ug (w:=w) rel hm (mx i v2 n0);rw[<-Nat.add_assoc]at m'
     rw[m'];rfl)]at rR
    have aw:((List.range (n*cu)).map (λi=>(w.cell? ⟨loc.b,loc.o+off+i,none⟩).getD undef)).toArray=xs.toArray:=by injection rR
    have aL:(List.range (n*cu)).map (λi=>(w.cell? ⟨loc.b,loc.o+off+i,none⟩).getD undef)=xs:=by have:=congrArg Array.toList aw;simpa using this
    rw[<-aL,List.getElem?_map,List.getElem?_range (by rw[<-aa];exact nT)]at az;simp only[Option.map_some,iy,Option.getD_some]at az;rw[iy,az]
   unfold World.cell? at aI|-;rw[hw];exact aI
  rwa[aa]at ar
 rw[<-aU (by omega)]at this;simp[Builtin.firstCells,this]
theorem Jv{cellNew:Nat->Option J}{lenc nc:Nat}{old new:List J}{us vs:List Value}(ro:bX σ μ old us)(pX:bX σ μ new vs)(eU:old.length=lenc)(lv:new.length=nc)
  (aA:∀i,i<lenc+nc->cellNew i=(old++new)[i]?) {st:Bool} {loc:Loc} {rest:List Value} {iq:TypeId} (aY:loc.o=0) (iB:loc.room=(us++vs++rest).length) :
  k9 σ μ cellNew (lenc+nc) st loc (some (.cells (us++vs++rest).toArray iq)):=by
 have o7:=ro.append pX;have oQ:(old++new).length=lenc+nc:=by rw[List.length_append,eU,lv]
 refine⟨_,iq,(0,0),rfl,by simp[aY,iB],by rw[iB,List.length_append,<-o7.length,oQ];omega,λ_=>rfl,MZ _,λi U=> ?_⟩;have aE:(old++new)[i]? =some ((old++new)[i]'(by rw[oQ];exact U)):=List.getElem?_eq_getElem _;obtain⟨x,ab,rx⟩:=o7.get i _ aE;refine⟨_,x,by rw[aA i U,aE],?_,rx⟩;rw[aY,Nat.zero_add];simp only[List.getElem?_toArray];rw[List.getElem?_append_left (by rw[<-o7.length,oQ];exact U)];exact ab
theorem RX{b:Nat} :∀(xs:List Value) (o i:Nat) (c:Array Value) (iq:TypeId) (fr:Nat×Nat) (w:World),w.heap[b]? =some (.cells c iq fr)->(∀j,j<c.size->¬(fr.1<=j/\j<fr.2))->
  (∀x,x∈xs->x.oneCell'=true)->o+i+xs.length<=c.size->
  ∃aM gz,(storeCells ⟨b,o,none⟩ xs i).run P w=.ok () aM/\da w aM/\aM.heap.size=w.heap.size/\(∀j,j≠b->aM.heap[j]? =w.heap[j]?)/\aM.heap[b]? =some (.cells gz iq fr)/\gz.size=c.size/\
   (∀j,gz[j]? =if o+i<=j/\j<o+i+xs.length then xs[j-(o+i)]? else c[j]?)
 |[],o,i,c,iq,fr,w,hw,eT,h1,hle=>⟨w,c,by simp[storeCells],da.refl _,rfl,λ_ _=>rfl,hw,rfl,λj=>by rw[if_neg (by simp only[List.length_nil];omega)]⟩
 |x::xs,o,i,c,iq,fr,w,hw,eT,h1,hle=>by
  have bK:o+i<c.size:=by simp at hle;omega
  have Hy:(w.setCell ⟨b,o+i,none⟩ x).heap[b]? =some (.cells (c.setIfInBounds (o+i) x) iq fr):=by rw[D8,if_pos rfl,hw];rfl
  obtain⟨aM,gz,aQ,a2,a3,a4,a5,hY,tg⟩:=RX xs o (i+1) (c.setIfInBounds (o+i) x) iq fr (w.setCell ⟨b,o+i,none⟩ x) Hy (by simpa using eT) (λy an=>h1 y (List.mem_cons_of_mem _ an)) (by simp at hle|-;omega);refine⟨aM,gz,?_,(da.setCell _ _ _).trans a2,by rw[a3,Rs],λj az=>by rw[a4 j az,D8,if_neg (Ne.symm az)],a5,by rw[hY];simp,λj=> ?_⟩
  ·have iy:w.cell? ⟨b,o+i,none⟩=some c[o+i]:=by rw[uO,hw];simp[bK]
   have CD:w.frozen? ⟨b,o+i,none⟩=false:=by rw[Ck,hw];have:=eT (o+i) bK;simp only[Bool.and_eq_false_iff,decide_eq_false_iff_not];omega
   simp only[storeCells,add_eq,Sem.run_bind,run_store P w _ x .plain (h1 x List.mem_cons_self),iy,CD,Bool.false_eq_true,if_false,Result.andThen_ok];exact aQ
  ·rw[tg];by_cases aa:o+(i+1)<=j/\j<o+(i+1) +xs.length
   ·rw[if_pos aa,if_pos (by simp only[List.length_cons];omega)];obtain⟨m,hm⟩ :∃m,j-(o+i)=m+1:=⟨j-(o+i) -1,by omega⟩;rw[hm,show j-(o+(i+1))=m by omega,List.getElem?_cons_succ]
   ·rw[if_neg aa];by_cases av:j=o+i
    ·subst av;rw[if_pos (by simp only[List.length_cons];omega),Nat.sub_self,Array.getElem?_setIfInBounds_self,if_pos bK];rfl
    ·rw[if_neg (by simp only[List.length_cons];omega),Array.getElem?_setIfInBounds_ne (Ne.symm av)]
end
section
variable{P:Program}{E:Env}{σ:Nat->Int}{μ:Map}{h:ag}{w:World}{r:bl}{tmps:Array Value}
theorem fg.Qd{o:bp}{size:Nat}{st:Bool}{loc:Loc}{x:Option Obj}(h1:o.row=some (size,st))(ah:k9 σ μ o.cell size st loc x) :fg σ μ o loc x:=by cases o<;>simp only[bp.row]at h1<;>first|(cases h1;done) |(cases h1;exact ah)
theorem Rn:∀{ck:List J} {vs:List Value},bX σ μ ck vs->ck.all dT=true->∀v,v∈vs->v.oneCell'=true
 |[],_,ah,_,v,ae=>by rw[bX.iF.1 ah]at ae;cases ae
 |a::ck,_,⟨x,xs,rfl,ab,iV⟩,au,v,ae=>by
  simp only[List.all_cons,Bool.and_eq_true]at au;rcases List.mem_cons.1 ae with rfl|ae
  ·exact Rm au.1 ab
  ·exact Rn iV au.2 v ae
theorem GB(rel:c_ σ μ h w.heap){id off len cap cu n:Nat}{ex:Bool}{o:Bool->bp}{g:ag}{old new:List J}{vs:List Value}{us:Value}{kE:Value}{argTypes:Array TypeId}{e:TypeId}{bytes:Nat}{zc:Nat}
  (rt:TypeId) (aE:pC h id ex o=some g) (hu:bk σ μ (.slice id off len cap cu ex) us) (aA:¬len+n<=cap) (a:App P w argTypes e cu bytes kE n vs) (iB:roomy (len+n) bytes=true)
  (aI:∀z,(zeroValue e).run P w=.ok z w->z.cells.size=cu) (ab1:∃z,(zeroValue e).run P w=.ok z w)
  (hold:old.length=len*cu/\∀j v,old[j]? =some v->(h.get id).cell (off+j)=some v) (fw:bX σ μ new vs) (lv:new.length=n*cu) (vo:new.all dT=true)
  (iy:∀st i,i<(len+n) *cu->(o st).cell i=(old++new)[i]?) (dY:∀st,(o st).row=some ((len+n) *cu,st)) :
  ∃q aM bu,(Builtin.append_ argTypes rt #[us,kE]).run P w=.ok q aM/\da w aM/\dj σ μ h w.heap bu g aM.heap/\bk σ bu (.slice h.next 0 (len+n) (len+n) cu false) q:=by
 obtain⟨loc,ad,jA,hm,rfl,kT,mi,hex,cq,nX⟩:=hu
 obtain⟨xs,iV,vw,NH⟩ :∃xs:List Value,bX σ μ old xs/\xs.length=len*cu/\∀aM,aM.heap=w.heap->(Builtin.firstCells cu len (.slice (some ad) len jA)).run P aM=.ok xs.toArray aM:=by
  by_cases h0:len=0
  ·subst h0;have:old=[]:=List.eq_nil_of_length_eq_zero (by rw[hold.1];simp);subst this;exact⟨[],rfl,by simp,λaM hw=>by simp[Builtin.firstCells,loadCells,loadCellsFrom]⟩
  ·obtain⟨xs,p,q⟩:=Pc (σ:=σ) (μ:=μ) (f:=λj=>w.cell? ⟨loc.b,loc.o+off+j,none⟩) old λj v az=>by
    obtain⟨x,ab,rx⟩:=ug (w:=w) rel hm (off:=off+j) (v:=v) (hold.2 j v az);rw[<-Nat.add_assoc]at ab;exact⟨x,ab,rx⟩
   have ar:xs.length=len*cu:=by rw[<-p.length,hold.1]
   refine⟨xs,p,ar,λaM hw=> ?_⟩
   have:=run_loadCells_list (P:=P) aM ⟨loc.b,loc.o+off,none⟩ xs λj v az=>by rw[wQ];have:=q j v az;unfold World.cell? at this|-;rw[hw];exact this
   rw[ar,<-cq (by omega)]at this;simp[Builtin.firstCells,this]
 by_cases eb:len+n<=jA
 ·
  have GW:ex=false:=by
   cases ex with
   |false=>rfl
   |true=>have:=hex rfl;omega
  subst GW;unfold pC at aE;simp only at aE;split at aE
  ·rename_i sz st xz;cases aE;have ZF:jA≠0:=by omega
   have rI:=cq ZF;subst rI;have cL:h.get id≠.dead:=λe=>by rw[e]at xz;cases xz
   obtain⟨c,iq,fr,aw,aL,bo,eh,e6,jC⟩:=(rel.obj id loc _ hm (ag.lT cL)).row xz;have al':(len+n) *cu<=jA*cu:=Nat.mul_le_mul_right _ eb;have vp:(len+n) *cu=len*cu+n*cu:=Nat.add_mul _ _ _;have xG:vs.length=n*cu:=by rw[<-fw.length,lv]
   obtain⟨aM,gz,s1,s2,du,lC,jO,kA,yd⟩:=RX (P:=P) vs (loc.o+off+len*cu) 0 c iq fr w aw e6 (Rn fw vo) (by rw[xG];omega);have Zj:=wR a rt eb (aM:=aM) (ad:=⟨loc.b,loc.o+off,none⟩) (by rw[add_eq];exact s1);have al:=rel.gv h.next (Nat.le_refl _);have h7:Ext μ (μ.aq h.next ⟨loc.b,loc.o+off,loc.room-off⟩):=Map.pj _ _ al;have o7:=(iV.append fw);have oQ:(old++new).length=(len+n) *cu:=by rw[List.length_append,hold.1,lv,vp]
   have zR:k9 σ (μ.aq h.next ⟨loc.b,loc.o+off,loc.room-off⟩) (o st).cell ((len+n) *cu) st ⟨loc.b,loc.o+off,loc.room-off⟩ aM.heap[loc.b]? :=by
    refine⟨gz,iq,fr,jO,by rw[kA];simp only;omega,by simp only;omega,eh,by rw[kA];exact e6,λi U=> ?_⟩;have Nv:(old++new)[i]? =some ((old++new)[i]'(by rw[oQ];exact U)):=List.getElem?_eq_getElem _;obtain⟨x,ab,rx⟩:=o7.get i _ Nv;refine⟨_,x,by rw[iy st i U,Nv],?_,bk.ext h7 _ _ rx⟩;simp only;rw[yd];by_cases h1:len*cu<=i
    ·rw[if_pos (by rw[xG];omega),show loc.o+off+i-(loc.o+off+len*cu+0)=i-len*cu by omega];rw[List.getElem?_append_right (by rw[vw];exact h1),vw]at ab;exact ab
    ·rw[if_neg (by omega)];have eo:i<old.length:=by rw[hold.1];omega
     rw[List.getElem?_append_left (by rw[vw];omega)]at ab;have aa0:old[i]? =some old[i]:=List.getElem?_eq_getElem eo;have Nx:=NH w rfl;have lY:len≠0:=λe=>by rw[e]at h1;simp at h1
     obtain⟨y,an,i_⟩:=ug (w:=w) rel hm (off:=off+i) (v:=old[i]) (hold.2 i _ aa0);rw[uO,aw]at an;simp only at an;have mn:(Builtin.firstCells cu len (.slice (some ⟨loc.b,loc.o+off,none⟩) len jA)).run P w=(loadCells ⟨loc.b,loc.o+off,none⟩ (len*cu)).run P w:=by simp[Builtin.firstCells]
     rw[mn,run_loadCells w ⟨loc.b,loc.o+off,none⟩ (len*cu) (λk=>(w.cell? ⟨loc.b,loc.o+off+k,none⟩).getD undef) (λk aj=>by
      rw[wQ];have iR:k<old.length:=by rw[hold.1];exact aj
      obtain⟨kG,m',_⟩:=ug (w:=w) rel hm (off:=off+k) (v:=old[k]) (hold.2 k _ (List.getElem?_eq_getElem iR));rw[<-Nat.add_assoc]at m'
      rw[m'];rfl)]at Nx
     have oH:(List.range (len*cu)).map (λk=>(w.cell? ⟨loc.b,loc.o+off+k,none⟩).getD undef)=xs:=by injection Nx with gC;have:=congrArg Array.toList gC;simpa using this
     rw[<-oH,List.getElem?_map,List.getElem?_range (by omega)]at ab;simp only[Option.map_some,uO,aw]at ab;rw[show loc.o+off+i=loc.o+(off+i)by omega]at ab|-;rw[an]at ab|-;exact ab
   refine⟨_,aM,_,Zj,s2,rel.ahC (off:=off) (bL:=o st) hm (Q8 xz) du lC (fg.Qd (dY st) zR),?_⟩;refine⟨_,_,_,Map.hb _ _ _,rfl,Nat.le_refl _,eb,(λe=>by cases e),λ_=>rfl,?_⟩;simp only;omega
  ·cases aE
 ·
  obtain⟨z,r8⟩:=ab1;obtain⟨c,rest,aM,g1,g2,g3,g4,g5⟩:=Fo a rt eb (by omega) iB (old:=xs) NH;have m_:=g5 z r8;rw[aI z r8]at m_;have xG:vs.length=n*cu:=by rw[<-fw.length,lv]
  have vp:(len+n) *cu=len*cu+n*cu:=Nat.add_mul _ _ _;have m6:c*cu=(len+n) *cu+(c-(len+n)) *cu:=by rw[<-Nat.add_mul];congr 1;omega
  have aby:(xs++vs++rest).length=c*cu:=by simp only[List.length_append,vw,xG,m_];omega
  have aaP:∀(bu:Map) (st:Bool),Ext μ bu->fg σ bu (o st) ⟨w.heap.size,0,c*cu⟩ (some (.cells (xs++vs++rest).toArray e)):=by intro bu st h7;refine fg.Qd (dY st) ?_;rw[vp];exact Jv (bX.ext h7 _ _ iV) (bX.ext h7 _ _ fw) hold.1 lv (λi U=>iy st i (by rw[vp];exact U)) rfl (by simp only[aby])
  have NQ:∀(aC:ag) (st:Bool),aC.next=h.next->dj σ μ h w.heap μ aC w.heap->dj σ μ h w.heap (μ.aq h.next ⟨w.heap.size,0,c*cu⟩) (aC.new (o st)) aM.heap:=by intro aC st j6 m;have al:=rel.gv h.next (Nat.le_refl _);have:=m.rel.new (x:=.cells (xs++vs++rest).toArray e) (o:=o st) (room:=c*cu) (by rw[j6];exact aaP _ st (Map.pj _ _ al));rw[<-g2,j6]at this;exact m.trans this
  have ae:bk σ (μ.aq h.next ⟨w.heap.size,0,c*cu⟩) (.slice h.next 0 (len+n) (len+n) cu false) (.slice (some ⟨w.heap.size,0,none⟩) (len+n) c):=
   ⟨_,_,_,Map.hb _ _ _,rfl,Nat.le_refl _,g4,(λe=>by cases e),λ_=>by simp,by simp⟩
  unfold pC at aE;cases ex with
  |true=>
   cases aE;exact⟨_,aM,_,g1,g3,NQ h false rfl (dj.refl rel),ae⟩
  |false=>
   simp only at aE;split at aE
   ·rename_i sz st xz;cases aE;exact⟨_,aM,_,g1,g3,NQ (h.put id .dead) st rfl (rel.kill hm (Q8 xz)),ae⟩
   ·cases aE
end
section
variable{P:Program}{E:Env}{σ:Nat->Int}{μ:Map}{h:ag}{w:World}{r:bl}{tmps:Array Value}
theorem uI:∀(l m:Nat),(lN l m).length=l
 |0,_=>rfl
 |l+1,m=>by simp[lN,uI l]
theorem yM:∀(l m i:Nat),(lN l m)[i]? =if i<l then some (.int .u8 (.ofNat (cC m i)))else none
 |0,m,i=>by simp[lN]
 |l+1,m,0=>by simp[lN,hP]
 |l+1,m,i+1=>by
  have nL:(2:Nat) ^(8*1)=256:=by decide
  simp only[lN,List.getElem?_cons_succ,yM l (m/256) i]
  have:cC (m/256) i=cC m (i+1):=by rw[hP,hP,Nat.mul_add,Nat.add_comm (8*i),Nat.pow_add,<-Nat.div_div_eq_div_mul,nL]
  rw[this];by_cases h:i<l
  ·rw[if_pos h,if_pos (by omega)]
  ·rw[if_neg h,if_neg (by omega)]
theorem Lx:∀(l m:Nat),(lN l m).all dT=true
 |0,_=>rfl
 |l+1,m=>by simp[lN,dT,Lx l]
theorem FE{size:Nat}{st:Bool}{n i:Nat}(U:i<size) :(bp.bytes size st n).cell i=some (.int .u8 (.ofNat (cC n i))):=by simp only[bp.cell,c4.2 U,cond_true]
theorem ahs{id off len n:Nat}(ah:mK h id off len=some n) :n<2^(8*len)/\∀j v,(lN len n)[j]? =some v->(h.get id).cell (off+j)=some v:=by
 unfold mK at ah;split at ah
 ·rename_i size st N aE;replace ah:=c' ah;obtain⟨hle,ah⟩:=ah;cases ah;have pK:=dr.1 hle;refine⟨FY _ _ _,λj v az=> ?_⟩;rw[yM]at az;split at az
  ·rename_i nT;cases az;rw[aE,FE (by omega),FB _ _ _ _ nT]
  ·cases az
 ·cases ah
theorem Cd{x:J}{u:Value}{l:Nat}(ar:kv x=some l)(hu:bk σ μ x u)(size:Nat)(aM:World) :(Builtin.firstCells size 0 u).run P aM=.ok #[] aM:=by
 cases x<;>simp only[kv]at ar<;>first|(cases ar;done) |skip
 ·obtain⟨_,e⟩:=hu;subst e;simp[Builtin.firstCells,ByteArray.data_extract]
 ·have e:u=_:=hu;subst e;simp[Builtin.firstCells]
 ·obtain⟨loc,a,c,_,e,_⟩:=hu;subst e;simp[Builtin.firstCells,loadCells,loadCellsFrom]
theorem VC(ok:cX P E σ)(rel:c_ σ μ h w.heap){JA K0:TypeId}{s x v:J}{bg:ag}{us kE:Value}{argTypes:Array TypeId}(h0:argTypes[0]? =some JA)(h1:argTypes[1]? =some K0)(rt:TypeId)
  (ae:fJ E h JA K0 s x=some (v,bg)) (au:bk σ μ s us) (ab:bk σ μ x kE) :
  ∃q aM bu,(Builtin.append_ argTypes rt #[us,kE]).run P w=.ok q aM/\da w aM/\dj σ μ h w.heap bu bg aM.heap/\bk σ bu v q:=by
 unfold fJ at ae;split at ae
 ·rename_i si K1 n abj abP hlen;split at ae
  ·rename_i e abl Od;split at ae
   ·cases ae
   ·rename_i ie eJ;obtain⟨inf,z,xp,aam,G6,NA,_,hJ⟩:=D3 (P:=P) ok eJ;obtain⟨z2,aI,_,ah6⟩:=vY (P:=P) ok eJ;have gP:ie.zero.length=ie.size:=(ok.ty _ _ eJ).wH;have r9:z2.cells.size=ie.size:=by rw[<-gP,(ah6 μ).length,Array.length_toList]
    have mkApp:∀(m:Nat) (new:List Value),kv x=some m->(∀aM,aM.heap=w.heap->(Builtin.firstCells ie.size m kE).run P aM=.ok new.toArray aM)->App P w argTypes e ie.size ie.bytes kE m new:=by
     intro m new ar aA;refine⟨⟨JA,K0,K1.desc,h0,h1,λw=>by rw[gT ok abj,abl],λw=>gT ok abP w,?_⟩,λw=>l4 ok eJ w,⟨inf,z2,xp,G6,aI⟩,λw=>OZ ar ab w,aA⟩;split at Od
     ·first|rfl|(rename_i ao;rw[ao])
     ·first|rfl|(rename_i ao;rw[ao])
     ·cases Od
    have n2:∀z,(zeroValue e).run P w=.ok z w->z.cells.size=ie.size:=λalc oX=>by rw[aI]at oX;cases oX;exact r9
    split at ae
    ·
     have a:=mkApp 0 [] hlen λaM _=>by simpa using Cd (P:=P) hlen ab ie.size aM
     split at ae
     ·cases ae;have aw:us=_:=au;subst aw;exact⟨_,w,μ,Lr a rt rfl _ (.inl rfl),da.refl _,dj.refl rel,rfl⟩
     ·cases ae;have xA:=au;obtain⟨loc,ad,jA,_,aw,kT,mi,_⟩:=au;subst aw;exact⟨_,w,μ,Lr a rt rfl _ (.inr ⟨ad,_,jA,rfl,by omega⟩),da.refl _,dj.refl rel,xA⟩
     ·cases ae
    ·rename_i n;split at ae
     ·
      replace ae:=c' ae;obtain⟨ev,ae⟩:=ae;have gO:=beq_true.1 ev;split at ae
      ·cases ae
      ·rename_i new fw;have qB:=λaM vr=>MN (P:=P) rel hlen (Nat.le_refl _) fw ab (by omega) aM vr
       have aaR:=(qB w rfl).1;have a:=mkApp (n+1) (la (n+1) new) hlen λaM vr=>by rw[gO];exact(qB aM vr).2
       rw[gO]at a n2;split at ae
       ·
        replace ae:=c' ae;obtain⟨iB,ae⟩:=ae;cases ae;have aw:us=_:=au;subst aw;obtain⟨c,rest,aM,g1,g2,g3,g4,g5⟩:=Fo a rt (base:=none) (len:=0) (cap:=0) (by omega) (Nat.le_refl _) (by simpa using iB) (old:=[]) λaM _=>by simp[Builtin.firstCells]
        have m_:=g5 z2 (aI w);rw[n2 z2 (aI w)]at m_
        have dY:∀bu,fg σ bu (.bytes (n+1) false new) ⟨w.heap.size,0,c⟩ (some (.cells ([]++la (n+1) new++rest).toArray e)):=by
         intro bu
         have:=Jv (σ:=σ) (μ:=bu) (old:=[]) (new:=lN (n+1) new) (us:=[]) (vs:=la (n+1) new) (lenc:=0) (nc:=n+1) (cellNew:=(bp.bytes (n+1) false new).cell) rfl (BI _ _) rfl (uI _ _)
          (λi U=>by rw[FE (by omega),List.nil_append,yM,if_pos (by omega)]) (st:=false) (loc:=⟨w.heap.size,0,c⟩) (rest:=rest) (iq:=e) rfl (by simp only[List.nil_append,List.length_append,LJ,m_];omega)
         rw[Nat.zero_add]at this;exact this
        have m:=rel.new (x:=.cells ([]++la (n+1) new++rest).toArray e) (o:=.bytes (n+1) false new) (room:=c) (dY _);rw[<-g2]at m;refine⟨_,aM,_,g1,g3,m,_,_,_,Map.hb _ _ _,by rw[Nat.zero_add],Nat.le_refl _,by omega,(λe=>by cases e),λ_=>rfl,by simp⟩
       ·rename_i id off len cap cu ex;replace ae:=c' ae;obtain⟨qy,ae⟩:=ae;have Z5:=beq_true.1 qy;subst Z5;cases lq:Nat.ble (len+(n+1)) cap with
        |true=>
         rw[lq]at ae;simp only[cond_true]at ae;split at ae
         ·rename_i g hw;cases ae;have tE:=dr.1 lq;have xA:=au;obtain⟨loc,ad,jA,hm,aw,kT,mi,hex,cq,nX⟩:=au;subst aw;have rI:=cq (by omega);subst rI;obtain⟨aM,s1,s2,du⟩:=wG (P:=P) rel hm hw aaR;refine⟨_,aM,μ,wR a rt (by omega) (aM:=aM) ?_,s2,du,loc,_,jA,hm,rfl,tE,mi,hex,λ_=>rfl,nX⟩;rw[add_eq,Nat.mul_one,Nat.add_assoc];exact s1
         ·cases ae
        |false=>
         rw[lq]at ae;simp only[cond_false]at ae;have tE:¬len+(n+1)<=cap:=λh=>by rw[dr.2 h]at lq;cases lq
         split at ae
         ·cases ae
         ·rename_i old hold;replace ae:=c' ae;obtain⟨iB,ae⟩:=ae;split at ae
          ·rename_i g zv;cases ae;obtain⟨aa3,aaX⟩:=ahs hold
           obtain⟨q,aM,bu,fj,eS,fY,iN⟩:=GB (zc:=0) rel rt zv au tE a iB n2 ⟨z2,aI w⟩ (old:=lN len old) ⟨by rw[uI,Nat.mul_one],aaX⟩ (BI (n+1) new) (by rw[uI,Nat.mul_one]) (Lx _ _)
            (λst i U=>by
              rw[Nat.mul_one]at U;rw[FE U,LK _ _ _ _ aa3];by_cases h1:i<len
              ·rw[if_pos h1,List.getElem?_append_left (by rw[uI];exact h1),yM,if_pos h1]
              ·rw[if_neg h1,List.getElem?_append_right (by rw[uI];omega),yM,uI,if_pos (by omega)])
            (λst=>by rw[Nat.mul_one];rfl)
           exact⟨q,aM,bu,fj,eS,fY,iN⟩
          ·cases ae
       ·cases ae
     ·
      split at ae
      ·rename_i xid xoff ak6 xcap Bq xex;replace ae:=c' ae;obtain⟨af,ae⟩:=ae;have vv:=beq_true.1 (eF af).1;have lY:=dr.1 (eF af).2;subst vv;simp only[kv]at hlen;cases hlen;split at ae
       ·cases ae
       ·rename_i new fw;obtain⟨vs,hC,mn⟩:=MO (P:=P) rel (Nat.le_refl _) fw ab (by omega);have a:=mkApp (n+1) vs rfl mn;have lv:new.length=(n+1) *ie.size:=(bp.x6 _ _ _ fw).1;split at ae
        ·
         replace ae:=c' ae;obtain⟨iB,ae⟩:=ae;cases ae;have aw:us=_:=au;subst aw;obtain⟨c,rest,aM,g1,g2,g3,g4,g5⟩:=Fo a rt (base:=none) (len:=0) (cap:=0) (by omega) (Nat.le_refl _) (by simpa using iB) (old:=[]) λaM _=>by simp[Builtin.firstCells]
         have m_:=g5 z2 (aI w);rw[r9]at m_;have xG:vs.length=(n+1) *ie.size:=by rw[<-hC.length,lv]
         have m6:c*ie.size=(n+1) *ie.size+(c-(0+(n+1))) *ie.size:=by rw[<-Nat.add_mul];congr 1;omega
         have dY:∀bu,Ext μ bu->fg σ bu (.cells ((n+1) *ie.size) false [] (bj.ofList new)) ⟨w.heap.size,0,c*ie.size⟩ (some (.cells ([]++vs++rest).toArray e)):=by
          intro bu h7
          have:=Jv (σ:=σ) (μ:=bu) (old:=[]) (new:=new) (us:=[]) (vs:=vs) (lenc:=0) (nc:=(n+1) *ie.size) (cellNew:=(bp.cells ((n+1) *ie.size) false [] (bj.ofList new)).cell) rfl (bX.ext h7 _ _ hC) rfl lv
           (λi U=>by
             have eo:i<new.length:=by rw[lv];omega
             simp only[bp.cell,c4.2 (show i<(n+1) *ie.size by omega),cond_true,bj.tx,List.nil_append,List.getElem?_eq_getElem eo]) (st:=false) (loc:=⟨w.heap.size,0,c*ie.size⟩) (rest:=rest) (iq:=e) rfl (by simp only[List.nil_append,List.length_append,xG,m_,m6])
          rw[Nat.zero_add]at this;exact this
         have al:=rel.gv h.next (Nat.le_refl _);have m:=rel.new (x:=.cells ([]++vs++rest).toArray e) (o:=.cells ((n+1) *ie.size) false [] (bj.ofList new)) (room:=c*ie.size) (dY _ (Map.pj _ _ al));rw[<-g2]at m;refine⟨_,aM,_,g1,g3,m,_,_,_,Map.hb _ _ _,by rw[Nat.zero_add],Nat.le_refl _,by omega,(λe=>by cases e),λ_=>rfl,by simp⟩
        ·rename_i id off len cap cu ex;replace ae:=c' ae;obtain⟨m4,ae⟩:=ae;have qy:=beq_true.1 (eF m4).1;have vo:=(eF m4).2;subst qy;cases lq:Nat.ble (len+(n+1)) cap with
         |true=>
          rw[lq]at ae;simp only[cond_true]at ae;split at ae
          ·rename_i g hw;cases ae;have tE:=dr.1 lq;obtain⟨loc,ad,jA,hm,aw,kT,mi,hex,cq,nX⟩:=au;subst aw;have rI:=cq (by omega);subst rI
           have eK:new≠[]:=λe=>by have aD:0<(n+1) *ie.size:=Nat.mul_pos (by omega) lY;rw[e]at lv;simp only[List.length_nil]at lv;omega
           obtain⟨aM,s1,s2,du⟩:=Eh (P:=P) (E:=E) rel hm eK hw hC;refine⟨_,aM,μ,wR a rt (by omega) (aM:=aM) ?_,s2,du,loc,_,jA,hm,rfl,tE,mi,hex,λ_=>rfl,nX⟩;rw[add_eq,Nat.add_assoc];exact s1
          ·cases ae
         |false=>
          rw[lq]at ae;simp only[cond_false]at ae;have tE:¬len+(n+1)<=cap:=λh=>by rw[dr.2 h]at lq;cases lq
          replace ae:=c' ae;obtain⟨iB,ae⟩:=ae;have vp:(len+(n+1)) *ie.size=len*ie.size+(n+1) *ie.size:=Nat.add_mul _ _ _;split at ae
          ·
           rename_i size RO zero t hT aaY;replace ae:=c' ae;obtain⟨hle,ae⟩:=ae;have pK:=dr.1 hle;have aaZ:=beq_true.1 aaY;subst aaZ;split at ae
           ·rename_i g zv;cases ae;have xA:=au;obtain⟨loc,ad,jA,hm,aw,kT,mi,hex,cq,nX⟩:=xA;have cL:h.get id≠.dead:=by rw[hT];simp
            have vj:=rel.obj id loc _ hm (ag.lT cL);rw[hT]at vj;obtain⟨dI,ali,YH,_,_,_,_,_,m5⟩:=vj;have jE:∀i,i<len*ie.size->∃v,(bp.cells size RO zero t).cell i=some v:=λi U=>let⟨v,_,ae,_⟩:=m5 i (by omega);⟨v,ae⟩
            let old:List J:=(List.range (len*ie.size)).map λi=>((bp.cells size RO zero t).cell i).getD .undef
            have xy:old.length=len*ie.size:=by simp[old]
            have NV:∀j v,old[j]? =some v->(h.get id).cell (0+j)=some v:=by
             intro j v az
             have nT:j<len*ie.size:=by apply Classical.byContradiction;intro qD;rw[List.getElem?_eq_none (by rw[xy];omega)]at az;cases az
             obtain⟨df,e9⟩:=jE j nT;simp only[old,List.getElem?_map,List.getElem?_range nT,Option.map_some,e9,Option.getD_some]at az;cases az;rw[hT,Nat.zero_add];exact e9
            obtain⟨q,aM,bu,fj,eS,fY,iN⟩:=GB (zc:=0) rel rt zv au tE a iB n2 ⟨z2,aI w⟩ (old:=old) ⟨xy,NV⟩ hC lv vo
             (λst i U=>by
               have r3:i<len*ie.size+(n+1) *ie.size:=by rw[<-vp];exact U
               by_cases h1:i<len*ie.size
               ·rw[List.getElem?_append_left (by rw[xy];exact h1)];have NC:old[i]? =some (old[i]'(by rw[xy];exact h1)):=List.getElem?_eq_getElem _;rw[NC,<-NV i _ NC,hT,Nat.zero_add];simp only[bp.cell,c4.2 U,c4.2 (show i<size by omega),cond_true,bj.xd];rw[if_neg (by omega)]
               ·rw[List.getElem?_append_right (by rw[xy];omega),xy];have Nz:i-len*ie.size<new.length:=by rw[lv];omega
                simp only[bp.cell,c4.2 U,cond_true,bj.xd]
                rw[if_pos (by rw[lv];omega),List.getElem?_eq_getElem Nz])
             (λst=>rfl)
            exact⟨q,aM,bu,fj,eS,fY,iN⟩
           ·cases ae
          ·
           rename_i o gp;split at ae
           ·cases ae
           ·rename_i old hold;split at ae
            ·rename_i g zv;cases ae;obtain⟨cg,cK⟩:=bp.x6 _ _ _ hold
             obtain⟨q,aM,bu,fj,eS,fY,iN⟩:=GB (zc:=0) rel rt zv au tE a iB n2 ⟨z2,aI w⟩ (old:=old) ⟨cg,cK⟩ hC lv vo
              (λst i U=>by
                have r3:i<(old++new).length:=by rw[List.length_append,cg,lv,<-vp];exact U
                simp only[bp.cell,c4.2 U,cond_true,bj.tx,List.getElem?_eq_getElem r3])
              (λst=>rfl)
             exact⟨q,aM,bu,fj,eS,fY,iN⟩
            ·cases ae
        ·cases ae
      ·cases ae
  ·cases ae
 ·cases ae
theorem Xc(ok:cX P E σ)(rel:c_ σ μ h w.heap){FZ:TypeId}{d x v:J}{bg:ag}{wu kE:Value}{argTypes:Array TypeId}(h0:argTypes[0]? =some FZ)(rt:TypeId)
  (ae:jB E h FZ d x=some (v,bg)) (ao:bk σ μ d wu) (ab:bk σ μ x kE) :
  ∃q aM,(Builtin.copy_ argTypes rt #[wu,kE]).run P w=.ok q aM/\da w aM/\dj σ μ h w.heap μ bg aM.heap/\bk σ μ v q:=by
 unfold jB at ae;split at ae
 ·rename_i Mi a b ZP oQ mo;split at ae
  ·rename_i e va;split at ae
   ·cases ae
   ·rename_i ie eJ;have CM:=OZ (P:=P) oQ ab;have CZ:∀w,(underlying FZ).run P w=.ok (.slice e) w:=λw=>by rw[gT ok ZP,va]
    have ev:=λw=>l4 (P:=P) ok eJ w
    have vd:(d=.bh/\b=0)\/∃id off cap cu ex,d=.slice id off b cap cu ex:=by
     cases d<;>simp only[kv]at mo<;>first|(cases mo;done) |skip
     ·cases mo;exact .inl ⟨rfl,rfl⟩
     ·cases mo;exact .inr ⟨_,_,_,_,_,rfl⟩
    split at ae
    ·rename_i pL;cases ae;rcases vd with⟨rfl,rfl⟩ |⟨id,off,cap,cu,ex,rfl⟩
     ·have a7:wu=_:=ao;subst a7;refine⟨.int .i64 0,w,?_,da.refl _,dj.refl rel,rfl⟩;have aI:=Cd (P:=P) oQ ab ie.size w;simp[Builtin.copy_,h0,CZ,ev,CM,aI,goInt]
     ·obtain⟨loc,ad,jA,hm,a7,kT,mi,hex,cq,nX⟩:=ao;subst a7;refine⟨.int .i64 0,w,?_,da.refl _,dj.refl rel,rfl⟩;have aI:=Cd (P:=P) oQ ab ie.size w;have zC:Nat.min a b=0:=pL;simp[Builtin.copy_,h0,CZ,ev,CM,zC,aI,goInt,storeCells]
    ·rename_i n pL;have NM:Nat.min a b=n+1:=pL;have tK:n+1<=a:=Nat.le_trans (Nat.le_of_eq pL.symm) (Nat.min_le_left a b);have amm:n+1<=b:=Nat.le_trans (Nat.le_of_eq pL.symm) (Nat.min_le_right a b);split at ae
     ·rename_i id off len cap cu ex;simp only[kv]at mo;cases mo;replace ae:=c' ae;obtain⟨qy,ae⟩:=ae;have GX:=beq_true.1 qy;subst GX;obtain⟨loc,ad,jA,hm,a7,kT,mi,hex,cq,nX⟩:=ao;subst a7;have rI:=cq (by omega);subst rI;split at ae
      ·replace ae:=c' ae;obtain⟨gO,ae⟩:=ae;have N6:=beq_true.1 gO;split at ae
       ·rename_i new fw;split at ae
        ·rename_i g hw;cases ae;obtain⟨bK,mn⟩:=MN (P:=P) rel oQ tK fw ab (by omega) w rfl;obtain⟨aM,s1,s2,du⟩:=wG (P:=P) rel hm hw bK;refine⟨.int .i64 ((n+1:Nat) :Int),aM,?_,s2,du,rfl⟩;simp only[Builtin.copy_,h0,List.getElem?_toArray,List.getElem?_cons_zero,List.getElem?_cons_succ,Sem.run_bind,CZ,Result.andThen_ok,CM,NM,ev,N6,mn,s1,Sem.run_pure,goInt]
        ·cases ae
       ·cases ae
      ·split at ae
       ·rename_i xid xoff ak6 xcap Bq xex;replace ae:=c' ae;obtain⟨vv,ae⟩:=ae;have abQ:=beq_true.1 (eF vv).1;subst abQ;simp only[kv]at oQ;cases oQ;split at ae
        ·rename_i cs m6;split at ae
         ·rename_i g hw;cases ae;obtain⟨vs,hC,mn⟩:=MO (P:=P) rel tK m6 ab (by omega)
          have cE:cs≠[]:=λe=>by have ar:=(bp.x6 _ _ _ m6).1;have aD:0<(n+1) *ie.size:=Nat.mul_pos (by omega) (dr.1 (eF vv).2);rw[e]at ar;simp only[List.length_nil]at ar;omega
          obtain⟨aM,s1,s2,du⟩:=Eh (P:=P) (E:=E) rel hm cE hw hC;refine⟨.int .i64 ((n+1:Nat) :Int),aM,?_,s2,du,rfl⟩;simp only[Builtin.copy_,h0,List.getElem?_toArray,List.getElem?_cons_zero,List.getElem?_cons_succ,Sem.run_bind,CZ,Result.andThen_ok,CM,NM,ev,mn w rfl,s1,Sem.run_pure,goInt]
         ·cases ae
        ·cases ae
       ·cases ae
     ·cases ae
  ·cases ae
 ·cases ae
theorem alf{zero:List J}{z:Array Value}(aI:bX σ μ zero z.toList)(n:Nat)(cE:zero≠[]) :bX σ μ (iH n zero) (Builtin.zeroCells z n).toList:=K4 aI n cE
theorem WZ(ok:cX P E σ)(rel:c_ σ μ h w.heap){t:TypeId}{x:J}{bg:ag}{kE:Value}{argTypes:Array TypeId}(h0:argTypes[0]? =some t)(rt:TypeId)
  (ae:jh E h t x=some bg) (ab:bk σ μ x kE) :
  ∃aM,(Builtin.clear_ argTypes rt #[kE]).run P w=.ok (.tuple #[]) aM/\da w aM/\dj σ μ h w.heap μ bg aM.heap:=by
 unfold jh at ae;split at ae
 ·cases ae
 ·rename_i i aN;have ut:=gT (P:=P) ok aN w;split at ae
  ·cases ae;have a7:kE=_:=ab;subst a7;exact⟨w,by simp[Builtin.clear_,h0,ut],da.refl _,dj.refl rel⟩
  ·cases ae;have a7:kE=_:=ab;subst a7;exact⟨w,by simp[Builtin.clear_,h0,ut],da.refl _,dj.refl rel⟩
  ·rename_i id off len cap cu ex;obtain⟨loc,ad,jA,hm,a7,kT,mi,hex,cq,nX⟩:=ab;subst a7;split at ae
   ·cases ae;exact⟨w,by simp[Builtin.clear_,h0,ut],da.refl _,dj.refl rel⟩
   ·rename_i n;have rI:=cq (by omega);subst rI;split at ae
    ·rename_i e ao;split at ae
     ·cases ae
     ·rename_i ie eJ;obtain⟨z,aI,_,hJ⟩:=vY (P:=P) ok eJ;have gP:ie.zero.length=ie.size:=(ok.ty _ _ eJ).wH;have r9:z.cells.size=ie.size:=by rw[<-gP,(hJ μ).length,Array.length_toList]
      replace ae:=c' ae;obtain⟨qy,ae⟩:=ae;have GX:=beq_true.1 qy;subst GX;split at ae
      ·rename_i dR r8;replace ae:=c' ae;obtain⟨gO,ae⟩:=ae;have N6:=beq_true.1 gO;obtain⟨aM,s1,s2,du⟩:=wG (P:=P) rel hm ae (vR _);refine⟨aM,?_,s2,du⟩
       have m5:(Builtin.zeroCells z.cells (n+1)).toList=la (n+1) 0:=by
        have abY:z.cells.toList=[.int .u8 0]:=by have:=hJ μ;rw[r8]at this;obtain⟨y,fe,aw,aL,bo⟩:=this;have XJ:y=_:=aL;rw[aw,bX.iF.1 bo,XJ];rfl
        have abZ:z.cells= #[.int .u8 0]:=Array.toList_inj.1 (by rw[abY]);apply List.ext_getElem?;intro j;rw[FA];have Zn:cC 0 j=0:=by simp[hP]
        rw[Zn,abZ];by_cases az:j<n+1
        ·rw[if_pos az];simp[Builtin.zeroCells,az,Nat.mod_one]
        ·rw[if_neg az];simp[Builtin.zeroCells,az]
       simp[Builtin.clear_,h0,ut,ao,aI,m5,s1]
      ·replace ae:=c' ae;obtain⟨aD,ae⟩:=ae;have m8:=dr.1 aD;have cE:ie.zero≠[]:=λe=>by rw[e]at gP;simp at gP;omega
       have ah:=alf (hJ μ) (n+1) cE
       have eK:iH (n+1) ie.zero≠[]:=λe=>by have:=ui ie.zero (n+1);rw[e,gP]at this;have mv:0<(n+1) *ie.size:=Nat.mul_pos (by omega) m8;simp only[List.length_nil]at this;omega
       obtain⟨aM,s1,s2,du⟩:=Eh (P:=P) (E:=E) rel hm eK ae ah;exact⟨aM,by simp[Builtin.clear_,h0,ut,ao,aI,s1],s2,du⟩
    ·cases ae
  ·rename_i id;obtain⟨loc,hm,a7⟩:=ab;subst a7;split at ae
   ·rename_i es clock aE;cases ae;obtain⟨cj,aw,aL,bo⟩:=ze (P:=P) rel hm aE;obtain⟨s1,s2⟩:=D_ (P:=P) rel hm aE (es2:=[]) (clock2:=clock) (cj:= #[]) rfl;exact⟨{w with heap:=w.heap.setIfInBounds loc.b (.map #[] clock)},by simp[Builtin.clear_,h0,ut,bo,s1],⟨rfl,rfl,rfl⟩,s2⟩
   ·cases ae
  ·cases ae
end
section
variable{P:Program}{E:Env}{σ:Nat->Int}{μ:Map}{h:ag}{w:World}{r:bl}{tmps:Array Value}
def Li(P:Program)(σ:Nat->Int)(μ:Map)(h:ag)(w:World)(tmps:Array Value)(o:Oper) :nC->Prop
 | .value v bg=>∃q aM bu,(execOp (e1 tmps) o).run P w=.ok (.value q) aM/\da w aM/\dj σ μ h w.heap bu bg aM.heap/\bk σ bu v q
 | .skip bg=>∃aM bu,(execOp (e1 tmps) o).run P w=.ok .skip aM/\da w aM/\dj σ μ h w.heap bu bg aM.heap
 | .call f args=>∃u us,bk σ μ f u/\bX σ μ args us.toList/\execOp (e1 tmps) o=(do let d<-Deferred.ofValue u us;invoke d.target d.args)
 | .bad=>True
theorem Vs(ok:cX P E σ)(rel:c_ σ μ h w.heap)(aE:jT E μ)(ah:∀i,bk σ μ (r.get i) (tmps.getD i undef))(o:Oper) :
  Li P σ μ h w tmps o (mU E r h o.op):=by
 have O:∀{x:Operand} {v:J},dk E r x=some v->bk σ μ v (e1 tmps x):=λe=>sx aE ah e
 obtain⟨dst,op,ty,pos,after,guard⟩:=o;cases op<;>simp only[mU]<;>try trivial
 case store t a x=>
  split
  ·rename_i id off v aU ab;cases au:storeT E h t id off v with
   |none=>trivial
   |some bg=>
    obtain⟨loc,hm,e⟩:=O aU;obtain⟨aM,h1,aa,av⟩:=aiR (P:=P) ok rel hm au (O ab);exact⟨aM,μ,by simp[execOp,Instr.storeAt,Instr.sureAddr,e,h1],aa,av⟩
  ·trivial
 case mapUpdate t m k x=>
  split
  ·rename_i fE dg cn h1 aa av;cases au:iE E h t fE dg cn with
   |none=>trivial
   |some bg=>
    obtain⟨aM,aw,aL,bo⟩:=Pt (P:=P) ok rel au (O h1) (O aa) (O av);exact⟨aM,μ,by simp[execOp,aw],aL,bo⟩
  ·trivial
 case insert t m k x=>
  split
  ·rename_i fE dg cn h1 aa av;cases au:iE E h t fE dg cn with
   |none=>trivial
   |some bg=>
    obtain⟨aM,aw,aL,bo⟩:=Pt (P:=P) ok rel au (O h1) (O aa) (O av);exact⟨aM,μ,by simp[execOp,aw],aL,bo⟩
  ·trivial
 case call c=>
  obtain⟨callee,args,argTypes⟩:=c
  have BG:∀{x:J},kp E r args.toList=some [x]->∃u,args.map (e1 tmps)= #[u]/\bk σ μ x u:=by intro x ab;obtain⟨u,us,e,hI,pX⟩:=sy (σ:=σ) aE ah ab;rw[bX.iF.1 pX]at e;refine⟨u,?_,hI⟩;apply Array.toList_inj.1;rw[Array.toList_map,e]
  have Ft:∀{x y:J},kp E r args.toList=some [x,y]->∃u v,args.map (e1 tmps)= #[u,v]/\bk σ μ x u/\bk σ μ y v:=by intro x y ab;obtain⟨u,us,e,hI,v,vs,aL,rv,pX⟩:=sy (σ:=σ) aE ah ab;rw[bX.iF.1 pX]at aL;refine⟨u,v,?_,hI,rv⟩;apply Array.toList_inj.1;rw[Array.toList_map,e,aL]
  cases callee with
  |builtin b=>
   simp only;split
   ·rename_i s x aU;split
    ·rename_i t u h0 h1;cases au:fJ E h t u s x with
     |none=>trivial
     |some p=>
      obtain⟨v,bg⟩:=p;obtain⟨us,kE,e,cg,cK⟩:=Ft aU;obtain⟨q,aM,bu,aw,aL,bo,eh⟩:=VC (P:=P) ok rel h0 h1 ty au cg cK;exact⟨q,aM,bu,by simp[execOp,resolve,invoke,builtin,e,aw],aL,bo,eh⟩
    ·trivial
   ·rename_i d x aU;split
    ·rename_i t h0;cases au:jB E h t d x with
     |none=>trivial
     |some p=>
      obtain⟨v,bg⟩:=p;obtain⟨us,kE,e,cg,cK⟩:=Ft aU;obtain⟨q,aM,aw,aL,bo,eh⟩:=Xc (P:=P) ok rel h0 ty au cg cK;exact⟨q,aM,μ,by simp[execOp,resolve,invoke,builtin,e,aw],aL,bo,eh⟩
    ·trivial
   ·rename_i x aU;split
    ·rename_i t h0;cases au:jh E h t x with
     |none=>trivial
     |some bg=>
      obtain⟨kE,e,cg⟩:=BG aU;obtain⟨aM,aw,aL,bo⟩:=WZ (P:=P) ok rel h0 ty au cg;exact⟨.tuple #[],aM,μ,by simp[execOp,resolve,invoke,builtin,e,aw],aL,bo,rfl⟩
    ·trivial
   ·rename_i m k aU;split
    ·rename_i t h0;cases au:kn E h t m k with
     |none=>trivial
     |some bg=>
      obtain⟨us,kE,e,cg,cK⟩:=Ft aU;obtain⟨aM,aw,aL,bo⟩:=Xw (P:=P) ok rel argTypes h0 ty au cg cK;exact⟨.tuple #[],aM,μ,by simp[execOp,resolve,invoke,builtin,e,aw],aL,bo,rfl⟩
    ·trivial
   ·trivial
  |value f=>
   simp only;split
   ·rename_i fo ck aB aU;exact⟨e1 tmps f,args.map (e1 tmps),O aB,by rw[Array.toList_map];exact sy (σ:=σ) aE ah aU,by simp[execOp,resolve]⟩
   ·trivial
  |invoke _ _=>trivial
theorem agn(ok:cX P E σ)(rel:c_ σ μ h w.heap)(aE:jT E μ)(ah:∀i,bk σ μ (r.get i) (tmps.getD i undef))(o:Oper) :
  Li P σ μ h w tmps o (ih E r h o.op):=by
 unfold ih;split
 ·cases ar:ep E r h o.op with
  |none=>trivial
  |some v=>
   obtain⟨q,h1,aa⟩:=aeS (P:=P) ok rel aE ah ar;exact⟨q,w,μ,h1,da.refl _,dj.refl rel,aa⟩
 ·cases al:jq E r o.op with
  |none=>trivial
  |some p=>
   obtain⟨v,bP⟩:=p;obtain⟨x,obj,room,aM,h1,aa,av,aO⟩:=PC (P:=P) ok aE ah al w;have ab:=aO (μ.aq h.next ⟨w.heap.size,0,room⟩) h.next (Map.pj _ _ (rel.gv _ (Nat.le_refl _))) (Map.hb _ _ _);exact⟨x,aM,_,h1,av,by rw[aa];exact rel.new ab.2,ab.1⟩
 ·exact Vs ok rel aE ah o
end
def s'(μ:Map) :List Nat->List Deferred->Prop
 |[],ds=>ds=[]
 |d::ids,ds=>∃loc w2,ds={target:=.collected loc.b,args:= #[]}::w2/\μ d=some loc/\s' μ ids w2
theorem s'.ext{μ bu:Map}(h:Ext μ bu) :∀{ids:List Nat} {ds:List Deferred},s' μ ids ds->s' bu ids ds
 |[],_,r=>r
 |d::ids,_,⟨loc,w2,e,hm,r⟩=>⟨loc,w2,e,h _ _ hm,s'.ext h r⟩
theorem jT.ext{E:Env}{μ bu:Map}(h:Ext μ bu)(aE:jT E μ) :jT E bu:=λg ar=>let⟨room,e⟩:=aE g ar;⟨room,h _ _ e⟩
structure jy(E:Env)(σ:Nat->Int)(μ:Map)(s:cl)(a:Act)(w:World) :Prop where
 g:jT E μ
 h:c_ σ μ s.h w.heap
 r:kJ σ μ s.n s.r a.tmps
 d:s' μ s.ds a.defers
def p7(μ:Map)(ro:Option Nat)(b:Frame) :Prop:=
 match ro with
 |none=>b.roundOf=none
 |some l=>∃loc,μ l=some loc/\b.roundOf=some loc.b
theorem p7.ext{μ bu:Map}(h:Ext μ bu){ro:Option Nat}{b:Frame}(r:p7 μ ro b) :p7 bu ro b:=by
 cases ro with
 |none=>exact r
 |some l=>obtain⟨loc,h1,aa⟩:=r;exact⟨loc,h _ _ h1,aa⟩
def s9(P:Program)(m:Machine)(b:Frame)(k:List Item)(cs:List Frame)(a:Act)(w:World) :cW->Prop
 | .normal=>Steps P m (lone (b.atR a k) cs w)
 | .exit id=>∃k₁,exitTo id k₁=exitTo id k/\Steps P m (lone (b.atR a (.code (.exit id)::k₁)) cs w)
 | .goto l=>∃k₁,gotoIn l k₁=gotoIn l k/\Steps P m (lone (b.atR a (.code (.goto l)::k₁)) cs w)
 | .ret=>∃k₁,Steps P m (lone (b.atR a (.code .ret::k₁)) cs w)
theorem s9.of_steps{P:Program}{m fE:Machine}{b:Frame}{k:List Item}{cs:List Frame}{a:Act}{w:World}{x:cW}(h:Steps P m fE)(r:s9 P fE b k cs a w x) :s9 P m b k cs a w x:=by
 cases x with
 |normal=>exact h.trans r
 |exit id=>obtain⟨k₁,e,r⟩:=r;exact⟨k₁,e,h.trans r⟩
 |goto l=>obtain⟨k₁,e,r⟩:=r;exact⟨k₁,e,h.trans r⟩
 |ret=>obtain⟨k₁,r⟩:=r;exact⟨k₁,h.trans r⟩
def Ends(P:Program)(E:Env)(σ:Nat->Int)(b:Frame)(μ:Map)(h:ag)(w:World)(m:Machine)(k:List Item)(cs:List Frame)(x:cW)(aS:cl) :Prop:=
 ∃bu aM eI,dj σ μ h w.heap bu aS.h aM.heap/\da w aM/\jy E σ bu aS eI aM/\s9 P m b k cs eI aM x
theorem Ends.of_steps{P:Program}{E:Env}{σ:Nat->Int}{b:Frame}{μ:Map}{h:ag}{w:World}{m fE:Machine}{k:List Item}{cs:List Frame}{x:cW}{aS:cl}
  (au:Steps P m fE) (r:Ends P E σ b μ h w fE k cs x aS) :Ends P E σ b μ h w m k cs x aS:=by
 obtain⟨bu,aM,eI,h1,aa,av,aO⟩:=r;exact⟨bu,aM,eI,h1,aa,av,aO.of_steps au⟩
theorem Ends.after{P:Program}{E:Env}{σ:Nat->Int}{b:Frame}{μ U5:Map}{h Oj:ag}{w w₁:World}{m m₁:Machine}{k:List Item}{cs:List Frame}{x:cW}{aS:cl}
  (hm:dj σ μ h w.heap U5 Oj w₁.heap) (av:da w w₁) (au:Steps P m m₁) (r:Ends P E σ b U5 Oj w₁ m₁ k cs x aS) :Ends P E σ b μ h w m k cs x aS:=by
 obtain⟨bu,aM,eI,aw,aL,bo,eh⟩:=r;exact⟨bu,aM,eI,hm.trans aw,av.trans aL,bo,eh.of_steps au⟩
abbrev inv(u:Value)(us:Array Value) :Sem Next:=do let d<-Deferred.ofValue u us;invoke d.target d.args
def s_(P:Program)(σ:Nat->Int)(μ:Map)(h:ag)(w:World)(u:Value)(us:Array Value)(v:J)(bg:ag) :Prop:=
 (∃f args,(inv u us).run P w=.ok (.enter f args) w/\∀cs,∃fr q aM bu,Steps P (lone (Frame.enter P f args .normal) cs w) (lone fr cs aM)/\fr.fn=f/\fr.leaving P aM (.returned q)/\
   da w aM/\dj σ μ h w.heap bu bg aM.heap/\bk σ bu v q)\/
 (∃l f tmps assign body,(inv u us).run P w=.ok (.round l f tmps assign body) w/\∀c cs,∃q aM bu,Steps P (lone (Frame.round l f tmps assign body .normal) (c::cs) w) (lone (c.finish q) cs aM)/\
   da w aM/\dj σ μ h w.heap bu bg aM.heap/\bk σ bu v q)\/
 (∃q aM bu,(inv u us).run P w=.ok (.value q) aM/\da w aM/\dj σ μ h w.heap bu bg aM.heap/\bk σ bu v q)
structure kf(P:Program)(E:Env)(σ:Nat->Int)(F:ff) :Prop where
 code:∀ro c s x aS,F.code ro c s=some (x,aS)->∀μ w a b k cs,jy E σ μ s a w->p7 μ ro b->Ends P E σ b μ s.h w (lone (b.atR a (.code c::k)) cs w) k cs x aS
 call:∀f args h v bg,F.call f args h=some (v,bg)->∀μ w u us,jT E μ->c_ σ μ h w.heap->bk σ μ f u->bX σ μ args us.toList->s_ P σ μ h w u us v bg
section
variable{P:Program}{E:Env}{σ:Nat->Int}{μ:Map}{h bg:ag}{w:World}
def zg(fr:Frame)(cs:List Frame)(w:World) :GStep:=.go {frame:=fr,callers:=cs,status:=.running,dying:=none} w
theorem LW{u:Value}{us:Array Value}{v:J}(aA:s_ P σ μ h w u us v bg)(fr:Frame)(cs:List Frame)
  (aj:(∃ops l k,fr.todo=.inRegion ops l::k)\/∃l k,fr.todo=.inRangeFunc l::k) :
  ∃q aM bu,da w aM/\dj σ μ h w.heap bu bg aM.heap/\bk σ bu v q/\
   ∀m,(∀qo j0 wC,(stepG.apply P true fr cs none (inv u us) w).bare=zg qo j0 wC->step P m=.next (lone qo j0 wC))->Steps P m (lone (fr.finish q) cs aM):=by
 rcases aA with⟨f,args,ah,rW⟩ |⟨l,f,tmps,assign,body,ah,rW⟩ |⟨q,aM,bu,ah,av,hm,ae⟩
 ·obtain⟨alN,q,aM,bu,au,j4,ar,av,hm,ae⟩:=rW (fr::cs);refine⟨q,aM,bu,av,hm,ae,λm my=> ?_⟩
  have:=my (Frame.enter P f args .normal) (fr::cs) w (by
   rcases aj with⟨ops,l,k,e⟩ |⟨l,k,e⟩<;>simp[stepG.apply,ah,e,zg])
  exact .head this (au.trans (.one (step_leave_returned ar)))
 ·obtain⟨q,aM,bu,au,av,hm,ae⟩:=rW fr cs;refine⟨q,aM,bu,av,hm,ae,λm my=> ?_⟩
  have:=my (Frame.round l f tmps assign body .normal) (fr::cs) w (by
   rcases aj with⟨ops,l,k,e⟩ |⟨l,k,e⟩<;>simp[stepG.apply,ah,e,zg])
  exact .head this au
 ·refine⟨q,aM,bu,av,hm,ae,λm my=> ?_⟩
  exact .one (my (fr.finish q) cs aM (by
   rcases aj with⟨ops,l,k,e⟩ |⟨l,k,e⟩<;>simp[stepG.apply,ah,e,zg]))
theorem kJ.put{n:Nat}{r:bl}{tmps:Array Value}{d:Nat}{v:J}{q:Value}(ah:kJ σ μ n r tmps)(ao:d<n)(ae:bk σ μ v q) :kJ σ μ n (r.set d v) (tmps.setIfInBounds d q):=by
 refine⟨by simpa using ah.1,λi=> ?_⟩;by_cases e:i=d
 ·subst e;have h1:bl.get (bj.set r i v) i=v:=by simp[bl.get,bj.kq]
  have aa:(tmps.setIfInBounds i q).getD i undef=q:=by
   have:i<tmps.size:=by rw[ah.1];exact ao
   simp[this]
  rw[h1,aa];exact ae
 ·have h1:bl.get (bj.set r d v) i=bl.get r i:=by simp[bl.get,bj.kq,e]
  have aa:(tmps.setIfInBounds d q).getD i undef=tmps.getD i undef:=by simp[Array.getElem?_setIfInBounds_ne (Ne.symm e)]
  rw[h1,aa];exact ah.2 i
theorem Ea{s aS:cl}{a:Act}{d:Option Tmp}{v:J}{q:Value}{bg:ag}{aM:World}{bu:Map}(au:om s d v bg=some aS)(rel:jy E σ μ s a w)
  (hm:dj σ μ s.h w.heap bu bg aM.heap) (ae:bk σ bu v q) :jy E σ bu aS (a.put d q) aM/\aS.h=bg:=by
 unfold om at au;cases d with
 |none=>
  cases au;exact⟨⟨rel.g.ext hm.ext,hm.rel,rel.r.ext hm.ext,rel.d.ext hm.ext⟩,rfl⟩
 |some d=>
  simp only at au;replace au:=c' au;obtain⟨af,au⟩:=au;cases au;exact⟨⟨rel.g.ext hm.ext,hm.rel,(rel.r.ext hm.ext).put (c4.1 af) ae,rel.d.ext hm.ext⟩,rfl⟩
theorem Wf{v:J}{b:Bool} :bk σ μ v (.bool b)↔v=.bool b:=by
 constructor
 ·intro ae
  cases v<;>first
   |(have e:Value.bool b=_:=ae;cases e;rfl;done)
   |(have e:Value.bool b=_:=ae;cases e;done)
   |(have e:=ae.2;cases e;done)
   |(obtain⟨_,_,e⟩:=ae;cases e;done)
   |(obtain⟨_,e,_⟩:=ae;cases e;done)
   |(obtain⟨_,_,e,_⟩:=ae;cases e;done)
   |(obtain⟨_,_,_,_,e,_⟩:=ae;cases e;done)
 ·rintro rfl;rfl
theorem M8{n:Nat}{r:bl}{tmps:Array Value}(ah:kJ σ μ n r tmps)(ops:Array Oper)(o:Oper) :Region.wanted o (yielded ops tmps)=gB ops r o:=by
 unfold Region.wanted gB;cases aE:o.guard with
 |none=>rfl
 |some HT=>
  obtain⟨j,want⟩:=HT;simp only;unfold yielded;cases az:ops[j]? with
  |none=>rfl
  |some g=>
   simp only[Option.bind_some];cases ao:g.dst with
   |none=>rfl
   |some d=>
    simp only[Option.bind_some];have ae:=ah.2 d;cases aN:tmps[d]? with
    |none=>
     have e:tmps.getD d undef=undef:=by simp[aN]
     rw[e]at ae;generalize h_:r.get d=x at ae;have:∀b,x≠.bool b:=λb e=>by subst e;have:undef=Value.bool b:=ae;cases this
     cases x<;>first|rfl|exact absurd rfl (this _)
    |some y=>
     have e:tmps.getD d undef=y:=by simp[aN]
     rw[e]at ae;by_cases af:∃b,y=.bool b
     ·obtain⟨b,rfl⟩:=af;rw[Wf.1 ae];rfl
     ·have h1:∀b,r.get d≠.bool b:=λb e=>af ⟨b,by rw[e]at ae;exact ae⟩
      have aa:∀b,y≠.bool b:=λb e=>af ⟨b,e⟩
      generalize r.get d=x at h1;have l:∀z:Option Bool,z=none->(z==some want)=false:=λz aI=>by rw[aI];rfl
      cases x<;>first
       |exact absurd rfl (h1 _)
       |(refine l _ ?_;cases y<;>first|rfl|exact absurd rfl (aa _))
theorem y9(b:Frame)(a:Act) :a.eval=e1 a.tmps:=by funext x;cases x<;>rfl
theorem agm{r:bl}{o:Oper}{c:Call}(aY:o.op=.defer c) :ih E r h o.op=.bad:=by rw[aY];rfl
theorem Qj{F:ff}(ok:cX P E σ)(dE:kf P E σ F){ops:Array Oper}{i:Nat}{rest:List Nat}{o:Oper}(U:ops[i]? =some o){s aS:cl}(au:js E F ops o s=some aS)
  {a:Act} (rel:jy E σ μ s a w) (b:Frame) (k:List Item) (cs:List Frame) :
  ∃bu aM eI,dj σ μ s.h w.heap bu aS.h aM.heap/\da w aM/\jy E σ bu aS eI aM/\
   Steps P (lone (b.atR a (.inRegion ops (i::rest)::k)) cs w) (lone (b.atR eI (.inRegion ops rest::k)) cs aM):=by
 unfold js at au;have Nw:=M8 rel.r ops o;split at au
 ·rename_i aE;obtain⟨ah,he⟩:=Ea (q:=undef) au rel (dj.refl rel.h) rfl;refine⟨μ,w,a.put o.dst undef,by rw[he];exact dj.refl rel.h,da.refl _,ah,?_⟩;have:=stepR_op_skip (P:=P) (b:=b) (a:=a) (k:=k) (cs:=cs) (w:=w) (ops:=ops) (i:=i) (rest:=rest) (by rw[U];simp[Nw,aE]);rw[U]at this;exact .one this
 ·rename_i aE;have mu:=agn (P:=P) (w:=w) ok rel.h rel.g rel.r.2 o;have cL:∀c,o.op≠.defer c:=λc aA=>by rw[agm aA]at au;cases au
  have hw:Region.wanted o (yielded ops a.tmps)=true:=by rw[Nw,aE]
  have vq:=stepGR_op (P:=P) (b:=b) (k:=k) (cs:=cs) (w:=w) (rest:=rest) U hw;rw[Oper.semAt_eq _ _ _ cL,y9 b a]at vq
  have nR:∀v,(b.atR a (.inRegion ops (i::rest)::k)).finish v=b.atR (a.put o.dst v) (.inRegion ops rest::k):=by intro v;rw[Frame.finish_atR,U];rfl
  split at au
  ·rename_i v h1 heq;rw[heq]at mu;obtain⟨q,aM,bu,aw,aL,bo,eh⟩:=mu;obtain⟨ah,he⟩:=Ea au rel bo eh;refine⟨bu,aM,a.put o.dst q,by rw[he];exact bo,aL,ah,.one (step_lone_go ?_)⟩;rw[vq,<-nR];simp[stepG.apply,aw]
  ·rename_i h1 heq;rw[heq]at mu;obtain⟨aM,bu,aw,aL,bo⟩:=mu;obtain⟨ah,he⟩:=Ea (q:=undef) au rel bo rfl;refine⟨bu,aM,a.put o.dst undef,by rw[he];exact bo,aL,ah,.one (step_lone_go ?_)⟩;rw[vq,<-nR];simp[stepG.apply,aw]
  ·rename_i f args heq;rw[heq]at mu;obtain⟨u,us,aw,aL,bo⟩:=mu;split at au
   ·rename_i v h1 rW;have aA:=dE.call _ _ _ _ _ rW μ w u us rel.g rel.h aw aL;obtain⟨q,aM,bu,bc,bW,dA,e5⟩:=LW aA (b.atR a (.inRegion ops (i::rest)::k)) cs (.inl ⟨_,_,_,rfl⟩);obtain⟨ah,he⟩:=Ea au rel bW dA;refine⟨bu,aM,a.put o.dst q,by rw[he];exact bW,bc,ah,?_⟩;rw[<-nR];refine e5 _ λqo j0 wC hT=>step_lone_go ?_
    rw[vq,bo];exact hT
   ·cases au
  ·cases au
end
section
variable{P:Program}{E:Env}{σ:Nat->Int}{μ:Map}{h bg:ag}{w:World}
def E_(P:Program)(E:Env)(σ:Nat->Int)(F:ff) :Prop:=
 ∀ops s aS,rJ E F ops s=some aS->∀μ w a (b:Frame) id k cs,jy E σ μ s a w->Ends P E σ b μ s.h w (lone (b.atR a (.code (.region id ops true)::k)) cs w) k cs .normal aS
theorem Ql{F:ff}(ok:cX P E σ)(dE:kf P E σ F){ops:Array Oper}(b:Frame)(k:List Item)(cs:List Frame) :
  ∀(l:List Oper) (i:Nat) (s aS:cl),ops.toList.drop i=l->ll E F ops l s=some aS->∀μ w a,jy E σ μ s a w->
   Ends P E σ b μ s.h w (lone (b.atR a (.inRegion ops (List.range' i l.length)::k)) cs w) k cs .normal aS
 |[],i,s,aS,ar,he,μ,w,a,rel=>by simp only[ll]at he;cases he;exact⟨μ,w,a,dj.refl rel.h,da.refl _,rel,.one stepR_region_end⟩
 |o::rest,i,s,aS,ar,he,μ,w,a,rel=>by
  simp only[ll]at he;split at he
  ·rename_i s1 h1
   have U:ops[i]? =some o:=by
    have:(ops.toList.drop i)[0]? =some o:=by rw[ar];rfl
    simpa using this
   have ao:ops.toList.drop (i+1)=rest:=by
    have:(ops.toList.drop i).drop 1=rest:=by rw[ar];rfl
    simpa [List.drop_drop]using this
   obtain⟨bu,aM,eI,cA,cM,dt,dK⟩:=Qj ok dE U h1 rel b k cs (rest:=List.range' (i+1) rest.length);have:=Ql ok dE b k cs rest (i+1) s1 aS ao he bu aM eI dt;exact this.after cA cM dK
  ·cases he
theorem ahB{F:ff}(ok:cX P E σ)(dE:kf P E σ F){ops:Array Oper}(b:Frame)(k:List Item)(cs:List Frame){s aS:cl}(he:ll E F ops ops.toList s=some aS)
  {a:Act} (rel:jy E σ μ s a w) (id:Nat) :Ends P E σ b μ s.h w (lone (b.atR a (.code (.region id ops false)::k)) cs w) k cs .normal aS:=by
 have:=Ql ok dE b k cs ops.toList 0 s aS rfl he μ w a rel;rw[Array.length_toList,<-List.range_eq_range']at this;exact this.of_steps (.one stepR_region)
theorem aiQ{b:Frame}{a:Act}{k:List Item}{cs:List Frame}{c:Code} :
  step P (lone (b.atR a (.code (.scope c)::k)) cs w)=.next (lone (b.atR a (.code c:: .inScope c::k)) cs w):=
 step_lone_go (by simp[stepG,stepG.exec,Frame.atR])
theorem aiN{b:Frame}{a:Act}{k:List Item}{cs:List Frame}{c:Code} :
  step P (lone (b.atR a (.inScope c::k)) cs w)=.next (lone (b.atR a k) cs w):=
 step_lone_go (by simp[stepG,stepG.exec,Frame.atR])
theorem s9.pass{b:Frame}{m:Machine}{y:Item}{k:List Item}{cs:List Frame}{a:Act}{x:cW}(an:y.plain=true)(ab:x≠.normal)(r:s9 P m b (y::k) cs a w x) :s9 P m b k cs a w x:=by
 cases x with
 |normal=>exact absurd rfl ab
 |exit id=>obtain⟨k₁,e,r⟩:=r;exact⟨k₁,e.trans (by cases y<;>simp_all [exitTo,Item.plain]),r⟩
 |goto l=>obtain⟨k₁,e,r⟩:=r;exact⟨k₁,e.trans (by cases y<;>simp_all [gotoIn,Item.plain]),r⟩
 |ret=>exact r
theorem Dt{F:ff}(dE:kf P E σ F)(ro:Option Nat)(b:Frame)(body:Code)(k:List Item)(cs:List Frame) :
  ∀(n:Nat) (s aS:cl) (x:cW),n' n (F.code ro body) s=some (x,aS)->∀μ w a,jy E σ μ s a w->p7 μ ro b->
   ∃bu aM eI,dj σ μ s.h w.heap bu aS.h aM.heap/\da w aM/\jy E σ bu aS eI aM/\
    (x=.normal->Steps P (lone (b.atR a (.code body:: .inLoop body::k)) cs w) (lone (b.atR eI (.code body:: .inLoop body::k)) cs aM))/\
    (x≠.normal->s9 P (lone (b.atR a (.code body:: .inLoop body::k)) cs w) b k cs eI aM x)
 |0,s,aS,x,he,μ,w,a,rel,sH=>by obtain⟨bu,aM,eI,cA,cM,dt,dK⟩:=dE.code _ _ _ _ _ he μ w a b (.inLoop body::k) cs rel sH;refine⟨bu,aM,eI,cA,cM,dt,λab=> ?_,λab=>dK.pass rfl ab⟩;subst ab;exact Steps.trans dK (.one stepR_inLoop)
 |n+1,s,aS,x,he,μ,w,a,rel,sH=>by
  simp only[n']at he;split at he
  ·rename_i s1 h1;obtain⟨gw,bV,aQ,cA,cM,dt,dK,_⟩:=Dt dE ro b body k cs n s s1 .normal h1 μ w a rel sH;obtain⟨K6,dV,a2,dF,dS,eH,gb,n5⟩:=Dt dE ro b body k cs n s1 aS x he gw bV aQ dt (sH.ext cA.ext);exact⟨K6,dV,a2,cA.trans dF,cM.trans dS,eH,λab=>(dK rfl).trans (gb ab),λab=>(n5 ab).of_steps (dK rfl)⟩
  ·rename_i cE;obtain⟨gw,bV,aQ,cA,cM,dt,dK,Ii⟩:=Dt dE ro b body k cs n s aS x he μ w a rel sH;exact⟨gw,bV,aQ,cA,cM,dt,dK,Ii⟩
theorem Rp{F:ff}(dE:kf P E σ F)(ro:Option Nat)(b:Frame)(body:Code)(k:List Item)(cs:List Frame) :
  ∀(n:Nat) (c:Code) (s aS:cl) (x:cW),ur F ro body n c s=some (x,aS)->∀μ w a,jy E σ μ s a w->p7 μ ro b->
   Ends P E σ b μ s.h w (lone (b.atR a (.code c:: .inScope body::k)) cs w) k cs x aS
 |0,c,s,aS,x,he,_,_,_,_,_=>by cases he
 |n+1,c,s,aS,x,he,μ,w,a,rel,sH=>by
  simp only[ur]at he;split at he
  ·rename_i l s1 h1;obtain⟨gw,bV,aQ,cA,cM,dt,k₁,e,dK⟩:=dE.code _ _ _ _ _ h1 μ w a b (.inScope body::k) cs rel sH;split at he
   ·rename_i rest aB;have:=Rp dE ro b body k cs n rest s1 aS x he gw bV aQ dt (sH.ext cA.ext);refine this.after cA cM (dK.trans (.one (stepR_goto ?_)));rw[e];simp[gotoIn,aB]
   ·rename_i aB;cases he;refine⟨gw,bV,aQ,cA,cM,dt,k₁,?_,dK⟩;rw[e];simp[gotoIn,aB]
  ·rename_i cE;obtain⟨gw,bV,aQ,cA,cM,dt,dK⟩:=dE.code _ _ _ _ _ he μ w a b (.inScope body::k) cs rel sH;refine⟨gw,bV,aQ,cA,cM,dt,?_⟩;cases x with
   |normal=>exact Steps.trans dK (.one aiN)
   |exit id=>obtain⟨k₁,e,dK⟩:=dK;exact⟨k₁,e.trans (by simp[exitTo]),dK⟩
   |goto l=>exact absurd he (cE l aS)
   |ret=>exact dK
def PI:Obj->Bool
 | .cells .. =>false
 |_=>true
theorem xc{b:Nat}{x:Obj}(ab:w.heap[b]? =some x)(al:PI x=true) :(getObj b).run P w=.ok x w:=by cases x<;>first|(cases al;done) |simp[getObj,Sem.run,ab]
theorem DU(rel:c_ σ μ h w.heap){id:Nat}{loc:Loc}{o bL:bp}{x:Obj}(hm:μ id=some loc)(aY:h.get id=o)(ar:o.live=true)(ah:fg σ μ bL loc (some x)){y:Obj}(an:w.heap[loc.b]? =some y)(al:PI y=true) :
  (setObj loc.b x).run P w=.ok () {w with heap:=w.heap.setIfInBounds loc.b x}/\dj σ μ h w.heap μ (h.put id bL) (w.heap.setIfInBounds loc.b x):=by
 have bK:=rel.lt id loc hm;have cL:h.get id≠.dead:=λe=>by rw[aY]at e;rw[e]at ar;cases ar
 refine⟨by cases y<;>first|(cases al;done) |simp[setObj,Sem.run,an],rel.put hm (ag.lT cL) (by rw[aY];exact ar) (by simp) (λb af=>by rw[Array.getElem?_setIfInBounds_ne (Ne.symm af)]) ?_⟩;rw[Array.getElem?_setIfInBounds_self,if_pos bK];exact ah
theorem Ai(rel:c_ σ μ h w.heap){id:Nat}{loc:Loc}{st:LoopState}{pend:Option Code}{n:Nat}{r:bl}{params:Array Tmp}{assign body:Code}{d:Nat}(hm:μ id=some loc)
  (aE:h.get id=.loop st pend n r params assign body d) :
  ∃fn tmps mC,w.heap[loc.b]? =some (.loop {state:=st,pending:=pend,fn,tmps,params,assign,body,defers:=mC.b})/\μ d=some mC/\kJ σ μ n r tmps:=by
 have:=rel.obj id loc _ hm (ag.lT (by rw[aE];simp));rw[aE]at this;exact this
theorem aiP{b:Frame}{a:Act}{k:List Item}{cs:List Frame}{g:Operand}{ps:Array Tmp}{assign body:Code}{l:Nat}{mark:List Deferred}{w₁:World}{qo:Frame}{j0:List Frame}{wC:World}
  (he:(Instr.enterLoop b.fn a.tmps ps assign body b.roundOf).run P w=.ok (l,mark) w₁)
  (hT:(stepG.apply P true (b.atR {a with defers:=mark++a.defers} (.inRangeFunc l::k)) cs none (inv (e1 a.tmps g) #[.func (.yield l) #[] #[]]) w₁).bare=zg qo j0 wC) :
  step P (lone (b.atR a (.code (.rangeFunc g ps assign body)::k)) cs w)=.next (lone qo j0 wC):=
 step_lone_go (by
  have r1:=Frame.eval_atR b {a with defers:=mark++a.defers} (.inRangeFunc l::k);have Z3:({a with defers:=mark++a.defers} :Act).eval=e1 a.tmps:=y9 b _;rw[Z3]at r1;simp only[Frame.atR]at r1 hT|-
  have e:(do let d<-resolve (e1 a.tmps) {callee:=.value g,args:= #[.const (.func (.yield l) #[] #[])],argTypes:= #[]} 0;invoke d.target d.args:Sem Next)=inv (e1 a.tmps g) #[.func (.yield l) #[] #[]]:=by simp[resolve,inv,e1]
  simp only[stepG,stepG.exec,Sem.runT_eq,he,GStep.bare_after,r1,e]
  exact hT)
theorem Yo{b:Frame}{a:Act}{k:List Item}(l:Nat)(v:Value) :(b.atR a (.inRangeFunc l::k)).finish v=b.atR a (.endRangeFunc l::k):=by simp[Frame.finish,Frame.atR]
theorem aiO{b:Frame}{a:Act}{k:List Item}{cs:List Frame}{l:Nat}{jump:Option Code}{aM:World}(ab:(Instr.endLoop l).run P w=.ok jump aM) :
  step P (lone (b.atR a (.endRangeFunc l::k)) cs w)=.next (lone (b.atR a ((jump.map Item.code).toList++k)) cs aM):=
 step_lone_go (by simp[stepG,stepG.exec,Frame.atR,Sem.runT_eq,ab,GStep.bare_after])
theorem QK{F:ff}(dE:kf P E σ F){ro:Option Nat}{f:Operand}{params:Array Tmp}{assign body:Code}{s aS:cl}{x:cW}{fv:J}{d:Nat}{mC:Loc}(b:Frame)(k:List Item)(cs:List Frame)
  {a:Act} {mark:List Deferred} {gL:World} (rel:jy E σ μ s {a with defers:=mark++a.defers} w) (iA:p7 μ ro b) (ao:μ d=some mC) (aB:bk σ μ fv (e1 a.tmps f))
  (j3:(Instr.enterLoop b.fn a.tmps params assign body b.roundOf).run P gL=
    .ok (w.heap.size,mark) {w with heap:=w.heap.push (.loop {state:=.ready,pending:=none,fn:=b.fn,tmps:=a.tmps,params,assign,body,defers:=mC.b})})
  (he:ue F ro fv params assign body d s=some (x,aS)) :
  Ends P E σ b μ s.h w (lone (b.atR a (.code (.rangeFunc f params assign body)::k)) cs gL) k cs x aS:=by
 generalize Ob:({w with heap:=w.heap.push (.loop {state:=.ready,pending:=none,fn:=b.fn,tmps:=a.tmps,params,assign,body,defers:=mC.b})} :World)=wl at j3
 have fw:dj σ μ s.h w.heap (μ.aq s.h.next ⟨w.heap.size,0,0⟩) (s.h.new (.loop .ready none s.n s.r params assign body d)) wl.heap:=by rw[<-Ob];have h7:=Map.pj μ ⟨w.heap.size,0,0⟩ (rel.h.gv s.h.next (Nat.le_refl _));exact rel.h.new ⟨b.fn,a.tmps,mC,rfl,h7 _ _ ao,rel.r.ext h7⟩
 have ar:(μ.aq s.h.next ⟨w.heap.size,0,0⟩) s.h.next=some ⟨w.heap.size,0,0⟩:=Map.hb _ _ _;have xB:da w wl:=by rw[<-Ob];exact⟨rfl,rfl,rfl⟩
 generalize μ.aq s.h.next ⟨w.heap.size,0,0⟩=alg at fw ar;unfold ue at he;split at he
 ·cases he
 ·rename_i v0 h1 rW;have aA:=dE.call _ _ _ _ _ rW alg wl (e1 a.tmps f) #[.func (.yield w.heap.size) #[] #[]] (rel.g.ext fw.ext) fw.rel (bk.ext fw.ext _ _ aB) ⟨_,_,rfl,⟨_,ar,rfl⟩,rfl⟩;obtain⟨q,bV,gw,bc,bW,dA,e5⟩:=LW aA (b.atR {a with defers:=mark++a.defers} (.inRangeFunc w.heap.size::k)) cs (.inr ⟨_,_,rfl⟩);have dy:=e5 (lone (b.atR a (.code (.rangeFunc f params assign body)::k)) cs gL) λqo j0 wC hT=>aiP j3 hT
  rw[Yo]at dy;split at he
  ·rename_i st pend n r ps ck rz eC aE;obtain⟨fn',yt,Ah,xx,pF,iz⟩:=Ai bW.rel (bW.ext _ _ ar) aE
   have qI:=λ(JT:LoopState)=>DU (P:=P) (w:=bV) bW.rel (bW.ext _ _ ar) aE rfl (bL:=.loop .exhausted pend n r ps ck rz eC)
    (x:=.loop {state:=.exhausted,pending:=pend,fn:=fn',tmps:=yt,params:=ps,assign:=ck,body:=rz,defers:=Ah.b}) ⟨fn',yt,Ah,rfl,pF,iz⟩ xx rfl
   obtain⟨gG,fz⟩:=qI .exhausted;have cE:st≠.busy:=λe=>by subst e;cases he
   have GU:(Instr.endLoop w.heap.size).run P bV=.ok pend {bV with heap:=bV.heap.setIfInBounds w.heap.size (.loop {state:=.exhausted,pending:=pend,fn:=fn',tmps:=yt,params:=ps,assign:=ck,body:=rz,defers:=Ah.b})}:=by
    have af:(st==LoopState.busy)=false:=by cases st<;>first|rfl|exact absurd rfl cE
    simp only[Instr.endLoop,Instr.getLoop,Sem.run_bind,xc xx rfl,Result.andThen_ok,Sem.run_pure,af,Bool.false_eq_true,if_false,gG]
   have N8:=dy.trans (.one (aiO GU));have NN:=fw.trans (bW.trans fz)
   have oS:da w {bV with heap:=bV.heap.setIfInBounds w.heap.size (.loop {state:=.exhausted,pending:=pend,fn:=fn',tmps:=yt,params:=ps,assign:=ck,body:=rz,defers:=Ah.b})}:=
    (xB.trans bc).trans ⟨rfl,rfl,rfl⟩
   have CS:jy E σ gw {s with h:=h1.put s.h.next (.loop .exhausted pend n r ps ck rz eC)} {a with defers:=mark++a.defers}
     {bV with heap:=bV.heap.setIfInBounds w.heap.size (.loop {state:=.exhausted,pending:=pend,fn:=fn',tmps:=yt,params:=ps,assign:=ck,body:=rz,defers:=Ah.b})}:=
    ⟨rel.g.ext (fw.ext.trans bW.ext),fz.rel,rel.r.ext (fw.ext.trans bW.ext),rel.d.ext (fw.ext.trans bW.ext)⟩
   have mm:(match pend with
     |none=>some (cW.normal,{s with h:=h1.put s.h.next (.loop .exhausted pend n r ps ck rz eC)})
     |some c=>F.code ro c {s with h:=h1.put s.h.next (.loop .exhausted pend n r ps ck rz eC)})=some (x,aS):=by
    cases st<;>first|exact absurd rfl cE|(cases pend<;>exact he)
   cases pend with
   |none=>
    cases mm;exact⟨gw,_,_,NN,oS,CS,N8⟩
   |some c=>
    have:=dE.code _ _ _ _ _ mm gw _ _ b k cs CS (iA.ext (fw.ext.trans bW.ext));exact this.after NN oS N8
  ·cases he
end
section
variable{P:Program}{E:Env}{σ:Nat->Int}{μ:Map}{h bg:ag}{w:World}
theorem Rb(x:Obj) :(newObj x).run P w=.ok w.heap.size {w with heap:=w.heap.push x}:=by simp
theorem ahn{F:ff}(ok:cX P E σ)(dE:kf P E σ F){ro:Option Nat}{f:Operand}{params:Array Tmp}{assign body:Code}{s aS:cl}{x:cW}
  (he:fR E F ro (.rangeFunc f params assign body) s=some (x,aS)) {a:Act} (b:Frame) (k:List Item) (cs:List Frame) (rel:jy E σ μ s a w) (iA:p7 μ ro b) :
  Ends P E σ b μ s.h w (lone (b.atR a (.code (.rangeFunc f params assign body)::k)) cs w) k cs x aS:=by
 delta fR at he;dsimp only at he;split at he
 ·cases he
 rename_i fv CB;have aB:bk σ μ fv (e1 a.tmps f):=sx rel.g rel.r.2 CB;split at he
 ·cases he
 rename_i d s1 dy;cases ro with
 |none=>
  have af:b.roundOf=none:=iA;have xi:dj σ μ s.h w.heap (μ.aq s.h.next ⟨w.heap.size,0,0⟩) (s.h.new .deferred) (w.heap.push (.deferred (some []))):=rel.h.new rfl
  have x9:jy E σ (μ.aq s.h.next ⟨w.heap.size,0,0⟩) {s with h:=s.h.new .deferred,ds:=s.h.next::s.ds}
    {a with defers:=[{target:=.collected w.heap.size,args:= #[]}]++a.defers} {w with heap:=w.heap.push (.deferred (some []))}:=
   ⟨rel.g.ext xi.ext,xi.rel,rel.r.ext xi.ext,⟨_,_,rfl,Map.hb _ _ _,rel.d.ext xi.ext⟩⟩
  simp only[AA]at dy;cases dy
  have j3:(Instr.enterLoop b.fn a.tmps params assign body b.roundOf).run P w=.ok ((w.heap.push (.deferred (some []))).size,[{target:=.collected w.heap.size,args:= #[]}])
    {w with heap:=(w.heap.push (.deferred (some []))).push (.loop {state:=.ready,pending:=none,fn:=b.fn,tmps:=a.tmps,params,assign,body,defers:=w.heap.size})}:=by
   rw[af];simp only[Instr.enterLoop,Sem.run_bind,Rb,Sem.run_pure,Result.andThen_ok]
  have:=QK (ro:=none) dE b k cs x9 af (Map.hb _ _ _) (bk.ext xi.ext _ _ aB) j3 he;exact this.after (w₁:={w with heap:=w.heap.push (.deferred (some []))}) xi ⟨rfl,rfl,rfl⟩ (.refl _ _)
 |some l=>
  obtain⟨loc,ar,af⟩:=iA;simp only[AA]at dy;split at dy
  ·rename_i st pend n r ps ck rz eC aE;cases dy;obtain⟨fn',yt,mC,xx,pF,iz⟩:=Ai rel.h ar aE;have x9:jy E σ μ s {a with defers:=[]++a.defers} w:=⟨rel.g,rel.h,rel.r,rel.d⟩
   have j3:(Instr.enterLoop b.fn a.tmps params assign body b.roundOf).run P w=.ok (w.heap.size,[])
     {w with heap:=w.heap.push (.loop {state:=.ready,pending:=none,fn:=b.fn,tmps:=a.tmps,params,assign,body,defers:=mC.b})}:=by
    rw[af];simp only[Instr.enterLoop,Instr.getLoop,Sem.run_bind,xc xx rfl,Rb,Sem.run_pure,Result.andThen_ok]
   exact QK (ro:=some l) dE b k cs x9 ⟨loc,ar,af⟩ pF aB j3 he
  ·cases dy
theorem W6{F:ff}(ok:cX P E σ)(dE:kf P E σ F)(F2:E_ P E σ F)(ro:Option Nat)(c:Code)(s:cl)(x:cW)(aS:cl)(he:fR E F ro c s=some (x,aS))
  (μ:Map) (w:World) (a:Act) (b:Frame) (k:List Item) (cs:List Frame) (rel:jy E σ μ s a w) (iA:p7 μ ro b) :
  Ends P E σ b μ s.h w (lone (b.atR a (.code c::k)) cs w) k cs x aS:=by
 cases c with
 |skip=>cases he;exact⟨μ,w,a,dj.refl rel.h,da.refl _,rel,.one stepR_skip⟩
 |label l=>cases he;exact⟨μ,w,a,dj.refl rel.h,da.refl _,rel,.one stepR_label⟩
 |seq bc bW=>
  delta fR at he;dsimp only at he;split at he
  ·rename_i s1 h1;obtain⟨gw,bV,aQ,cA,cM,dt,dK⟩:=dE.code _ _ _ _ _ h1 μ w a b (.code bW::k) cs rel iA;exact(dE.code _ _ _ _ _ he gw bV aQ b k cs dt (iA.ext cA.ext)).after cA cM (.head stepR_seq dK)
  ·rename_i cE;obtain⟨gw,bV,aQ,cA,cM,dt,dK⟩:=dE.code _ _ _ _ _ he μ w a b (.code bW::k) cs rel iA;exact⟨gw,bV,aQ,cA,cM,dt,(dK.pass rfl λab=>cE aS (by rw[he,ab])).of_steps (.one stepR_seq)⟩
 |cond o bc bW=>
  delta fR at he;dsimp only at he;split at he
  ·rename_i aY;have e:a.eval o=.bool true:=by rw[y9 b];exact sx rel.g rel.r.2 aY
   exact(dE.code _ _ _ _ _ he μ w a b k cs rel iA).of_steps (.one (stepR_cond e))
  ·rename_i aY;have e:a.eval o=.bool false:=by rw[y9 b];exact sx rel.g rel.r.2 aY
   exact(dE.code _ _ _ _ _ he μ w a b k cs rel iA).of_steps (.one (stepR_cond e))
  ·cases he
 |block id c=>
  delta fR at he;dsimp only at he;split at he
  ·rename_i na s1 h1;obtain⟨gw,bV,aQ,cA,cM,dt,k₁,e,dK⟩:=dE.code _ _ _ _ _ h1 μ w a b (.inBlock id::k) cs rel iA;cases af:Nat.beq na id with
   |true=>
    rw[af]at he;cases he;have aw:=beq_true.1 af;subst aw;exact⟨gw,bV,aQ,cA,cM,dt,.head stepR_block (dK.trans (.one (stepR_exit (by rw[e];simp[exitTo]))))⟩
   |false=>
    rw[af]at he;cases he;have aw:(id==na)=false:=by simp;exact λe=>beq_false.1 af e.symm
    exact⟨gw,bV,aQ,cA,cM,dt,k₁,by rw[e];simp[exitTo,aw],.head stepR_block dK⟩
  ·rename_i cE;obtain⟨gw,bV,aQ,cA,cM,dt,dK⟩:=dE.code _ _ _ _ _ he μ w a b (.inBlock id::k) cs rel iA;refine⟨gw,bV,aQ,cA,cM,dt,?_⟩;cases x with
   |normal=>exact .head stepR_block (Steps.trans dK (.one stepR_inBlock))
   |exit na=>exact absurd he (cE na aS)
   |goto l=>obtain⟨k₁,e,dK⟩:=dK;exact⟨k₁,e.trans (by simp[gotoIn]),.head stepR_block dK⟩
   |ret=>obtain⟨k₁,dK⟩:=dK;exact⟨k₁,.head stepR_block dK⟩
 |loop c=>
  delta fR at he;dsimp only at he;split at he
  ·cases he
  ·rename_i cE;obtain⟨gw,bV,aQ,cA,cM,dt,_,dK⟩:=Dt dE ro b c k cs 14 s aS x he μ w a rel iA;exact⟨gw,bV,aQ,cA,cM,dt,(dK λab=>cE aS (by rw[he,ab])).of_steps (.one stepR_loop)⟩
 |exit id=>cases he;exact⟨μ,w,a,dj.refl rel.h,da.refl _,rel,k,rfl,.refl _ _⟩
 |goto l=>cases he;exact⟨μ,w,a,dj.refl rel.h,da.refl _,rel,k,rfl,.refl _ _⟩
 |ret=>cases he;exact⟨μ,w,a,dj.refl rel.h,da.refl _,rel,k,.refl _ _⟩
 |scope c=>
  delta fR at he;dsimp only at he;exact(Rp dE ro b c k cs 9 c s aS x he μ w a rel iA).of_steps (.one aiQ)
 |refuse m=>cases he
 |region id ops rG=>
  delta fR at he;dsimp only at he;cases rG with
  |false=>
   simp only at he;split at he
   ·rename_i s1 h1;cases he;exact ahB ok dE b k cs h1 rel id
   ·cases he
  |true=>
   simp only at he;split at he
   ·rename_i s1 h1;cases he;exact F2 _ _ _ h1 μ w a b id k cs rel
   ·cases he
 |rangeFunc f params assign body=>exact ahn ok dE he b k cs rel iA
end
section
variable{P:Program}{E:Env}{σ:Nat->Int}{μ:Map}{h bg:ag}{w:World}
theorem step_take{fr:Frame}{cs:List Frame}{jY:Nat}{ds:List Deferred}(hm:fr.mode=.returning)(ao:fr.defers={target:=.collected jY,args:= #[]}::ds)
  (ab:w.heap[jY]? =some (.deferred (some []))) :
  step P (lone fr cs w)=.next (lone {fr with defers:=ds} cs {w with heap:=w.heap.setIfInBounds jY (.deferred none)}):=by
 have e:(Instr.takeDeferred jY).run P w=.ok [] {w with heap:=w.heap.setIfInBounds jY (.deferred none)}:=by
  have aa:(setObj jY (.deferred none)).run P w=.ok () {w with heap:=w.heap.setIfInBounds jY (.deferred none)}:=by simp[setObj,Sem.run,ab]
  simp only[Instr.takeDeferred,Sem.run_bind,xc ab rfl,Result.andThen_ok,Sem.run_pure,aa]
 exact step_lone_go (by simp[stepG,unwind,hm,ao,Sem.runT_eq,e,GStep.bare_after])
theorem Mn:∀(ds:List Nat) (h bg:ag),qg ds h=some bg->∀(μ:Map) (w:World) (fr:Frame) (cs:List Frame),c_ σ μ h w.heap->s' μ ds fr.defers->fr.mode=.returning->
  ∃aM,dj σ μ h w.heap μ bg aM.heap/\da w aM/\Steps P (lone fr cs w) (lone {fr with defers:=[]} cs aM)
 |[],h,bg,he,μ,w,fr,cs,rel,ao,hm=>by simp only[qg]at he;cases he;have e:fr.defers=[]:=ao;refine⟨w,dj.refl rel,da.refl _,?_⟩;rw[<-e];exact .refl _ _
 |d::ds,h,bg,he,μ,w,fr,cs,rel,⟨loc,w2,e,ar,ao⟩,hm=>by
  simp only[qg]at he;split at he
  ·rename_i aE
   have ab:w.heap[loc.b]? =some (.deferred (some [])):=by have:=rel.obj d loc _ ar (ag.lT (by rw[aE];simp));rw[aE]at this;exact this
   obtain⟨gG,fz⟩:=DU (P:=P) rel ar aE rfl (bL:=.dead) (x:=.deferred none) trivial ab rfl;obtain⟨aM,cA,cM,dt⟩:=Mn ds (h.put d .dead) bg he μ {w with heap:=w.heap.setIfInBounds loc.b (.deferred none)} {fr with defers:=w2} cs fz.rel ao hm;refine⟨aM,fz.trans cA,?_,.head (step_take hm e ab) dt⟩;have:da w {w with heap:=w.heap.setIfInBounds loc.b (.deferred none)}:=⟨rfl,rfl,rfl⟩;exact this.trans cM
  ·cases he
theorem Jo(ok:cX P E σ)(rel:c_ σ μ h w.heap){r:bl}{tmps:Array Value}(ah:∀i,bk σ μ (r.get i) (tmps.getD i undef)) :∀(rs:List ResultVar) (vs:List J),k2 E r h rs=some vs->
  ∃us,(rs.mapM λ| .tmp t=>pure (tmps.getD t undef) | .cell a t=>do loadVar t (<-asAddr (tmps.getD a undef)) :Sem (List Value)).run P w=.ok us w/\bX σ μ vs us
 |[],vs,he=>by simp only[k2]at he;cases he;exact⟨[],by simp,rfl⟩
 | .tmp t::rs,vs,he=>by
  simp only[k2]at he;split at he
  ·rename_i l ar;cases he;obtain⟨us,h1,aa⟩:=Jo ok rel ah rs l ar;exact⟨tmps.getD t undef::us,by rw[List.mapM_cons];simp only[Sem.run_bind,Sem.run_pure,Result.andThen_ok,h1],_,_,rfl,ah t,aa⟩
  ·cases he
 | .cell a t::rs,vs,he=>by
  simp only[k2]at he;split at he
  ·rename_i id off l aU ar;split at he
   ·rename_i v ae;cases he;have aD:=ah a;rw[aU]at aD;obtain⟨loc,hm,e⟩:=aD;obtain⟨x,av,aO⟩:=Pj (P:=P) ok rel hm ae;obtain⟨us,h1,aa⟩:=Jo ok rel ah rs l ar;have aL:(asAddr (tmps.getD a undef) :Sem Addr)=pure ⟨loc.b,loc.o+off,none⟩:=by rw[e];rfl
    exact⟨x::us,by rw[List.mapM_cons];simp only[aL,Sem.run_bind,Sem.run_pure,Result.andThen_ok,h1,av],_,_,rfl,aO,aa⟩
   ·cases he
  ·cases he
theorem ahN(ok:cX P E σ)(rel:c_ σ μ h w.heap){r:bl}{tmps:Array Value}(ah:∀i,bk σ μ (r.get i) (tmps.getD i undef)){fn:Func}{v:J}
  (he:(match k2 E r h fn.results.toList with
    |some [v]=>some v
    |some []=>some .undef
    |some vs=>some (.tuple vs)
    |none=>none)=some v) :∃q,(results fn tmps).run P w=.ok q w/\bk σ μ v q:=by
 cases hC:k2 E r h fn.results.toList with
 |none=>rw[hC]at he;cases he
 |some vs=>
  obtain⟨us,h1,aa⟩:=Jo (P:=P) ok rel ah _ _ hC;rw[hC]at he
  have vn:∀q,(if h:us.toArray.size=1 then us.toArray[0]else Value.tuple us.toArray)=q->(results fn tmps).run P w=.ok q w:=by intro q ay;unfold results;rw[Array.mapM_eq_mapM_toList];simp only[Sem.run_bind,map_eq_pure_bind];refine(congrArg (λz:Result (List Value)=>(z.andThen λa aM=>Sem.run P (pure a.toArray) aM).andThen λ(a:Array Value) aM=>Sem.run P (pure (if h:a.size=1 then a[0]else Value.tuple a)) aM) h1).trans ?_;simp only[Result.andThen_ok,Sem.run_pure,ay]
  cases vs with
  |nil=>
   have cR:=bX.iF.1 aa;subst cR;cases he;exact⟨_,vn _ rfl,rfl⟩
  |cons a vs=>
   obtain⟨u,amX,e,aU,al⟩:=aa;cases vs with
   |nil=>
    have cR:=bX.iF.1 al;subst cR;subst e;cases he;exact⟨_,vn _ rfl,aU⟩
   |cons b vs=>
    obtain⟨a_,amY,aL,af,al⟩:=al;subst aL;subst e;cases he;refine⟨_,vn _ rfl,?_⟩;rw[dif_neg (by simp)];exact⟨_,rfl,_,_,rfl,aU,_,_,rfl,af,al⟩
theorem QU:∀(ck:List J) (i:Nat) (r:bl) (j:Nat),bl.get (qX ck i r) j=if i<=j/\j<i+ck.length then(ck[j-i]?).getD .undef else bl.get r j
 |[],i,r,j=>by rw[if_neg (by simp only[List.length_nil];omega)];rfl
 |a::ck,i,r,j=>by
  simp only[qX];rw[QU ck (i+1) _ j];by_cases h1:i+1<=j/\j<i+1+ck.length
  ·rw[if_pos h1,if_pos (by simp only[List.length_cons];omega)];obtain⟨m,rfl⟩ :∃m,j=i+1+m:=⟨j-i-1,by omega⟩;rw[show i+1+m-(i+1)=m by omega,show i+1+m-i=m+1 by omega,List.getElem?_cons_succ]
  ·rw[if_neg h1];by_cases e:j=i
   ·subst e;rw[if_pos (by simp only[List.length_cons];omega)];simp[bl.get,bj.kq]
   ·rw[if_neg (by simp only[List.length_cons];omega)];simp[bl.get,bj.kq,e]
theorem XU{ck:List J}{us:Array Value}(hu:bX σ μ ck us.toList)(n:Nat) :
  kJ σ μ (max n ck.length) (qX ck 0 .nil) (us++Array.replicate (n-us.size) undef):=by
 have ar:ck.length=us.size:=by rw[hu.length,Array.length_toList]
 refine⟨by simp;omega,λj=> ?_⟩;rw[QU];by_cases az:j<ck.length
 ·rw[if_pos (by omega)];obtain⟨v,ae⟩ :∃v,ck[j]? =some v:=⟨ck[j],List.getElem?_eq_getElem az⟩;obtain⟨x,ab,rx⟩:=hu.get j v ae
  have e:(us++Array.replicate (n-us.size) undef).getD j undef=x:=by
   have h1:us[j]? =some x:=by simpa using ab
   simp[Array.getElem?_append_left (show j<us.size by omega),h1]
  rw[e,Nat.sub_zero,ae];exact rx
 ·rw[if_neg (by omega)]
  have e:(us++Array.replicate (n-us.size) undef).getD j undef=undef:=by rw[Array.getD_eq_getD_getElem?,Array.getElem?_append_right (by omega),Array.getElem?_replicate];split<;>rfl
  rw[e];have:bl.get (bj.nil:bl) j=.undef:=by simp[bl.get,bj.get_nil]
  rw[this];rfl
theorem YN{F:ff}(ok:cX P E σ)(dE:kf P E σ F){f:FuncId}{first captured args:List J}{v:J}(he:km E F (.func f first captured) args h=some (v,bg))
  (aE:jT E μ) (rel:c_ σ μ h w.heap) {u:Value} {us:Array Value} (hu:bk σ μ (.func f first captured) u) (aU:bX σ μ args us.toList) :s_ P σ μ h w u us v bg:=by
 obtain⟨x,y,e,ab,an⟩:=hu;subst e;delta km at he;dsimp only at he;split at he
 ·cases he
 rename_i fn j4;split at he
 ·cases he
 rename_i body xh;obtain⟨zM,Hf⟩:=ok.fn f fn j4;split at he
 ·rename_i th s1 ZH;split at he
  ·rename_i Ng;split at he
   ·cases he
   rename_i aa ZV;refine .inl ⟨f,x++us++y,?_,λcs=> ?_⟩
   ·simp only[inv,Deferred.ofValue,Sem.run_bind,Sem.run_pure,Result.andThen_ok,invoke,callFunc,run_program,zM,Hf,xh,Option.isNone_some,Bool.false_eq_true,if_false]
   ·have Zk:bX σ μ (first++args++captured) (x++us++y).toList:=by
     rw[Array.toList_append,Array.toList_append];exact(ab.append aU).append an
    have j3:=XU Zk fn.ntmps;let b:Frame:={fn:=f,tmps:= #[],todo:=[],defers:=[],mode:=.run,kind:=.normal};let a0:Act:={tmps:=(x++us++y)++Array.replicate (fn.ntmps-(x++us++y).size) undef,defers:=[]}
    have eT:Frame.enter P f (x++us++y) .normal=b.atR a0 [.code body]:=by simp[Frame.enter,zM,xh,Frame.atR,b,a0]
    have JS:jy E σ μ {r:=qX (first++args++captured) 0 .nil,n:=max fn.ntmps (first++args++captured).length,ds:=[],h} a0 w:=⟨aE,rel,j3,rfl⟩;obtain⟨gw,bV,aQ,cA,cM,dt,dK⟩:=dE.code _ _ _ _ _ ZH μ w a0 b [] cs JS rfl
    have Ho:∃k,Steps P (lone (Frame.enter P f (x++us++y) .normal) cs w) (lone {b.atR aQ k with mode:=.returning} cs bV):=by
     rw[eT];cases th with
     |normal=>exact⟨_,Steps.trans dK (.one (stepR_end rfl))⟩
     |ret=>obtain⟨k₁,dK⟩:=dK;exact⟨_,dK.trans (.one (stepR_ret rfl))⟩
     |exit id=>cases Ng
     |goto l=>cases Ng
    obtain⟨k,Ho⟩:=Ho;obtain⟨dV,d1,d2,d3⟩:=Mn (P:=P) (σ:=σ) _ _ _ ZV gw bV {b.atR aQ k with mode:=.returning} cs dt.h dt.d rfl
    have abd:∃q,(results fn aQ.tmps).run P dV=.ok q dV/\bk σ gw v q/\aa=bg:=by
     have key:∀df,(match k2 E s1.r aa fn.results.toList with
      |some [v]=>some v
      |some []=>some .undef
      |some vs=>some (.tuple vs)
      |none=>none)=some df->∃q,(results fn aQ.tmps).run P dV=.ok q dV/\bk σ gw df q:=λdf e9=>ahN ok d1.rel dt.r.2 e9
     revert key he;generalize k2 E s1.r aa fn.results.toList=rs;intro he key
     match rs with
     |none=>cases he
     |some []=>cases he;obtain⟨q,a',bR⟩:=key _ rfl;exact⟨q,a',bR,rfl⟩
     |some [a]=>cases he;obtain⟨q,a',bR⟩:=key _ rfl;exact⟨q,a',bR,rfl⟩
     |some (a::b::c)=>cases he;obtain⟨q,a',bR⟩:=key _ rfl;exact⟨q,a',bR,rfl⟩
    obtain⟨q,cg,cK,dG⟩:=abd;subst dG;exact⟨{b.atR aQ k with mode:=.returning,defers:=[]},q,dV,gw,Ho.trans d3,rfl,⟨rfl,rfl,rfl,fn,zM,cg⟩,cM.trans d2,cA.trans d1,cK⟩
  ·cases he
 ·cases he
end
section
variable{P:Program}{E:Env}{σ:Nat->Int}{μ:Map}{h bg:ag}{w:World}
theorem Qw:∀(ts:List Tmp) (args:List J) (us:List Value) (n:Nat) (r b9:bl) (tmps:Array Value),vZ ts args n r=some b9->bX σ μ args us->kJ σ μ n r tmps->
  ts.length=us.length/\kJ σ μ n b9 ((ts.zip us).foldl (λ(tmps:Array Value) (p:Tmp×Value)=>tmps.setIfInBounds p.1 p.2) tmps)
 |[],[],us,n,r,b9,tmps,he,hu,ah=>by rw[bX.iF.1 hu];simp only[vZ]at he;cases he;exact⟨rfl,ah⟩
 |t::ts,v::vs,_,n,r,b9,tmps,he,⟨u,us,e,ae,hC⟩,ah=>by subst e;simp only[vZ]at he;replace he:=c' he;obtain⟨af,he⟩:=he;obtain⟨h1,aa⟩:=Qw ts vs us n _ b9 (tmps.setIfInBounds t u) he hC (ah.put (c4.1 af) ae);exact⟨by simp[h1],aa⟩
 |[],_::_,_,_,_,_,_,he,_,_=>by cases he
 |_::_,[],_,_,_,_,_,he,_,_=>by cases he
theorem ak'{F:ff}(ok:cX P E σ)(dE:kf P E σ F){l:Nat}{args:List J}{v:J}(he:km E F (.yield l) args h=some (v,bg))
  (aE:jT E μ) (rel:c_ σ μ h w.heap) {u:Value} {us:Array Value} (hu:bk σ μ (.yield l) u) (aU:bX σ μ args us.toList) :s_ P σ μ h w u us v bg:=by
 obtain⟨loc,ar,e⟩:=hu;subst e;delta km at he;dsimp only at he;split at he
 ·rename_i Au n r params assign body d jE;obtain⟨fn,tmps,mC,xx,ao,ah⟩:=Ai rel ar jE;split at he
  ·cases he
  rename_i b9 aa5;obtain⟨hlen,mx⟩:=Qw _ _ _ _ _ _ tmps aa5 aU ah;have ev:us.size=params.size:=by simpa using hlen.symm
  refine .inr (.inl ⟨loc.b,fn,(params.toList.zip us.toList).foldl (λ(tmps:Array Value) (p:Tmp×Value)=>tmps.setIfInBounds p.1 p.2) tmps,assign,body,?_,λc cs=> ?_⟩)
  ·have aw:(params.zip us).foldl (λ(tmps:Array Value) (p:Tmp×Value)=>tmps.setIfInBounds p.1 p.2) tmps=
     (params.toList.zip us.toList).foldl (λ(tmps:Array Value) (p:Tmp×Value)=>tmps.setIfInBounds p.1 p.2) tmps:=by
    rw[<-Array.foldl_toList,Array.toList_zip]
   simp only[inv,Deferred.ofValue,Sem.run_bind,Sem.run_pure,Result.andThen_ok,invoke,Instr.yield,Instr.getLoop,xc xx rfl,Array.empty_append,ev,ne_eq,not_true_eq_false,if_false];rw[<-aw]
  ·let b:Frame:={fn:=fn,tmps:= #[],todo:=[],defers:=[],mode:=.run,kind:=.normal,roundOf:=some loc.b};let a0:Act:={tmps:=(params.toList.zip us.toList).foldl (λ(tmps:Array Value) (p:Tmp×Value)=>tmps.setIfInBounds p.1 p.2) tmps,defers:=[]};have eT:Frame.round loc.b fn a0.tmps assign body .normal=b.atR a0 [.code assign,.beginRound,.code body]:=rfl;have JS:jy E σ μ {r:=b9,n,ds:=[],h} a0 w:=⟨aE,rel,mx,rfl⟩;have iA:p7 μ (some l) b:=⟨loc,ar,rfl⟩;split at he
   ·rename_i s1 Zm;obtain⟨gw,bV,aQ,cA,cM,dt,dK⟩:=dE.code _ _ _ _ _ Zm μ w a0 b [.beginRound,.code body] (c::cs) JS iA;split at he
    ·rename_i sB dF cg params1 ry rB d1 Nt;obtain⟨u1,wg,vG,NS,GP,hB⟩:=Ai dt.h (cA.ext _ _ ar) Nt
     obtain⟨gG,fz⟩:=DU (P:=P) (w:=bV) dt.h (cA.ext _ _ ar) Nt rfl (bL:=.loop .busy sB dF cg params1 ry rB d1)
      (x:=.loop {state:=.busy,pending:=sB,fn:=u1,tmps:=wg,params:=params1,assign:=ry,body:=rB,defers:=vG.b}) ⟨u1,wg,vG,rfl,GP,hB⟩ NS rfl
     have Ni:(Instr.beginRound loc.b).run P bV=.ok () {bV with heap:=bV.heap.setIfInBounds loc.b (.loop {state:=.busy,pending:=sB,fn:=u1,tmps:=wg,params:=params1,assign:=ry,body:=rB,defers:=vG.b})}:=by simp only[Instr.beginRound,Instr.getLoop,Sem.run_bind,xc NS rfl,Result.andThen_ok,Sem.run_pure,gG]
     have JU:=Steps.trans dK (.one (stepR_beginRound rfl Ni))
     have abk:da w {bV with heap:=bV.heap.setIfInBounds loc.b (.loop {state:=.busy,pending:=sB,fn:=u1,tmps:=wg,params:=params1,assign:=ry,body:=rB,defers:=vG.b})}:=
      cM.trans ⟨rfl,rfl,rfl⟩
     have aiJ:jy E σ gw {s1 with h:=s1.h.put l (.loop .busy sB dF cg params1 ry rB d1)} aQ
       {bV with heap:=bV.heap.setIfInBounds loc.b (.loop {state:=.busy,pending:=sB,fn:=u1,tmps:=wg,params:=params1,assign:=ry,body:=rB,defers:=vG.b})}:=
      ⟨dt.g,fz.rel,dt.r,dt.d⟩
     have afh:dj σ μ h w.heap gw (s1.h.put l (.loop .busy sB dF cg params1 ry rB d1)) ({bV with heap:=bV.heap.setIfInBounds loc.b (.loop {state:=.busy,pending:=sB,fn:=u1,tmps:=wg,params:=params1,assign:=ry,body:=rB,defers:=vG.b})} :World).heap:=cA.trans fz;clear cM dK Ni gG;generalize ({bV with heap:=bV.heap.setIfInBounds loc.b (.loop {state:=.busy,pending:=sB,fn:=u1,tmps:=wg,params:=params1,assign:=ry,body:=rB,defers:=vG.b})} :World)=dV at*
     split at he
     ·rename_i th s2 xh;obtain⟨K6,ny,a2,a',bR,bY,c8⟩:=dE.code _ _ _ _ _ xh gw dV aQ b [] (c::cs) aiJ (iA.ext cA.ext);split at he
      ·rename_i AP amT eH dG params3 BH BM d3 Nu xj;have oP:=a'.ext _ _ (cA.ext _ _ ar);obtain⟨Gq,Kg,ig,NT,GR,zP⟩:=Ai bY.h oP Nu
       have fin:∀(jump:Option Code),(∃fE,Steps P (lone (Frame.round loc.b fn a0.tmps assign body .normal) (c::cs) w) fE/\
         ∀q aM,(Instr.endRound loc.b jump).run P ny=.ok q aM->step P fE=.next (lone (c.finish q) cs aM))->
         some (J.bool jump.isNone,s2.h.put l (.loop (if jump.isNone then .ready else .done) jump eH dG params3 BH BM d3))=some (v,bg)->
         ∃q aM bu,Steps P (lone (Frame.round loc.b fn a0.tmps assign body .normal) (c::cs) w) (lone (c.finish q) cs aM)/\da w aM/\dj σ μ h w.heap bu bg aM.heap/\bk σ bu v q:=by
        intro jump ⟨fE,au,dy⟩ heq;cases heq
        obtain⟨gG,fz⟩:=DU (P:=P) (w:=ny) bY.h oP Nu rfl (bL:=.loop (if jump.isNone then .ready else .done) jump eH dG params3 BH BM d3)
         (x:=.loop {state:=if jump.isNone then .ready else .done,pending:=jump,fn:=Gq,tmps:=Kg,params:=params3,assign:=BH,body:=BM,defers:=ig.b}) ⟨Gq,Kg,ig,rfl,GR,zP⟩ NT rfl
        have GU:(Instr.endRound loc.b jump).run P ny=.ok (.bool jump.isNone) {ny with heap:=ny.heap.setIfInBounds loc.b (.loop {state:=if jump.isNone then .ready else .done,pending:=jump,fn:=Gq,tmps:=Kg,params:=params3,assign:=BH,body:=BM,defers:=ig.b})}:=by simp only[Instr.endRound,Instr.getLoop,Sem.run_bind,xc NT rfl,Result.andThen_ok,Sem.run_pure,gG]
        refine⟨_,_,K6,au.trans (.one (dy _ _ GU)),?_,afh.trans (a'.trans fz),rfl⟩;exact(abk.trans bR).trans ⟨rfl,rfl,rfl⟩
       have Ef:Steps P (lone (Frame.round loc.b fn a0.tmps assign body .normal) (c::cs) w) (lone (b.atR aQ [.code body]) (c::cs) dV):=by rw[eT];exact JU
       cases th with
       |normal=>exact fin none ⟨_,Ef.trans c8,λq aM ay=>stepR_round_end rfl rfl ay⟩ he
       |exit id=>
        obtain⟨k₁,e,c8⟩:=c8;exact fin (some (.exit id)) ⟨_,Ef.trans c8,λq aM ay=>stepR_round_exit rfl rfl (by rw[e];rfl) ay⟩ he
       |goto g=>
        obtain⟨k₁,e,c8⟩:=c8;exact fin (some (.goto g)) ⟨_,Ef.trans c8,λq aM ay=>stepR_round_goto rfl rfl (by rw[e];rfl) ay⟩ he
       |ret=>
        obtain⟨k₁,c8⟩:=c8;exact fin (some .ret) ⟨_,Ef.trans c8,λq aM ay=>stepR_round_ret rfl rfl ay⟩ he
      ·cases he
     ·cases he
    ·cases he
   ·cases he
 ·cases he
def tc(P:Program)(E:Env)(σ:Nat->Int)(p:cw) :Prop:=
 ∀g q,p g=some q->∀args h v bg,q args h=some (v,bg)->∀μ w (us:Array Value),jT E μ->c_ σ μ h w.heap->bX σ μ args us.toList->
  s_ P σ μ h w (.func (.func g) #[] #[]) us v bg
theorem FP{F:ff}(ok:cX P E σ)(dE:kf P E σ F)(f:J)(args:List J)(h:ag)(v:J)(bg:ag)(he:km E F f args h=some (v,bg))
  (μ:Map) (w:World) (u:Value) (us:Array Value) (aE:jT E μ) (rel:c_ σ μ h w.heap) (hu:bk σ μ f u) (aU:bX σ μ args us.toList) :s_ P σ μ h w u us v bg:=by
 cases f with
 |func f first captured=>exact YN ok dE he aE rel hu aU
 |yield l=>exact ak' ok dE he aE rel hu aU
 |_=>cases he
theorem step_ok{F:ff}{p:cw}(ok:cX P E σ)(vQ:tc P E σ p)(dE:kf P E σ F)(F2:E_ P E σ F) :kf P E σ (Ch E p F)where
 code:=λro c s x aS he μ w a b k cs rel iA=>W6 ok dE F2 ro c s x aS he μ w a b k cs rel iA
 call:=λf args h v bg he μ w u us aE rel hu aU=>by
  have mm:oG E p F f args h=some (v,bg):=he;unfold oG at mm;split at mm
  ·rename_i g;split at mm
   ·rename_i q ay;split at mm
    ·rename_i r ah;cases mm;obtain⟨x,y,e,ab,an⟩:=hu;have ex:x= #[]:=by have:=bX.iF.1 ab;exact Array.toList_eq_nil_iff.1 this
     have qm:y= #[]:=by have:=bX.iF.1 an;exact Array.toList_eq_nil_iff.1 this
     subst e ex qm;exact vQ g q ay args h v bg ah μ w us aE rel aU
    ·exact FP ok dE _ args h v bg mm μ w u us aE rel hu aU
   ·exact FP ok dE _ args h v bg mm μ w u us aE rel hu aU
  ·exact FP ok dE _ args h v bg mm μ w u us aE rel hu aU
end
section
variable{E:Env}{r b9:bl}{h:ag}
theorem y8:∀(xs:List Operand),(∀x,x∈xs->dk E r x=dk E b9 x)->kp E r xs=kp E b9 xs
 |[],_=>rfl
 |x::xs,H=>by simp only[kp,H x List.mem_cons_self,y8 xs λy an=>H y (List.mem_cons_of_mem _ an)]
theorem Ge:∀(xs:List (Nat×Operand)),(∀x,x∈xs.map (·.2)->dk E r x=dk E b9 x)->qk E r xs=qk E b9 xs
 |[],_=>rfl
 |(i,x)::xs,H=>by simp only[qk,H x (by simp),Ge xs λy an=>H y (by simp only[List.map_cons];exact List.mem_cons_of_mem _ an)]
theorem IZ(x:Option Operand)(H:∀y,x=some y->dk E r y=dk E b9 y) :qS E r x=qS E b9 x:=by
 cases x with
 |none=>rfl
 |some y=>simp only[qS,H y rfl]
theorem Pk(op:Op)(H:∀x,x∈op.operands->dk E r x=dk E b9 x) :ep E r h op=ep E b9 h op:=by
 cases op<;>simp only[Op.operands]at H<;>simp only[ep]
 case move x=>exact H x (by simp)
 case assign x=>exact H x (by simp)
 case pick c a b=>rw[H c (by simp),H a (by simp),H b (by simp)]
 case build t ps=>rw[Ge ps.toList λx ab=>H x (by simpa using ab)]
 case load t a=>rw[H a (by simp)]
 case nilCheck x=>rw[H x (by simp)]
 case binOp op t x y ala=>rw[H x (by simp),H y (by simp)]
 case unOp op t x=>rw[H x (by simp)]
 case convert s d x=>rw[H x (by simp)]
 case makeFunc fn first captured=>rw[y8 first.toList λx ab=>H x (by simp at ab|-;exact .inl ab),y8 captured.toList λx ab=>H x (by simp at ab|-;exact .inr ab)]
 case slice t x lo U e'=>
  rw[H x (by simp),IZ lo λy e=>H y (by subst e;simp),IZ U λy e=>H y (by subst e;simp),IZ e' λy e=>H y (by subst e;simp)]
 case fieldAddr s x f=>rw[H x (by simp)]
 case field s x f=>rw[H x (by simp)]
 case indexAddr t x fx=>rw[H x (by simp),H fx (by simp)]
 case index t x fx=>rw[H x (by simp),H fx (by simp)]
 case lookup t x fx b=>rw[H x (by simp),H fx (by simp)]
 case extract t i=>rw[H t (by simp)]
 case call c=>rw[y8 c.args.toList λx ab=>H x (by simp[Call.operands]at ab|-;exact .inr ab)]
theorem PB(op:Op)(H:∀x,x∈op.operands->dk E r x=dk E b9 x) :jq E r op=jq E b9 op:=by
 cases op<;>simp only[Op.operands]at H<;>simp only[jq]
 case box t x=>rw[H x (by simp)]
 case buildSlice t len ps=>rw[Ge ps.toList λx ab=>H x (by simpa using ab)]
 case makeSlice t l c=>rw[H l (by simp),H c (by simp)]
 case makeMap t rv=>cases rv<;>rfl
 case convert s d x=>rw[H x (by simp)]
theorem Vr(op:Op)(H:∀x,x∈op.operands->dk E r x=dk E b9 x) :mU E r h op=mU E b9 h op:=by
 cases op<;>simp only[Op.operands]at H<;>simp only[mU]
 case store t a x=>rw[H a (by simp),H x (by simp)]
 case mapUpdate t m k x=>rw[H m (by simp),H k (by simp),H x (by simp)]
 case insert t m k x=>rw[H m (by simp),H k (by simp),H x (by simp)]
 case call c=>
  obtain⟨callee,args,ts⟩:=c;have aU:=y8 (E:=E) (r:=r) (b9:=b9) args.toList λx ab=>H x (by simp[Call.operands]at ab|-;exact .inr ab)
  cases callee with
  |builtin b=>simp only[aU]
  |value f=>simp only[aU,H f (by simp[Call.operands])]
  |invoke _ _=>rfl
theorem agk(op:Op)(H:∀x,x∈op.operands->dk E r x=dk E b9 x) :ih E r h op=ih E b9 h op:=by unfold ih;rw[Pk op H,PB op H,Vr op H]
theorem xS{x:Nat} :∀{l:List Nat},ob x l=true↔x∈l
 |[]=>by simp[ob]
 |y::fe=>by simp only[ob,Bool.or_eq_true,beq_true,xS (l:=fe),List.mem_cons]
def rh(ops:Array Oper)(o:Oper)(r b9:bl) :Prop:=∀t,t∈tmpsOf ops o->r.get t=b9.get t
theorem rh.operand{ops:Array Oper}{o:Oper}(aU:rh ops o r b9) :∀x,x∈o.op.operands->dk E r x=dk E b9 x:=by
 intro x ab;cases x with
 |tmp t=>
  simp only[dk];congr 1;apply aU;unfold tmpsOf;apply List.mem_append_left;rw[List.mem_flatMap];exact⟨.tmp t,by simpa using ab,by simp[Kf]⟩
 |_=>rfl
theorem rh.guard{ops:Array Oper}{o:Oper}(aU:rh ops o r b9) :gB ops r o=gB ops b9 o:=by
 unfold gB;cases aE:o.guard with
 |none=>rfl
 |some HT=>
  obtain⟨j,want⟩:=HT;simp only;cases az:ops[j]? with
  |none=>rfl
  |some g=>
   simp only;cases ao:g.dst with
   |none=>rfl
   |some d=>
    simp only;rw[aU d (by unfold tmpsOf;apply List.mem_append_right;simp[aE,az,ao])]
def fc(r:bl)(d:Option Tmp)(v:J) :bl:=match d with
 |none=>r
 |some d=>r.set d v
theorem v7{s aS:cl}{d:Option Tmp}{v:J}{g:ag}(he:om s d v g=some aS) :(∀t,d=some t->t<s.n)/\aS={s with r:=fc s.r d v,h:=g}:=by
 unfold om at he;cases d with
 |none=>cases he;exact⟨(λt e=>by cases e),rfl⟩
 |some d=>
  simp only at he;replace he:=c' he;obtain⟨af,he⟩:=he;cases he;exact⟨λt e=>by cases e;exact c4.1 af,rfl⟩
theorem mN{s:cl}{d:Option Tmp}(ao:∀t,d=some t->t<s.n)(v:J)(g:ag) :om s d v g=some {s with r:=fc s.r d v,h:=g}:=by
 unfold om;cases d with
 |none=>rfl
 |some d=>simp only[c4.2 (ao d rfl),cond_true,fc]
theorem oj(r:bl)(d:Option Tmp)(v:J)(t:Nat) :(fc r d v).get t=if d=some t then v else r.get t:=by
 cases d with
 |none=>simp[fc]
 |some d=>
  simp only[fc,bl.get,bj.kq];by_cases e:t=d
  ·subst e;simp
  ·have:¬(some d=some t):=λh=>e (Option.some.inj h).symm
   simp only[e,this,if_false]
theorem agl{F:ff}{ops:Array Oper}{o:Oper}{s aS:cl}(he:js E F ops o s=some aS) :
  ∃v,(∀t,o.dst=some t->t<s.n)/\aS={s with r:=fc s.r o.dst v,h:=aS.h}/\(gB ops s.r o=false->v=.undef/\aS.h=s.h)/\
   ∀b9,rh ops o b9 s.r->js E F ops o {s with r:=b9}=some {s with r:=fc b9 o.dst v,h:=aS.h}:=by
 have mu:∀b9,rh ops o b9 s.r->ih E b9 s.h o.op=ih E s.r s.h o.op:=λb9 aU=>agk o.op aU.operand
 have CE:∀b9,rh ops o b9 s.r->gB ops b9 o=gB ops s.r o:=λb9 aU=>aU.guard
 unfold js at he|-;split at he
 ·rename_i aE;obtain⟨h1,aa⟩:=v7 he;refine⟨.undef,h1,by rw[aa],λ_=>⟨rfl,by rw[aa]⟩,λb9 aU=> ?_⟩;simp only[CE b9 aU,aE];rw[mN (s:={s with r:=b9}) h1,aa]
 ·rename_i aE;have gp:gB ops s.r o=false->False:=λh=>by rw[aE]at h;cases h
  split at he
  ·rename_i v g ae;obtain⟨h1,aa⟩:=v7 he;refine⟨v,h1,by rw[aa],λh=>(gp h).elim,λb9 aU=> ?_⟩;simp only[CE b9 aU,aE,mu b9 aU,ae];rw[mN (s:={s with r:=b9}) h1,aa]
  ·rename_i g ae;obtain⟨h1,aa⟩:=v7 he;refine⟨.undef,h1,by rw[aa],λh=>(gp h).elim,λb9 aU=> ?_⟩;simp only[CE b9 aU,aE,mu b9 aU,ae];rw[mN (s:={s with r:=b9}) h1,aa]
  ·rename_i f args ae;split at he
   ·rename_i v g aA;obtain⟨h1,aa⟩:=v7 he;refine⟨v,h1,by rw[aa],λh=>(gp h).elim,λb9 aU=> ?_⟩;simp only[CE b9 aU,aE,mu b9 aU,ae,aA];rw[mN (s:={s with r:=b9}) h1,aa]
   ·cases he
  ·cases he
end
mutual
theorem J.BK:∀(a b:J),J.beq a b=true->a=b
 | .undef,b,h=>by cases b<;>first|rfl|(simp only[J.beq]at h;cases h;done)
 | .bool a,b,h=>by cases b<;>first|(simp only[J.beq,beq_iff_eq]at h;rw[h];done) |(simp only[J.beq]at h;cases h;done)
 | .int k a,b,h=>by
  cases b<;>first
   |(simp only[J.beq,Bool.and_eq_true]at h;rw[kP.1 h.1,Gd.1 h.2];done)
   |(simp only[J.beq]at h;cases h;done)
 | .sym k a,b,h=>by
  cases b<;>first
   |(simp only[J.beq,Bool.and_eq_true]at h;rw[kP.1 h.1,Go.a6.beq_true.1 h.2];done)
   |(simp only[J.beq]at h;cases h;done)
 | .str l a,b,h=>by
  cases b<;>first
   |(simp only[J.beq,Bool.and_eq_true]at h;rw[Go.a6.beq_true.1 h.1,Go.a6.beq_true.1 h.2];done)
   |(simp only[J.beq]at h;cases h;done)
 | .nilPtr,b,h=>by cases b<;>first|rfl|(simp only[J.beq]at h;cases h;done)
 | .ptr l a,b,h=>by
  cases b<;>first
   |(simp only[J.beq,Bool.and_eq_true]at h;rw[Go.a6.beq_true.1 h.1,Go.a6.beq_true.1 h.2];done)
   |(simp only[J.beq]at h;cases h;done)
 | .bh,b,h=>by cases b<;>first|rfl|(simp only[J.beq]at h;cases h;done)
 | .slice aQ a2 a3 a4 a5 hY,b,h=>by
  cases b<;>first
   |(simp only[J.beq,Bool.and_eq_true,beq_iff_eq]at h;obtain⟨⟨⟨⟨⟨h1,aa⟩,av⟩,aO⟩,bb⟩,cp⟩:=h
     rw[Go.a6.beq_true.1 h1,Go.a6.beq_true.1 aa,Go.a6.beq_true.1 av,Go.a6.beq_true.1 aO,Go.a6.beq_true.1 bb,cp];done)
   |(simp only[J.beq]at h;cases h;done)
 | .gf,b,h=>by cases b<;>first|rfl|(simp only[J.beq]at h;cases h;done)
 | .map a,b,h=>by cases b<;>first|(simp only[J.beq]at h;rw[Go.a6.beq_true.1 h];done) |(simp only[J.beq]at h;cases h;done)
 | .nilFunc,b,h=>by cases b<;>first|rfl|(simp only[J.beq]at h;cases h;done)
 | .func f x y,b,h=>by
  cases b<;>first
   |(simp only[J.beq,Bool.and_eq_true]at h;obtain⟨⟨h1,aa⟩,av⟩:=h;rw[Go.a6.beq_true.1 h1,J.yO _ _ aa,J.yO _ _ av];done)
   |(simp only[J.beq]at h;cases h;done)
 | .yield a,b,h=>by cases b<;>first|(simp only[J.beq]at h;rw[Go.a6.beq_true.1 h];done) |(simp only[J.beq]at h;cases h;done)
 | .nilIface,b,h=>by cases b<;>first|rfl|(simp only[J.beq]at h;cases h;done)
 | .iface t x,b,h=>by
  cases b<;>first
   |(simp only[J.beq,Bool.and_eq_true]at h;rw[Go.a6.beq_true.1 h.1,J.BK _ _ h.2];done)
   |(simp only[J.beq]at h;cases h;done)
 | .agg x,b,h=>by cases b<;>first|(simp only[J.beq]at h;rw[J.yO _ _ h];done) |(simp only[J.beq]at h;cases h;done)
 | .tuple x,b,h=>by cases b<;>first|(simp only[J.beq]at h;rw[J.yO _ _ h];done) |(simp only[J.beq]at h;cases h;done)
theorem J.yO:∀(a b:List J),J.oD a b=true->a=b
 |[],b,h=>by cases b<;>first|rfl|(simp only[J.oD]at h;cases h;done)
 |x::xs,b,h=>by
  cases b<;>first
   |(simp only[J.oD,Bool.and_eq_true]at h;rw[J.BK _ _ h.1,J.yO _ _ h.2];done)
   |(simp only[J.oD]at h;cases h;done)
end
theorem yQ(n i:Nat) :iO n i=n.testBit i:=by unfold iO;rw[Nat.testBit_eq_decide_div_mod_eq,Nat.shiftRight_eq_div_pow,VU]
theorem F9{acc:List Nat}{x:Nat} :∀(es:List Edge),iO (qh acc es) x=true->∃e,e∈es/\Region.binds .any e=true/\(x=e.on\/iO (acc.getD e.on 0) x=true)
 |[],h=>by rw[yQ]at h;simp[qh]at h
 |e::es,h=>by
  simp only[qh]at h;cases af:Region.binds .any e with
  |false=>
   rw[af]at h;obtain⟨cR,h1,aa,av⟩:=F9 es h;exact⟨cR,List.mem_cons_of_mem _ h1,aa,av⟩
  |true=>
   rw[af,cond_true,yQ,Nat.testBit_or,Nat.testBit_or,Nat.testBit_two_pow]at h;simp only[Bool.or_eq_true,decide_eq_true_eq]at h;rcases h with(h|h) |h
   ·exact⟨e,List.mem_cons_self,af,.inl h.symm⟩
   ·exact⟨e,List.mem_cons_self,af,.inr (by rw[yQ];exact h)⟩
   ·obtain⟨cR,h1,aa,av⟩:=F9 es (by rw[yQ];exact h);exact⟨cR,List.mem_cons_of_mem _ h1,aa,av⟩
theorem Fw:∀(l:List Oper) (acc:List Nat),(jX l acc).take acc.length=acc/\∀k o,l[k]? =some o->
  (jX l acc).getD (acc.length+k) 0=qh ((jX l acc).take (acc.length+k)) o.after.toList
 |[],acc=>⟨by simp[jX],λk o h=>by simp at h⟩
 |o::rest,acc=>by
  obtain⟨h1,aa⟩:=Fw rest (acc++[qh acc o.after.toList]);simp only[jX];generalize af:jX rest (acc++[qh acc o.after.toList])=bs at h1 aa;simp only[List.length_append,List.length_cons,List.length_nil,Nat.zero_add]at h1 aa
  have av:bs.take acc.length=acc:=by
   have:(bs.take (acc.length+1)).take acc.length=acc:=by rw[h1];simp
   rwa[List.take_take,Nat.min_eq_left (Nat.le_succ _)]at this
  refine⟨av,λk bL aj=> ?_⟩;cases k with
  |zero=>
   simp at aj;subst aj;rw[Nat.add_zero,av];have:(bs.take (acc.length+1))[acc.length]? =some (qh acc o.after.toList):=by rw[h1];simp
   rw[List.getElem?_take]at this;simp at this;simp[this]
  |succ k=>
   have:=aa k bL (by simpa using aj);rwa[show acc.length+1+k=acc.length+(k+1)by omega]at this
theorem VT{ops:Array Oper}{D:Nat->Prop}(ez:∀j o,ops[j]? =some o->D j->∀e,e∈o.after->Region.binds .any e=true->D e.on)
  (tA:∀j o,ops[j]? =some o->∀e,e∈o.after->Region.binds .any e=true->e.on<j) :
  ∀i o x,ops[i]? =some o->(∀e,e∈o.after->Region.binds .any e=true->D e.on)->iO ((jX ops.toList []).getD i 0) x=true->D x:=by
 intro i;induction i using Nat.strongRecOn with
 |_ i bI=>
  intro o x aY ah af;obtain⟨_,aa⟩:=Fw ops.toList [];have:=aa i o (by simpa using aY);rw[List.length_nil,Nat.zero_add]at this;rw[this]at af;obtain⟨e,he,GL,ab⟩:=F9 _ af;have mm:e∈o.after:=by simpa using he
  have bK:=tA i o aY e mm GL;rcases ab with rfl|ab
  ·exact ah e mm GL
  ·have jE:((jX ops.toList []).take i).getD e.on 0=(jX ops.toList []).getD e.on 0:=by
    rw[List.getD_eq_getElem?_getD,List.getD_eq_getElem?_getD,List.getElem?_take,if_pos bK]
   rw[jE]at ab;have al:e.on<ops.size:=Nat.lt_trans bK (Array.getElem?_eq_some_iff.1 aY).1;have NU:ops[e.on]? =some ops[e.on]:=Array.getElem?_eq_getElem al;exact bI e.on bK _ x NU (ez _ _ NU (ah e mm GL)) ab
theorem Mr{j:Nat} :∀{es:List Edge},B7 j es=true->∀e,e∈es->Region.binds .any e=true->e.on<j
 |[],_,e,he,_=>by cases he
 |f::es,h,e,he,af=>by
  simp only[B7,Bool.and_eq_true,Bool.or_eq_true,Bool.not_eq_true']at h;rcases List.mem_cons.1 he with rfl|he
  ·rcases h.1 with h1|h1
   ·rw[h1]at af;cases af
   ·exact c4.1 h1
  ·exact Mr h.2 e he af
def nE(E:Env)(ops:Array Oper)(x y:Oper) :Prop:=(z6 E x&&z6 E y)=false/\BD ops x y=true
theorem Qv{E:Env}{ops:Array Oper}{b j:Nat}{y:Oper} :∀(xs:List Oper) (i:Nat),DO E ops b j y xs i=true->∀k x,xs[k]? =some x->i+k<j->iO b (i+k)=true\/nE E ops x y
 |[],i,_,k,x,aj,_=>by simp at aj
 |z::zs,i,h,k,x,aj,bK=>by
  simp only[DO]at h;rw[c4.2 (by omega),cond_true,Bool.and_eq_true,Bool.or_eq_true,Bool.and_eq_true,Bool.not_eq_true']at h;cases k with
  |zero=>simp at aj;subst aj;exact h.1
  |succ k=>
   have:=Qv zs (i+1) h.2 k x (by simpa using aj) (by omega);rwa[show i+1+k=i+(k+1)by omega]at this
theorem RV{E:Env}{ops:Array Oper}{bs:List Nat} :∀(l:List Oper) (j:Nat),k3 E ops bs l j=true->∀k y,l[k]? =some y->
  (∀e,e∈y.after->Region.binds .any e=true->e.on<j+k)/\∀i x,ops[i]? =some x->i<j+k->iO (bs.getD (j+k) 0) i=true\/nE E ops x y
 |[],j,_,k,y,aj=>by simp at aj
 |z::zs,j,h,k,y,aj=>by
  simp only[k3,Bool.and_eq_true]at h;cases k with
  |zero=>
   simp at aj;subst aj;refine⟨λe he af=>Mr h.1.1 e (by simpa using he) af,λi x ab U=> ?_⟩;have:=Qv ops.toList 0 h.1.2 i x (by simpa using ab) (by omega);simpa using this
  |succ k=>
   have:=RV zs (j+1) h.2 k y (by simpa using aj);rwa[show j+1+k=j+(k+1)by omega]at this
theorem apart_spec{ops:Array Oper}{x y:Oper}(h:BD ops x y=true) :
  (∀d,x.dst=some d->d∉tmpsOf ops y)/\(∀d,x.dst=some d->y.dst≠some d)/\(∀d,y.dst=some d->d∉tmpsOf ops x):=by
 unfold BD at h;refine⟨λd ao hm=> ?_,λd ao he=> ?_,λd ao hm=> ?_⟩
 ·rw[ao]at h;simp only[xS.2 hm,Bool.not_true,Bool.false_and]at h;cases h
 ·rw[ao,he]at h;simp only[Go.a6.beq_true.2 rfl,Bool.not_true,Bool.and_false,Bool.false_and]at h;cases h
 ·rw[ao]at h;simp only[xS.2 hm,Bool.not_true,Bool.and_false]at h;cases h
structure Bw(E:Env)(F:ff)(ops:Array Oper)(base i:Nat)(o:Oper)(s aS:cl)(v:J) :Prop where
 dst:∀t,o.dst=some t->t<s.n
 gI:aS={s with r:=fc s.r o.dst v,h:=aS.h}
 off:gB ops s.r o=false->v=.undef/\aS.h=s.h
 act:kindOf E o.op=.act->∀b9,rh ops o b9 s.r->js E F ops o {s with r:=b9}=some {s with r:=fc b9 o.dst v,h:=aS.h}
 make:kindOf E o.op=.make->gB ops s.r o=true->∃f bP,jq E s.r o.op=some (f,bP)/\v=f (base+i)/\aS.h=s.h.put (base+i) bP
 look:kindOf E o.op=.look->gB ops s.r o=true->ep E s.r s.h o.op=some v/\aS.h=s.h
def nI(E:Env)(S:Nat->cl) :List Oper->Nat->List (Nat×ag)
 |[],_=>[]
 |o::rest,i=>match kindOf E o.op with
  | .act=>(i,(S i).h)::nI E S rest (i+1)
  |_=>nI E S rest (i+1)
theorem Ll{E:Env}{S p8:Nat->cl} :∀(l:List Oper) (i:Nat),(∀j,i<=j->S j=p8 j)->nI E S l i=nI E p8 l i
 |[],_,_=>rfl
 |o::rest,i,h=>by simp only[nI,h i (Nat.le_refl _),Ll rest (i+1) λj az=>h j (by omega)]
theorem Sw{E:Env}{F:ff}{ops:Array Oper}{base:Nat} :∀(l:List Oper) (i:Nat) (s:cl) (gs:List (Nat×ag)) (ls:List Seen) (aS:cl) (fq:List (Nat×ag)) (eO:List Seen),
  iP E F ops base l i s gs ls=some (aS,fq,eO)->∃(S:Nat->cl) (V:Nat->J),S i=s/\S (i+l.length)=aS/\
   (∀k o,l[k]? =some o->Bw E F ops base (i+k) o (S (i+k)) (S (i+k+1)) (V (i+k)))/\fq=(nI E S l i).reverse++gs/\(∀x,x∈ls->x∈eO)/\
   (∀k o,l[k]? =some o->kindOf E o.op=.look->gB ops (S (i+k)).r o=true->({i:=i+k,o,r:=(S (i+k)).r,v:=V (i+k)} :Seen)∈eO)
 |[],i,s,gs,ls,aS,fq,eO,he=>by simp only[iP]at he;cases he;exact⟨λ_=>s,λ_=>.undef,rfl,rfl,λk o h=>by simp at h,by simp[nI],λx ab=>ab,λk o h=>by simp at h⟩
 |o::rest,i,s,gs,ls,aS,fq,eO,he=>by
  have build:∀(s1:cl) (v:J) (nO:List (Nat×ag)) (nh:List Seen),iP E F ops base rest (i+1) s1 nO nh=some (aS,fq,eO)->Bw E F ops base i o s s1 v->
    (nO=match kindOf E o.op with| .act=>(i,s.h)::gs|_=>gs)->(∀x,x∈ls->x∈nh)->(kindOf E o.op=.look->gB ops s.r o=true->({i,o,r:=s.r,v} :Seen)∈nh)->
    ∃(S:Nat->cl) (V:Nat->J),S i=s/\S (i+(o::rest).length)=aS/\
     (∀k bL,(o::rest)[k]? =some bL->Bw E F ops base (i+k) bL (S (i+k)) (S (i+k+1)) (V (i+k)))/\fq=(nI E S (o::rest) i).reverse++gs/\(∀x,x∈ls->x∈eO)/\
     (∀k bL,(o::rest)[k]? =some bL->kindOf E bL.op=.look->gB ops (S (i+k)).r bL=true->({i:=i+k,o:=bL,r:=(S (i+k)).r,v:=V (i+k)} :Seen)∈eO):=by
   intro s1 v nO nh ZY au aae zB Hb;obtain⟨S,V,h1,aa,av,aO,bb,cp⟩:=Sw rest (i+1) s1 nO nh aS fq eO ZY;let p8:Nat->cl:=λj=>if j=i then s else S j
   let tf:Nat->J:=λj=>if j=i then v else V j
   have tr:p8 i=s:=by simp[p8]
   have Mp:tf i=v:=by simp[tf]
   have w4:∀j,i<j->p8 j=S j:=λj az=>by simp only[p8];rw[if_neg (by omega)]
   have Mq:∀j,i<j->tf j=V j:=λj az=>by simp only[tf];rw[if_neg (by omega)]
   refine⟨p8,tf,tr,?_,λk bL aj=> ?_,?_,λx ab=>bb x (zB x ab),λk bL aj ar aE=> ?_⟩
   ·rw[w4 _ (by simp),List.length_cons,<-aa];congr 1;omega
   ·cases k with
    |zero=>
     simp at aj;subst aj;rw[Nat.add_zero,tr,Mp,w4 _ (by omega),h1];exact au
    |succ k=>
     have:=av k bL (by simpa using aj);rw[show i+(k+1)=i+1+k by omega,w4 _ (by omega),w4 _ (by omega),Mq _ (by omega)];exact this
   ·rw[aO,aae];have w6:=Ll (E:=E) (S:=p8) (p8:=S) rest (i+1) λj az=>w4 j (by omega)
    simp only[nI,tr,w6];cases kindOf E o.op<;>simp
   ·cases k with
    |zero=>
     simp at aj;subst aj;rw[Nat.add_zero,tr]at aE|-;rw[Mp];exact bb _ (Hb ar aE)
    |succ k=>
     rw[show i+(k+1)=i+1+k by omega]at aE|-;rw[w4 _ (by omega)]at aE|-;rw[Mq _ (by omega)];exact cp k bL (by simpa using aj) ar aE
  simp only[iP]at he;split at he
  ·rename_i aj;split at he
   ·rename_i s1 h1;obtain⟨v,bc,bW,dA,e5⟩:=agl h1;exact build s1 v _ _ he ⟨bc,bW,dA,λ_=>e5,(λh=>by rw[aj]at h;cases h),(λh=>by rw[aj]at h;cases h)⟩ (by rw[aj]) (λx ab=>ab) (λh=>by rw[aj]at h;cases h)
   ·cases he
  ·rename_i aj aE;split at he
   ·rename_i f bP al;split at he
    ·rename_i s1 h1;obtain⟨d1,d2⟩:=v7 h1;refine build s1 _ _ _ he ⟨d1,by rw[d2],(λh=>by rw[aE]at h;cases h),(λh=>by rw[aj]at h;cases h),λ_ _=>⟨f,bP,al,rfl,by rw[d2]⟩,(λh=>by rw[aj]at h;cases h)⟩ (by rw[aj]) (λx ab=>ab) (λh=>by rw[aj]at h;cases h)
    ·cases he
   ·cases he
  ·rename_i aj aE;split at he
   ·rename_i v ae;split at he
    ·rename_i s1 h1;obtain⟨d1,d2⟩:=v7 h1;refine build s1 v _ _ he ⟨d1,by rw[d2],(λh=>by rw[aE]at h;cases h),(λh=>by rw[aj]at h;cases h),(λh=>by rw[aj]at h;cases h),λ_ _=>⟨ae,by rw[d2]⟩⟩ (by rw[aj]) (λx ab=>List.mem_cons_of_mem _ ab) (λ_ _=>List.mem_cons_self)
    ·cases he
   ·cases he
  ·rename_i aE tK;split at he
   ·rename_i s1 h1;obtain⟨d1,d2⟩:=v7 h1;have aj:kindOf E o.op≠.act:=λh=>tK h
    refine build s1 .undef _ _ he ⟨d1,by rw[d2],λ_=>⟨rfl,by rw[d2]⟩,λh=>absurd h aj,(λ_ h=>by rw[aE]at h;cases h),(λ_ h=>by rw[aE]at h;cases h)⟩ ?_ (λx ab=>ab) (λ_ h=>by rw[aE]at h;cases h);cases aap:kindOf E o.op<;>first|rfl|exact absurd aap aj
   ·cases he
theorem Pm{E:Env}{bs:List Nat}{gs:List (Nat×ag)}{last:ag} :∀{ls:List Seen},sm E bs gs last ls=true->∀s,s∈ls->o0 bs s.i (pQ E s) last gs=true
 |[],_,s,au=>by cases au
 |x::xs,h,s,au=>by
  simp only[sm,Bool.and_eq_true]at h;rcases List.mem_cons.1 au with rfl|au
  ·exact h.1
  ·exact Pm h.2 s au
theorem Pl{E:Env}{bs:List Nat}{i:Nat}{f:ag->Bool}{S:Nat->cl}{n p:Nat}{D:Nat->Prop}(h1:∀a,iO (bs.getD i 0) a=true->D a)(aa:∀a,D a->iO (bs.getD a 0) i=true->False) :
  ∀(l:List Oper) (k:Nat),k+l.length=n->k<=p->p<=n->(∀j o,l[j]? =some o->k+j<p->kindOf E o.op=.act->D (k+j))->(∀j o,l[j]? =some o->k+j=p->kindOf E o.op=.act/\¬D p)->
   o0 bs i f (S n).h (nI E S l k)=true->f (S p).h=true
 |[],k,al,aj,aD,_,_,hw=>by
  simp only[List.length_nil]at al;have:p=n:=by omega
  subst this;exact hw
 |o::rest,k,al,aj,aD,aU,lY,hw=>by
  have CR:k<p->o0 bs i f (S n).h (nI E S rest (k+1))=true->f (S p).h=true:=λbK vr=>
   Pl h1 aa rest (k+1) (by simp only[List.length_cons]at al;omega) bK aD
    (λj bL az ar hj=>by have:=aU (j+1) bL (by simpa using az) (by omega) hj;rwa[show k+(j+1)=k+1+j by omega]at this)
    (λj bL az he=>lY (j+1) bL (by simpa using az) (by omega)) vr
  simp only[nI]at hw;by_cases aaq:k=p
  ·subst aaq;obtain⟨rT,cL⟩:=lY 0 o rfl rfl;rw[rT]at hw;simp only[o0]at hw
   have af:iO (bs.getD i 0) k=false:=by
    cases af:iO (bs.getD i 0) k with
    |false=>rfl
    |true=>exact absurd (h1 k af) cL
   rw[af,cond_false,Bool.and_eq_true]at hw;exact hw.1
  ·have bK:k<p:=by omega
   cases hj:kindOf E o.op with
   |act=>
    rw[hj]at hw;simp only[o0]at hw;cases af:iO (bs.getD i 0) k with
    |true=>rw[af,cond_true]at hw;exact CR bK hw
    |false=>
     rw[af,cond_false,Bool.and_eq_true,Bool.or_eq_true]at hw;rcases hw.2 with hw|hw
     ·exact(aa k (aU 0 o rfl (by omega) hj) hw).elim
     ·exact CR bK hw
   |look=>rw[hj]at hw;exact CR bK hw
   |make=>rw[hj]at hw;exact CR bK hw
end Go.a6
end
