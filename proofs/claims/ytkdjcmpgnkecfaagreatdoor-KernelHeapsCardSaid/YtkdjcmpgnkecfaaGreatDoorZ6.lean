/-
  Texts T1 KA L6 L7 L8 N0 R0 R1 R2 R3 R4 R5 R6 R7 R8 R9 R10 R11 C1 C2 B0 L9 C3 G0 D1 D2 D3 D4 D5 L10 W1 W2 W3 W4 W8 L11 W10, joined; own names made short.
-/
import Derived.Test.YtkdjcmpgnkecfaaGreatDoorZ5
set_option linter.unusedVariables false
set_option linter.unusedSimpArgs false
set_option linter.unusedSectionVars false
set_option exponentiation.threshold 600
noncomputable section
namespace Go.Proofs.YtkdjcmpgnkecfaaGreatDoor
open Go.a6 Go.ChangeShapes Go.WideShapes Go.ChangeAt Go.RowKit Go.Deep
def Em(t:bj J) :Nat->List Int->Bool
 |_,[]=>true
 |i,n::l=>(match t.get i with
  |some (.int k m)=>ko k .i64&&h5 m n
  |_=>false) &&Em t (i+1) l
theorem R2{t:bj J} :∀{l:List Int} {i:Nat},Em t i l=true->∀(j:Nat) (n:Int),l[j]? =some n->t.get (i+j)=some (.int .i64 n)
 |[],_,_,j,n,h=>by cases h
 |m::l,i,aN,j,n,h=>by
  simp only[Em,Bool.and_eq_true]at aN;obtain⟨h1,aa⟩:=aN;cases j with
  |zero=>
   cases h;split at h1
   ·rename_i k fE aE;simp only[Bool.and_eq_true]at h1;rw[Nat.add_zero,aE,kP.1 h1.1,Gd.1 h1.2]
   ·cases h1
  |succ j=>
   have:=R2 aa j n (by simpa using h);rw[<-this];congr 1;omega
def wh:List J->ag->Option (J×ag)
 |[],h=>match h.get 0 with
  | .ro n t=>bif Nat.beq n 10&&Em t 0 ju then some (.bool true,h)else none
  |_=>none
 |_,_=>none
theorem ahF{W:World}{c:Array Value}{t:TypeId}{fr:Nat×Nat}{σ:Nat->Int}(aA:W.heap[0]? =some (.cells c t fr))(hw:∀(i:Nat) (n:Int),ju[i]? =some n->c[i]? =some (.int .i64 n)) :c_ σ (xT c.size) en W.heap where
 obj:=λid loc o hm aY=>by
  obtain⟨rfl,rfl⟩:=Kk id o aY;simp only[xT,if_true,Option.some.injEq]at hm;subst hm;have kr:=hw 9 8 rfl;have ev:9<c.size:=(Array.getElem?_eq_some_iff.1 kr).1;refine⟨λ_ _=>rfl,c,t,fr,aA,λi U=> ?_⟩;have eo:i<ju.length:=U;refine⟨.int .i64 ju[i],.int .i64 ju[i],?_,?_,rfl⟩
  ·show(bif Nat.blt i 10 then bj.get (bj.ofList (ju.map (J.int .i64))) i else none)=_;rw[c4.2 U,bj.tx,List.getElem?_map,List.getElem?_eq_getElem eo];rfl
  ·have:=hw i ju[i] (List.getElem?_eq_getElem eo);simpa using this
 inj:=λi j l bz U az _ _ _=>by
  unfold xT at U az;by_cases h1:i=0
  ·by_cases aa:j=0
   ·rw[h1,aa]
   ·rw[if_neg aa]at az;cases az
  ·rw[if_neg h1]at U;cases U
 lt:=λid loc hm=>by
  unfold xT at hm;by_cases h1:id=0
  ·rw[if_pos h1]at hm;cases hm;exact(Array.getElem?_eq_some_iff.1 aA).1
  ·rw[if_neg h1]at hm;cases hm
 gv:=λid hid=>by unfold xT;rw[if_neg];have:1<=id:=hid;omega
 jR:=λid hid=>by
  cases h:en.c7.get id with
  |none=>rfl
  |some o=>
   obtain⟨rfl,_⟩:=Kk id o h;have:1<=0:=hid;omega
theorem aj3{f:FuncId}{fn:Func}(j4:∀fs,(env fs).fn f=some fn)(af:fn.body=some (fn.body.getD .skip)){N:Nat}
  (he:((fns (env []) ta N).call (.func f [] []) [] en).map (·.1)=some (.bool true)) {fs:List Fact} {σ:Nat->Int} (ok:cX Tryz.prog (env fs) σ) :wL Tryz.prog (env fs) σ f wh:=by
 intro args h v bg aD μ w us aE rel hu;cases ah:(fns (env []) ta N).call (.func f [] []) [] en with
 |none=>rw[ah]at he;cases he
 |some r=>
  obtain⟨v0,h0⟩:=r;rw[ah]at he;simp only[Option.map_some,Option.some.injEq]at he;subst he;unfold wh at aD;split at aD
  ·rename_i ab;split at aD
   ·rename_i n t jE;replace aD:=c' aD;obtain⟨m4,aD⟩:=aD;cases aD;simp only[Bool.and_eq_true]at m4;have al:=a6.beq_true.1 m4.1;subst al;obtain⟨room,hm⟩:=aE 0 (by show 0<1;omega);have aY:=ag.lT (h:=h) (id:=0) (by rw[jE];exact λe=>by cases e);rw[jE]at aY;obtain⟨_,c,E,fr,aA,iy⟩:=rel.obj 0 _ _ hm aY
    have hw:∀(i:Nat) (n:Int),ju[i]? =some n->c[i]? =some (.int .i64 n):=by
     intro i n U
     have CF:i<10:=by have:=(List.getElem?_eq_some_iff.1 U).1;simpa [ju]using this
     obtain⟨a,y,h1,aa,av⟩:=iy i CF;have rQ:(bif Nat.blt i 10 then bj.get t i else none)=some a:=h1;have aN:=R2 m4.2 i n U;rw[Nat.zero_add]at aN;rw[c4.2 CF,cond_true,aN]at rQ;cases rQ;rw[show(0:Nat) +i=i by omega]at aa;rw[aa,show y=_ from av]
    have a7:us= #[]:=by apply Array.ext';exact hu
    subst a7;have IV:=Mu [] (λ_=>0) (λf aB=>by cases aB);have ahE:=ahF (σ:=λ_=>0) aA hw;refine FN ok (j4 fs) af rel ((LX IV (Ci IV (QC IV) N) (j4 []) af ah (μ:=xT c.size) (w:=w) (us:= #[]) (λg aE=> ?_) ahE rfl).mono λe hM ⟨q,bu,h1,aa,av,aO⟩=>⟨q,h1,aa,LB av aO ?_⟩)
    ·have:g=0:=by
      have:g<1:=aE;omega
     subst this;exact⟨c.size,rfl⟩
    ·rintro b ⟨id,loc,o,hm,aY,ar,_⟩;obtain⟨rfl,rfl⟩:=Kk id o aY;cases ar
   ·cases aD
  ·cases aD
section
open Go.a6
def VI:Option (J×ag):=(fns (env []) ta 300).call (.func 61 [] []) [] en
theorem VJ:VI.map (·.1)=some (.bool true):=by kernel_rfl
theorem YC(fs:List Fact) :(env fs).fn 61=some Tryz.f61:=by kernel_rfl
theorem Yx:Tryz.f61.body=some (Tryz.f61.body.getD .skip):=by kernel_rfl
def lL:cw:=qV ((61,wh)::Aw)
theorem agV{fs:List Fact}{σ:Nat->Int}(ok:cX Tryz.prog (env fs) σ) :tc Tryz.prog (env fs) σ lL:=
 Ax (aj3 YC Yx VJ ok) (QC ok)
end
end Go.Proofs.YtkdjcmpgnkecfaaGreatDoor
namespace Go.a6
section
@[simp] theorem ak {α:Type} (a:α) (k:α->Option br) :cd (some a) k=k a:=rfl
@[simp] theorem alz {α:Type} (k:α->Option br) :cd none k=none:=rfl
@[simp] theorem c1 (v:J) (h:ag) (k:J->ag->Option br) :eM (some (v,h)) k=k v h:=rfl
@[simp] theorem alA (k:J->ag->Option br) :eM none k=none:=rfl
@[simp] theorem mW (f:Nat->J) (bP:bp) (h:ag) (k:J->ag->Option br) :gy (some (f,bP)) h k=k (f h.next) (h.new bP):=rfl
@[simp] theorem aly (f:Nat->J) (bP:bp) (id:Nat) (h:ag) (k:J->ag->Option br) :jf (some (f,bP)) id h k=k (f id) (h.put id bP):=rfl
@[simp] theorem cO (x:cW) (vs:List J) (h:ag) (k:cW->List J->ag->Option br) :jg (some (x,vs,h)) k=k x vs h:=rfl
@[simp] theorem alB (k:cW->List J->ag->Option br) :jg none k=none:=rfl
@[simp] theorem bn (v:J) (vs:List J) (k:J->List J->Option br) :kc (v::vs) k=k v vs:=rfl
@[simp] theorem bd (k:Option br) :k6 [] k=k:=rfl
@[simp] theorem a1 (b:Bool) (x y:Option br) :j' (.bool b) x y=if b=true then x else y:=by cases b<;>rfl
@[simp] theorem cJ (x w:Bool) (a b:Option br) :iG (.bool x) w a b=if x=w then a else b:=by cases x<;>cases w<;>rfl
@[simp] theorem DK (w:Bool) (a b:Option br) :iG .undef w a b=b:=rfl
@[simp] theorem cB (b:Bool) (x y:J) :iX (.bool b) x y=some (if b=true then x else y):=by cases b<;>rfl
@[simp] theorem hf (a b:Option br) (c:Nat->Option br) :lk .normal a b c=a:=rfl
@[simp] theorem B8 (a b:Option br) (c:Nat->Option br) :lk .ret a b c=b:=rfl
@[simp] theorem alH (i:Nat) (a b:Option br) (c:Nat->Option br) :lk (.exit i) a b c=c i:=rfl
@[simp] theorem qj (id:Nat) (a b:Option br) (c:Nat->Option br) :lQ id .ret a b c=b:=rfl
@[simp] theorem fZ (id i:Nat) (a b:Option br) (c:Nat->Option br) :lQ id (.exit i) a b c=if i=id then a else c i:=by
 show(bif Nat.beq i id then a else c i)=_;by_cases h:i=id
 ·rw[if_pos h,beq_true.2 h];rfl
 ·rw[if_neg h,beq_false.2 h];rfl
@[simp] theorem dh (f:ag->Option J) (v:J) (k:Option br) :hZ [] f v k=k:=rfl
theorem wT{g:ag}{gs:List ag}{f:ag->Option J}{v:J}{k:Option br}(h:f g=some v) :hZ (g::gs) f v k=hZ gs f v k:=by show(match f g with|some w=>bif J.beq w v then hZ gs f v k else none|none=>none)=_;rw[h];show(bif J.beq v v then hZ gs f v k else none)=_;rw[J.beq_refl];rfl
end
section
variable{E:Env}{h:ag}{t:TypeId}
theorem wrap_i64{n:Int}(h1: -9223372036854775808<=n)(aa:n<9223372036854775808) :bF .i64 n=n:=by rw[nA];simp only[IntKind.wrap,IntKind.bits,IntKind.signed];simp[Int.bmod];omega
theorem wrap_u64{n:Int}(h1:0<=n)(aa:n<18446744073709551616) :bF .u64 n=n:=by rw[nA];simp only[IntKind.wrap,IntKind.bits,IntKind.signed];simp;omega
theorem wrap_u8{n:Int}(h1:0<=n)(aa:n<256) :bF .u8 n=n:=by rw[nA];simp only[IntKind.wrap,IntKind.bits,IntKind.signed];simp;omega
@[simp] theorem cP (k:IntKind) (a b:Int) :cV E h .add t (.int k a) (.int k b)=some (.int k (bF k (a+b))):=by simp[cV,jF,lR,lZ]
@[simp] theorem e4 (k:IntKind) (a b:Int) :cV E h .sub t (.int k a) (.int k b)=some (.int k (bF k (a-b))):=by simp[cV,jF,lR,lZ]
@[simp] theorem k' (k:IntKind) (a b:Int) :cV E h .mul t (.int k a) (.int k b)=some (.int k (bF k (a*b))):=by simp[cV,jF,lR,lZ]
theorem yP(k:IntKind){a b:Int}(af:b≠0) :cV E h .quo t (.int k a) (.int k b)=some (.int k (bF k (a.tdiv b))):=by
 have:h5 b 0=false:=by rw[oJ];simpa using af
 simp[cV,jF,lR,lZ,this]
theorem ti(k:IntKind){a b:Int}(af:b≠0) :cV E h .rem t (.int k a) (.int k b)=some (.int k (a.tmod b)):=by
 have:h5 b 0=false:=by rw[oJ];simpa using af
 simp[cV,jF,lR,lZ,this]
@[simp] theorem Fx (k:IntKind) (a b:Int) :cV E h .and t (.int k a) (.int k b)=some (.int k (l_ k a b)):=by simp[cV,jF,lR,lZ,Lp]
@[simp] theorem LC (k:IntKind) (a b:Int) :cV E h .or t (.int k a) (.int k b)=some (.int k (pT k a b)):=by simp[cV,jF,lR,lZ,Qm]
@[simp] theorem c2 (k:IntKind) (a b:Int) :cV E h .eql t (.int k a) (.int k b)=some (.bool (decide (a=b))):=by simp[cV,jF,lR,lZ,oJ];rw[Bool.eq_iff_iff];simp
@[simp] theorem dc (k:IntKind) (a b:Int) :cV E h .neq t (.int k a) (.int k b)=some (.bool (decide (a≠b))):=by simp[cV,jF,lR,lZ,oJ];rw[Bool.eq_iff_iff];simp
@[simp] theorem cQ (k:IntKind) (a b:Int) :cV E h .lss t (.int k a) (.int k b)=some (.bool (decide (a<b))):=by simp[cV,jF,lR,lZ,oa]
@[simp] theorem h2 (k:IntKind) (a b:Int) :cV E h .leq t (.int k a) (.int k b)=some (.bool (decide (a<=b))):=by simp[cV,jF,lR,lZ,tU]
@[simp] theorem hO (k:IntKind) (a b:Int) :cV E h .gtr t (.int k a) (.int k b)=some (.bool (decide (b<a))):=by simp[cV,jF,lR,lZ,oa]
@[simp] theorem fk (k:IntKind) (a b:Int) :cV E h .geq t (.int k a) (.int k b)=some (.bool (decide (b<=a))):=by simp[cV,jF,lR,lZ,tU]
theorem LD(k j:IntKind)(a:Int)(n:Nat) :cV E h .shl t (.int k a) (.int j (.ofNat n))=some (.int k (bF k (a*2^(min n k.bits)))):=by simp[cV,jF,AM]
theorem LF(k j:IntKind)(a:Int)(n:Nat) :cV E h .shr t (.int k a) (.int j (.ofNat n))=some (.int k (a.fdiv (2^(min n k.bits)))):=by simp[cV,jF,AM]
@[simp] theorem fA (b:Bool) :k5 .not (.bool b)=some (.bool !b):=rfl
@[simp] theorem amW (k:IntKind) (n:Int) :k5 .neg (.int k n)=some (.int k (bF k (0-n))):=rfl
@[simp] theorem b2 (a b:Nat) :kY (.ptr a b)=some (.ptr a b):=rfl
@[simp] theorem amP (f:FuncId) (a b:List J) :kY (.func f a b)=some (.func f a b):=rfl
@[simp] theorem fM (vs:List J) (i:Nat) :j2 (.tuple vs) i=vs[i]? :=rfl
@[simp] theorem alD (l a bz b:Nat) :cV E h .eql t (.str l a) (.str bz b)=some (.bool (Nat.beq l bz&&Nat.beq a b)):=rfl
@[simp] theorem alE (l a bz b:Nat) :cV E h .neq t (.str l a) (.str bz b)=some (.bool (!(Nat.beq l bz&&Nat.beq a b))):=rfl
@[simp] theorem VW (l a bz b:Nat) :cV E h .add t (.str l a) (.str bz b)=Ei l a bz b:=rfl
end
section
theorem M5(h:ag)(i j:Nat)(o:bp) :(h.put i o).get j=if j=i then o else h.get j:=by unfold ag.get;rw[l7];by_cases e:j=i<;>simp[e]
theorem M3(h:ag)(j:Nat)(o:bp) :(h.new o).get j=if j=h.next then o else h.get j:=by unfold ag.get;rw[mR];by_cases e:j=h.next<;>simp[e]
@[simp] theorem kR (h:ag) (i:Nat) (o:bp) :(h.put i o).get i=o:=by rw[M5,if_pos rfl]
theorem nM{h:ag}{i j:Nat}{o:bp}(e:j≠i) :(h.put i o).get j=h.get j:=by rw[M5,if_neg e]
@[simp] theorem mf (h:ag) (o:bp) :(h.new o).get h.next=o:=by rw[M3,if_pos rfl]
theorem u4{h:ag}{j:Nat}{o:bp}(e:j<h.next) :(h.new o).get j=h.get j:=by rw[M3,if_neg (by omega)]
@[simp] theorem M6 (h:ag) (k j:Nat) :(h.aV k).get j=h.get j:=rfl
@[simp] theorem amL (h:ag) (i:Nat) (o:bp) :(h.put i o).next=h.next:=rfl
@[simp] theorem xW (h:ag) (o:bp) :(h.new o).next=h.next+1:=rfl
@[simp] theorem amM (h:ag) (k:Nat) :(h.aV k).next=h.next+k:=rfl
structure aF(S:Nat->Prop)(h bg:ag) :Prop where
 next:h.next<=bg.next
 get:∀i,i<h.next->¬S i->bg.get i=h.get i
abbrev aX(h bg:ag) :Prop:=aF (λ_=>False) h bg
theorem aF.refl(S:Nat->Prop)(h:ag) :aF S h h:=⟨Nat.le_refl _,λ_ _ _=>rfl⟩
theorem aF.trans{S:Nat->Prop}{a b c:ag}(x:aF S a b)(y:aF S b c) :aF S a c:=
 ⟨Nat.le_trans x.next y.next,λi U au=>(y.get i (Nat.lt_of_lt_of_le U x.next) au).trans (x.get i U au)⟩
theorem aF.mono{S T:Nat->Prop}{a b:ag}(x:aF S a b)(Ze:∀i,i<a.next->S i->T i) :aF T a b:=⟨x.next,λi U au=>x.get i U λh=>au (Ze i U h)⟩
theorem aF.new(S:Nat->Prop)(h:ag)(o:bp) :aF S h (h.new o):=⟨by simp,λi U _=>u4 U⟩
theorem aF.put{S:Nat->Prop}{h:ag}{i:Nat}(o:bp)(au:S i) :aF S h (h.put i o):=⟨by simp,λj _ az=>nM λe=>az (e▸au)⟩
theorem aF.sC{S:Nat->Prop}{h g:ag}{i:Nat}(o:bp)(x:aF S h g)(U:h.next<=i) :aF S h (g.put i o):=⟨x.next,λj az au=>by rw[nM (by omega)];exact x.get j az au⟩
theorem aF.aV(S:Nat->Prop)(h:ag)(k:Nat) :aF S h (h.aV k):=⟨by simp,λ_ _ _=>rfl⟩
structure Obj(h:ag)(id:Nat)(l:List J) :Prop where
 live:∃z t,h.get id=.cells l.length false z t
 rd:∀i,bE h id i=l[i]?
theorem QP{h bg:ag}{id:Nat}(e:bg.get id=h.get id)(i:Nat) :bE bg id i=bE h id i:=by unfold bE;rw[e]
theorem Obj.o6{h bg:ag}{id:Nat}{l:List J}(o:Obj h id l)(e:bg.get id=h.get id) :Obj bg id l:=⟨by rw[e];exact o.live,λi=>by rw[QP e];exact o.rd i⟩
theorem Obj.aq{S:Nat->Prop}{h bg:ag}{id:Nat}{l:List J}(o:Obj h id l)(u:aF S h bg)(U:id<h.next)(au:¬S id) :Obj bg id l:=o.o6 (u.get id U au)
theorem Obj.new(h:ag)(l:List J)(st:Bool)(z:List J) :Obj (h.new (.cells l.length false z (bj.ofList l))) h.next l:=by
 refine⟨⟨z,_,mf h _⟩,λi=> ?_⟩;unfold bE;rw[mf];show(bif Nat.blt i l.length then _ else none)=_;rw[bj.tx];by_cases U:i<l.length
 ·rw[c4.2 U,List.getElem?_eq_getElem U];rfl
 ·rw[show Nat.blt i l.length=false by rw[<-Bool.not_eq_true,c4];exact U,List.getElem?_eq_none (by omega)];rfl
theorem Obj.write{h:ag}{id:Nat}{l:List J}(o:Obj h id l){i:Nat}(U:i<l.length){v:J}(ae:dT v=true) :
  ∃bP,jc h id i [v]=some (h.put id bP)/\Obj (h.put id bP) id (l.set i v):=by
 obtain⟨z,t,e⟩:=o.live;refine⟨.cells l.length false z (t.set i v),?_,⟨⟨z,_,by rw[kR,List.length_set]⟩,λj=> ?_⟩⟩
 ·unfold jc;rw[e];simp only[bp.writes,bp.write,c4.2 U,ae,Bool.true_and,cond_true]
 ·have h0:=o.rd j;unfold bE at h0|-;rw[e]at h0;rw[kR];simp only[bp.cell]at h0|-;rw[bj.kq,List.getElem?_set];by_cases az:j=i
  ·subst az;simp[c4.2 U,U]
  ·rw[if_neg az,h0];have:¬i=j:=λe=>az e.symm
   rw[if_neg this]
end
theorem Ib{f:List J->ag->Option br}{I:Nat->List J->ag->Prop}{m:Nat}{Q:cW->List J->ag->Prop}
  (au:∀i vs h,i<=m->I i vs h->(i<m/\∃c9 bg,f vs h=some (.normal,c9,bg)/\I (i+1) c9 bg)\/(∃x c9 g,x≠.normal/\f vs h=some (x,c9,g)/\Q x c9 g)) :
  ∀(k i:Nat) vs h,i<=m->I i vs h->(i+2^k<=m/\∃c9 bg,fy k f vs h=some (.normal,c9,bg)/\I (i+2^k) c9 bg)\/(∃x c9 g,x≠.normal/\fy k f vs h=some (x,c9,g)/\Q x c9 g)
 |0,i,vs,h,U,jD=>by
  rcases au i vs h U jD with⟨h1,c9,bg,e,aa⟩ |⟨x,c9,g,ab,e,ay⟩
  ·exact .inl ⟨h1,c9,bg,e,aa⟩
  ·exact .inr ⟨x,c9,g,ab,e,ay⟩
 |k+1,i,vs,h,U,jD=>by
  have fz:2^(k+1)=2^k+2^k:=by omega
  rcases Ib au k i vs h U jD with⟨h1,c9,bg,e,aa⟩ |⟨x,c9,g,ab,e,ay⟩
  ·rcases Ib au k (i+2^k) c9 bg h1 aa with⟨av,EV,aO,aL,bb⟩ |⟨x,EV,g,ab,aL,ay⟩
   ·refine .inl ⟨by omega,EV,aO,?_,by rw[fz,<-Nat.add_assoc];exact bb⟩;unfold fy;rw[e];exact aL
   ·refine .inr ⟨x,EV,g,ab,?_,ay⟩;unfold fy;rw[e];exact aL
  ·refine .inr ⟨x,c9,g,ab,?_,ay⟩;unfold fy;rw[e];cases x<;>first|rfl|exact absurd rfl ab
theorem Po{f:List J->ag->Option br}(I:Nat->List J->ag->Prop)(m:Nat)(Q:cW->List J->ag->Prop){k:Nat}(hm:m<2^k)
  (au:∀i vs h,i<=m->I i vs h->(i<m/\∃c9 bg,f vs h=some (.normal,c9,bg)/\I (i+1) c9 bg)\/(∃x c9 g,x≠.normal/\f vs h=some (x,c9,g)/\Q x c9 g))
  {vs:List J} {h:ag} (h0:I 0 vs h) :∃x c9 g,fy k f vs h=some (x,c9,g)/\Q x c9 g:=by
 rcases Ib au k 0 vs h (by omega) h0 with⟨h1,_⟩ |⟨x,c9,g,_,e,ay⟩
 ·omega
 ·exact⟨x,c9,g,e,ay⟩
def aJ(o:Option br)(Q:cW->List J->ag->Prop) :Prop:=∃x vs g,o=some (x,vs,g)/\Q x vs g
def bN(o:Option (J×ag))(Q:J->ag->Prop) :Prop:=∃v g,o=some (v,g)/\Q v g
theorem aJ.pure{x:cW}{vs:List J}{g:ag}{Q:cW->List J->ag->Prop}(h:Q x vs g) :aJ (some (x,vs,g)) Q:=⟨x,vs,g,rfl,h⟩
theorem aJ.mono{o:Option br}{P Q:cW->List J->ag->Prop}(h:aJ o P)(k:∀x vs g,P x vs g->Q x vs g) :aJ o Q:=let⟨x,vs,g,e,q⟩:=h;⟨x,vs,g,e,k _ _ _ q⟩
theorem bN.mono{o:Option (J×ag)}{P Q:J->ag->Prop}(h:bN o P)(k:∀v g,P v g->Q v g) :bN o Q:=let⟨v,g,e,q⟩:=h;⟨v,g,e,k _ _ q⟩
theorem bN.of{v:J}{g:ag}{o:Option (J×ag)}{Q:J->ag->Prop}(e:o=some (v,g))(q:Q v g) :bN o Q:=⟨v,g,e,q⟩
theorem bN.mk{o:Option br}{c:Option (J×ag)}{Q:J->ag->Prop}(l:∀{x vs g},o=some (x,vs,g)->c=some (iY vs,g))(w:aJ o λ_ vs g=>Q (iY vs) g) :bN c Q:=let⟨x,vs,g,e,q⟩:=w;⟨_,g,l e,q⟩
section
variable{Q:cW->List J->ag->Prop}
theorem cD{α:Type}{o:Option α}{K:α->Option br}{a:α}(e:o=some a)(k:aJ (K a) Q) :aJ (cd o K) Q:=by rw[e];exact k
theorem cb{α:Type}{o:Option α}{K:α->Option br}{P:α->Prop}(h:∃a,o=some a/\P a)(k:∀a,P a->aJ (K a) Q) :aJ (cd o K) Q:=by obtain⟨a,e,p⟩:=h;rw[e];exact k a p
theorem bS{o:Option (J×ag)}{K:J->ag->Option br}{P:J->ag->Prop}(h:bN o P)(k:∀v g,P v g->aJ (K v g) Q) :aJ (eM o K) Q:=by obtain⟨v,g,e,p⟩:=h;rw[e];exact k v g p
theorem fV{o:Option br}{K:cW->List J->ag->Option br}{P:cW->List J->ag->Prop}(h:aJ o P)(k:∀x vs g,P x vs g->aJ (K x vs g) Q) :aJ (jg o K) Q:=by obtain⟨x,vs,g,e,p⟩:=h;rw[e];exact k x vs g p
theorem gW{f:List J->ag->Option br}{vs:List J}{h:ag}{n:Nat}{K:cW->List J->ag->Option br}{P:cW->List J->ag->Prop}(I:Nat->List J->ag->Prop)(m:Nat)(hm:m<2^n)(h0:I 0 vs h)
  (s:∀i vs h,i<=m->I i vs h->aJ (f vs h) λx c9 g=>(x=.normal/\i<m/\I (i+1) c9 g)\/(x≠.normal/\P x c9 g))
  (k:∀x vs g,P x vs g->aJ (K x vs g) Q) :aJ (jg (fy n f vs h) K) Q:=by
 refine fV (P:=P) ?_ k
 exact Po I m P hm (λi vs h U jD=>by
  obtain⟨x,c9,g,e,q⟩:=s i vs h U jD;rcases q with⟨rfl,h1,aa⟩ |⟨h1,aa⟩
  ·exact .inl ⟨h1,c9,g,e,aa⟩
  ·exact .inr ⟨x,c9,g,h1,e,aa⟩) h0
theorem KW{f:Nat->J}{bP:bp}{o:Option ((Nat->J) ×bp)}{h:ag}{K:J->ag->Option br}(e:o=some (f,bP))(k:∀g,g=h.new bP->aJ (K (f h.next) g) Q) :aJ (gy o h K) Q:=by rw[e];exact k _ rfl
theorem b1{f:Nat->J}{l:List J}{z:List J}{o:Option ((Nat->J) ×bp)}{h:ag}{K:J->ag->Option br}(e:o=some (f,.cells l.length false z (bj.ofList l)))
  (k:∀g,Obj g h.next l->g.next=h.next+1->aX h g->aJ (K (f h.next) g) Q) :aJ (gy o h K) Q:=by
 rw[e];exact k _ (Obj.new h l false z) rfl (aF.new _ _ _)
end
theorem Obj.get{h:ag}{id:Nat}{l:List J}(o:Obj h id l){i:Nat}{v:J}(e:l[i]? =some v) :bE h id i=some v:=by rw[o.rd];exact e
theorem Obj.ext{h g:ag}{id:Nat}{l:List J}(o:Obj h id l)(u:aX h g)(U:id<h.next) :Obj g id l:=o.aq u U (λe=>e)
theorem aF.ext{S:Nat->Prop}{h g:ag}(u:aX h g) :aF S h g:=u.mono λ_ _ e=>e.elim
theorem aF.local{S:Nat->Prop}{T:Nat->Prop}{h g bH:ag}(u:aF S h g)(v:aF T g bH)(hz:∀i,i<h.next->T i->S i) :aF S h bH:=⟨Nat.le_trans u.next v.next,λi U au=>(v.get i (Nat.lt_of_lt_of_le U u.next) (λk=>au (hz i U k))).trans (u.get i U au)⟩
end Go.a6
noncomputable section
namespace Go.a6
def un(a:List Nat) :List Nat->List Nat
 |[]=>a
 |t::l=>un (bif ob t a then a else a++[t]) l
def Jr(t:Nat) :List Nat->List Nat
 |[]=>[]
 |u::l=>bif Nat.beq u t then Jr t l else u::Jr t l
def meet(a:List Nat) :List Nat->List Nat
 |[]=>[]
 |t::l=>bif ob t a then t::meet a l else meet a l
structure Bt where
 n:List Nat
 r:List Nat
 x:List (Nat×List Nat)
def Gi(i:Nat) :List (Nat×List Nat)->List Nat
 |[]=>[]
 |(j,s)::l=>bif Nat.beq j i then s else Gi i l
def Du(ops:Array Oper)(out:List Nat) :List Oper->List Nat
 |[]=>out
 |o::l=>un (match o.dst with
  |some d=>Jr d (Du ops out l)
  |none=>Du ops out l) (tmpsOf ops o)
def MQ(f:List Nat->List Nat) :Nat->List Nat->List Nat
 |0,s=>s
 |k+1,s=>bif AS (f s) s then s else MQ f k (un s (f s))
def e0:Code->Bt->List Nat
 | .region _ ops _,L=>Du ops L.n ops.toList
 | .seq a b,L=>e0 a ⟨e0 b L,L.r,L.x⟩
 | .cond x a b,L=>un (un (e0 a L) (e0 b L)) (Kf x)
 | .block i c,L=>e0 c ⟨L.n,L.r,(i,L.n)::L.x⟩
 | .loop c,L=>MQ (λs=>e0 c ⟨s,L.r,L.x⟩) 9 []
 | .exit i,L=>Gi i L.x
 | .ret,L=>L.r
 | .scope c,L=>e0 c L
 | .refuse _,_=>[]
 |_,L=>L.n
def rL(i:Nat) :Code->Nat
 | .seq a b=>rL i a+rL i b
 | .cond _ a b=>rL i a+rL i b
 | .block _ c=>rL i c
 | .loop c=>rL i c
 | .scope c=>rL i c
 | .exit j=>bif Nat.beq j i then 1 else 0
 |_=>0
def qi:Code->Nat
 | .seq a b=>bif Nat.beq (qi a) 0 then 0 else qi b
 | .cond _ a b=>qi a+qi b
 | .block i c=>match c with
  | .loop _=>1
  |c=>qi c+rL i c
 | .loop _=>0
 | .scope c=>qi c
 | .exit _=>0
 | .ret=>0
 | .refuse _=>0
 | .goto _=>0
 |_=>1
def pU(kt:List Nat) :Code->List Nat
 | .seq a b=>un (pU kt a) (pU kt b)
 | .cond _ a b=>un (pU kt a) (pU kt b)
 | .block i c=>pU (i::kt) c
 | .loop c=>pU kt c
 | .scope c=>pU kt c
 | .exit i=>bif ob i kt then[]else[i]
 |_=>[]
def tC:Code->Bool
 | .seq a b=>tC a||tC b
 | .cond _ a b=>tC a||tC b
 | .block _ c=>tC c
 | .loop c=>tC c
 | .scope c=>tC c
 | .ret=>true
 |_=>false
def Ln(L:Bt) :List Nat->List Nat
 |[]=>[]
 |i::l=>un (Gi i L.x) (Ln L l)
def I5(ops:Array Oper)(out:List Nat) :List wK->List (List Nat)
 |[]=>[]
 |(none,_)::g=>I5 ops out g
 |(some _,l)::g=>meet (Du ops out (g.flatMap (·.2))) (un [] (fl l))::I5 ops out g
def Ox(t:Nat) :List Nat->List Nat
 |[]=>[t]
 |u::l=>bif Nat.beq t u then u::l else bif Nat.blt t u then t::u::l else u::Ox t l
def sM(l2:List Nat) :List Nat->List Nat
 |[]=>[]
 |t::l=>bif ob t l2 then Ox t (sM l2 l)else sM l2 l
def I9(L:Bt)(x:List Nat)(s:List Nat)(c:Code) :List Nat:=sM (un (un (un s L.n) (bif tC c then L.r else[])) (Ln L (pU x c))) (ki c)
def pv(L:Bt)(tail:Bool) :Code->lI
 | .region _ ops d=>bif d then .drawn else .sF (I5 ops L.n (u5 ops.toList))
 | .seq a b=>.seq (pv ⟨e0 b L,L.r,L.x⟩ false a) (bif Nat.beq (qi a) 0 then .leaf else pv L tail b)
 | .cond x a b=>bif Nat.blt 1 (qi a+qi b) && !tail then .cut (I9 L [] [] (.cond x a b)) (pU [] (.cond x a b)) (.cond (pv L true a) (pv L true b))else .cond (pv L tail a) (pv L tail b)
 | .block i c=>match c with
  | .loop c=>.loop (I9 L [i] (e0 (.loop c) ⟨L.n,L.r,(i,L.n)::L.x⟩) c) (pU [i] c) (pv ⟨e0 (.loop c) ⟨L.n,L.r,(i,L.n)::L.x⟩,L.r,(i,L.n)::L.x⟩ true c)
  |c=>bif Nat.blt 1 (qi c+rL i c) && !tail then .cut (I9 L [] [] (.block i c)) (pU [i] c) (.jY (pv ⟨L.n,L.r,(i,L.n)::L.x⟩ true c))else .jY (pv ⟨L.n,L.r,(i,L.n)::L.x⟩ tail c)
 | .scope c=>.JG (pv L tail c)
 |_=>.leaf
def DZ:List ResultVar->List Nat
 |[]=>[]
 | .tmp t::l=>un [t] (DZ l)
 | .cell t _::l=>un [t] (DZ l)
def Vz(f:Func) :lI:=match f.body with
 |some c=>pv ⟨DZ f.results.toList,DZ f.results.toList,[]⟩ true c
 |none=>.leaf
structure Ve(b:Bool) :Prop where h:b=true
theorem agi{b:Bool}{k:Option br}(h:Ve b) :mI b k=k:=by rw[h.h];rfl
theorem VG(h:ag)(i:Nat) :l' (mG h) i=h.next+i:=rfl
end Go.a6
namespace Go.Proofs.YtkdjcmpgnkecfaaGreatDoor
open Go.a6
def U':Env:=env []
def LT(i:Nat)(l:List J)(F:iL->ag->Option br) :Prop:=∀ ⦃PV:cw⦄ [db PV] ⦃h g:ag⦄ ⦃x:cW⦄ ⦃vs first mid cap:List J⦄,F (call ai PV) h=some (x,vs,g)->first++mid++cap=l->call ai PV (.func i first cap) mid h=some (iY vs,g)
def La(f:Func)(l:List J) :iL->ag->Option br:=λC h=>Gr ai U' C f (Vz f) l h
theorem cF{i:Nat}{l:List J}{F:iL->ag->Option br}(d:LT i l F){PV:cw} [db PV]{first mid cap:List J}{h:ag}{Q:J->ag->Prop}(ar:first++mid++cap=l)
 (w:aJ (F (call ai PV) h) λ_ vs g=>Q (iY vs) g) :bN (call ai PV (.func i first cap) mid h) Q:=
 bN.mk (λe=>d e ar) w
theorem aeL{i:Nat}{f:Func}{l:List J}{F:iL->ag->Option br}(e:La f l=F)(aB:ai.fn i=some f)(h:okF i=true/\ta i=none) :LT i l F:=
 λ_ _ _ _ _ _ _ _ _ aL ar=>Yr aB (QG h.1 h.2) ((congrFun (congrFun e _) _).trans aL) ar
theorem R(i:Nat)(f:Func)(l:List J){F:iL->ag->Option br}
 (e:La f l=F:=by conv=>lhs;reduce;simp(maxSteps:=9999999) (disch:=exact⟨by kernel_rfl⟩) only[↓agi,VG,Int.reduceOfNat,Int.reduceNegSucc])
 (aB:ai.fn i=some f:=by kernel_rfl) (h:okF i=true/\ta i=none:=by exact⟨rfl,by kernel_rfl⟩) :LT i l F:=aeL e aB h
end Go.Proofs.YtkdjcmpgnkecfaaGreatDoor
end
namespace Go.Proofs.YtkdjcmpgnkecfaaGreatDoor
open Go.a6
section
set_option linter.defProp false
set_option maxRecDepth 100000
set_option maxHeartbeats 9999999
section
attribute [local irreducible] cd eM gy jf jg kc k6 j' iG mI iX lk lQ hZ fy cV k5 dJ dU kY j2 ik dW hN h3 gY kW mF lf fS gN lS eV jn iD eW lO jI jH fJ jB jh kn iE ai ag.aV k3 l' mG
def aez{a0 aQ a2 a3:J}:=R 87 Tryz.f87 [a0,aQ,a2,a3]
def adf:=R 161 Tryz.f161 []
def O4{a0 aQ:J}:=R 175 Tryz.f175 [a0,aQ]
def adA{a0 aQ a2:J}:=R 211 Tryz.f211 [a0,aQ,a2]
def adT{a0 aQ:J}:=R 247 Tryz.f247 [a0,aQ]
def ad4{a0 aQ:J}:=R 262 Tryz.f262 [a0,aQ]
def ad7{a0 aQ:J}:=R 274 Tryz.f274 [a0,aQ]
def ad9{a0 aQ a2:J}:=R 299 Tryz.f299 [a0,aQ,a2]
def ael{a0 aQ:J}:=R 379 Tryz.f379 [a0,aQ]
end
end
section
set_option linter.defProp false
set_option maxRecDepth 100000
set_option maxHeartbeats 9999999
section
attribute [local irreducible] cd eM gy jf jg kc k6 j' iG mI iX lk lQ hZ fy cV k5 dJ dU kY j2 ik dW hN h3 gY kW mF lf fS gN lS eV jn iD eW lO jI jH fJ jB jh kn iE ai ag.aV k3 l' mG
def adb{a0:J}:=R 16 Tryz.f16 [a0]
def aet{a0 aQ:J}:=R 76 Tryz.f76 [a0,aQ]
def aeA{a0 aQ a2 a3 a4:J}:=R 88 Tryz.f88 [a0,aQ,a2,a3,a4]
def adg{a0 aQ:J}:=R 162 Tryz.f162 [a0,aQ]
def adp{a0 aQ:J}:=R 176 Tryz.f176 [a0,aQ]
def adB{a0 aQ a2:J}:=R 212 Tryz.f212 [a0,aQ,a2]
def adK{a0:J}:=R 236 Tryz.f236 [a0]
def adU{a0 aQ:J}:=R 248 Tryz.f248 [a0,aQ]
def O9{a0 aQ a2:J}:=R 263 Tryz.f263 [a0,aQ,a2]
end
end
section
set_option linter.defProp false
set_option maxRecDepth 100000
set_option maxHeartbeats 9999999
section
attribute [local irreducible] cd eM gy jf jg kc k6 j' iG mI iX lk lQ hZ fy cV k5 dJ dU kY j2 ik dW hN h3 gY kW mF lf fS gN lS eV jn iD eW lO jI jH fJ jB jh kn iE ai ag.aV k3 l' mG
def aeq{a0 aQ a2:J}:=R 53 Tryz.f53 [a0,aQ,a2]
def aeB{a0 aQ a2 a3 a4:J}:=R 89 Tryz.f89 [a0,aQ,a2,a3,a4]
def acZ{a0 aQ:J}:=R 102 Tryz.f102 [a0,aQ]
def adh{a0 aQ:J}:=R 163 Tryz.f163 [a0,aQ]
def adC{a0 aQ:J}:=R 213 Tryz.f213 [a0,aQ]
def adL{a0 aQ:J}:=R 237 Tryz.f237 [a0,aQ]
def adV{a0 aQ a2:J}:=R 249 Tryz.f249 [a0,aQ,a2]
def ad5{a0 aQ:J}:=R 264 Tryz.f264 [a0,aQ]
end
end
section
set_option linter.defProp false
set_option maxRecDepth 100000
set_option maxHeartbeats 9999999
section
attribute [local irreducible] cd eM gy jf jg kc k6 j' iG mI iX lk lQ hZ fy cV k5 dJ dU kY j2 ik dW hN h3 gY kW mF lf fS gN lS eV jn iD eW lO jI jH fJ jB jh kn iE ai ag.aV k3 l' mG
def ad_{a0:J}:=R 30 Tryz.f30 [a0]
def aeC{a0 aQ a2 a3:J}:=R 90 Tryz.f90 [a0,aQ,a2,a3]
def adi{a0 aQ:J}:=R 164 Tryz.f164 [a0,aQ]
def adq{a0 aQ:J}:=R 178 Tryz.f178 [a0,aQ]
def adD{a0 aQ:J}:=R 214 Tryz.f214 [a0,aQ]
def adH{a0 aQ:J}:=R 226 Tryz.f226 [a0,aQ]
def adM{a0:J}:=R 238 Tryz.f238 [a0]
def adW:=R 250 Tryz.f250 []
def ad6{a0:J}:=R 265 Tryz.f265 [a0]
end
end
section
set_option linter.defProp false
set_option maxRecDepth 100000
set_option maxHeartbeats 9999999
section
attribute [local irreducible] cd eM gy jf jg kc k6 j' iG mI iX lk lQ hZ fy cV k5 dJ dU kY j2 ik dW hN h3 gY kW mF lf fS gN lS eV jn iD eW lO jI jH fJ jB jh kn iE ai ag.aV k3 l' mG
def aeb{a0 aQ:J}:=R 31 Tryz.f31 [a0,aQ]
def aeD{a0 aQ a2 a3:J}:=R 91 Tryz.f91 [a0,aQ,a2,a3]
def ac2:=R 117 Tryz.f117 []
def ac8{a0 aQ a2:J}:=R 141 Tryz.f141 [a0,aQ,a2]
def adj{a0 aQ a2 a3 a4:J}:=R 165 Tryz.f165 [a0,aQ,a2,a3,a4]
def adr{a0:J}:=R 179 Tryz.f179 [a0]
def adI{a0 aQ:J}:=R 227 Tryz.f227 [a0,aQ]
def adN{a0 aQ:J}:=R 239 Tryz.f239 [a0,aQ]
def adX{a0 aQ a2:J}:=R 251 Tryz.f251 [a0,aQ,a2]
end
end
section
set_option linter.defProp false
set_option maxRecDepth 100000
set_option maxHeartbeats 9999999
section
attribute [local irreducible] cd eM gy jf jg kc k6 j' iG mI iX lk lQ hZ fy cV k5 dJ dU kY j2 ik dW hN h3 gY kW mF lf fS gN lS eV jn iD eW lO jI jH fJ jB jh kn iE ai ag.aV k3 l' mG
def aeu{a0:J}:=R 80 Tryz.f80 [a0]
def aeE{a0:J}:=R 92 Tryz.f92 [a0]
def ac3{a0:J}:=R 118 Tryz.f118 [a0]
def ac9{a0 aQ a2 a3:J}:=R 142 Tryz.f142 [a0,aQ,a2,a3]
def adk{a0 aQ:J}:=R 166 Tryz.f166 [a0,aQ]
def ads{a0 aQ:J}:=R 180 Tryz.f180 [a0,aQ]
def ady{a0 aQ a2:J}:=R 192 Tryz.f192 [a0,aQ,a2]
def adJ{a0 aQ:J}:=R 228 Tryz.f228 [a0,aQ]
def adO{a0 aQ:J}:=R 240 Tryz.f240 [a0,aQ]
def adY{a0 aQ:J}:=R 252 Tryz.f252 [a0,aQ]
def aec{a0 aQ:J}:=R 316 Tryz.f316 [a0,aQ]
end
end
section
set_option linter.defProp false
set_option maxRecDepth 100000
set_option maxHeartbeats 9999999
section
attribute [local irreducible] cd eM gy jf jg kc k6 j' iG mI iX lk lQ hZ fy cV k5 dJ dU kY j2 ik dW hN h3 gY kW mF lf fS gN lS eV jn iD eW lO jI jH fJ jB jh kn iE ai ag.aV k3 l' mG
def aei{a0 aQ a2 a3:J}:=R 33 Tryz.f33 [a0,aQ,a2,a3]
def aen{a0:J}:=R 45 Tryz.f45 [a0]
def aev{a0:J}:=R 81 Tryz.f81 [a0]
def aeF{a0:J}:=R 93 Tryz.f93 [a0]
def ac4{a0 aQ:J}:=R 119 Tryz.f119 [a0,aQ]
def ac6{a0 aQ:J}:=R 131 Tryz.f131 [a0,aQ]
def adl{a0 aQ a2 a3 a4:J}:=R 167 Tryz.f167 [a0,aQ,a2,a3,a4]
def adt{a0:J}:=R 181 Tryz.f181 [a0]
def adE{a0:J}:=R 217 Tryz.f217 [a0]
def O5{a0 aQ a2:J}:=R 229 Tryz.f229 [a0,aQ,a2]
def adP{a0 aQ:J}:=R 241 Tryz.f241 [a0,aQ]
def adZ{a0 aQ a2 a3:J}:=R 253 Tryz.f253 [a0,aQ,a2,a3]
def ad'{a0 aQ:J}:=R 305 Tryz.f305 [a0,aQ]
def aed{a0 aQ a2:J}:=R 317 Tryz.f317 [a0,aQ,a2]
def aek{a0 aQ a2:J}:=R 373 Tryz.f373 [a0,aQ,a2]
end
end
section
set_option linter.defProp false
set_option maxRecDepth 100000
set_option maxHeartbeats 9999999
section
attribute [local irreducible] cd eM gy jf jg kc k6 j' iG mI iX lk lQ hZ fy cV k5 dJ dU kY j2 ik dW hN h3 gY kW mF lf fS gN lS eV jn iD eW lO jI jH fJ jB jh kn iE ai ag.aV k3 l' mG
def adF{a0 aQ a2:J}:=R 22 Tryz.f22 [a0,aQ,a2]
def aej{a0:J}:=R 34 Tryz.f34 [a0]
def aeo{a0 aQ:J}:=R 46 Tryz.f46 [a0,aQ]
def aew{a0:J}:=R 82 Tryz.f82 [a0]
def aeG{a0:J}:=R 94 Tryz.f94 [a0]
def ac5{a0 aQ:J}:=R 120 Tryz.f120 [a0,aQ]
def ac_{a0:J}:=R 156 Tryz.f156 [a0]
def O2{a0 aQ a2 a3 a4:J}:=R 168 Tryz.f168 [a0,aQ,a2,a3,a4]
def adu{a0 aQ a2 a3:J}:=R 182 Tryz.f182 [a0,aQ,a2,a3]
def adz{a0 aQ a2:J}:=R 194 Tryz.f194 [a0,aQ,a2]
def adQ{a0 aQ:J}:=R 242 Tryz.f242 [a0,aQ]
def ad0{a0:J}:=R 254 Tryz.f254 [a0]
def aea{a0 aQ a2:J}:=R 306 Tryz.f306 [a0,aQ,a2]
def O'{a0:J}:=R 318 Tryz.f318 [a0]
end
end
section
set_option linter.defProp false
set_option maxRecDepth 100000
set_option maxHeartbeats 9999999
section
attribute [local irreducible] cd eM gy jf jg kc k6 j' iG mI iX lk lQ hZ fy cV k5 dJ dU kY j2 ik dW hN h3 gY kW mF lf fS gN lS eV jn iD eW lO jI jH fJ jB jh kn iE ai ag.aV k3 l' mG
def aex{a0:J}:=R 83 Tryz.f83 [a0]
def aeH{a0:J}:=R 96 Tryz.f96 [a0]
def ac0{a0 aQ a2:J}:=R 109 Tryz.f109 [a0,aQ,a2]
def ac'{a0:J}:=R 157 Tryz.f157 [a0]
def adm{a0 aQ a2:J}:=R 169 Tryz.f169 [a0,aQ,a2]
def adv{a0 aQ a2:J}:=R 183 Tryz.f183 [a0,aQ,a2]
def adR{a0 aQ:J}:=R 243 Tryz.f243 [a0,aQ]
def ad1{a0 aQ a2:J}:=R 255 Tryz.f255 [a0,aQ,a2]
def O_{a0 aQ:J}:=R 307 Tryz.f307 [a0,aQ]
def aee{a0 aQ a2:J}:=R 319 Tryz.f319 [a0,aQ,a2]
def Pa{a0 aQ:J}:=R 375 Tryz.f375 [a0,aQ]
end
end
section
set_option linter.defProp false
set_option maxRecDepth 100000
set_option maxHeartbeats 9999999
section
attribute [local irreducible] cd eM gy jf jg kc k6 j' iG mI iX lk lQ hZ fy cV k5 dJ dU kY j2 ik dW hN h3 gY kW mF lf fS gN lS eV jn iD eW lO jI jH fJ jB jh kn iE ai ag.aV k3 l' mG
def aep{a0:J}:=R 48 Tryz.f48 [a0]
def aey{a0 aQ:J}:=R 84 Tryz.f84 [a0,aQ]
def aeI{a0 aQ:J}:=R 97 Tryz.f97 [a0,aQ]
def ac1{a0 aQ:J}:=R 110 Tryz.f110 [a0,aQ]
def ac7{a0:J}:=R 134 Tryz.f134 [a0]
def ada{a0:J}:=R 158 Tryz.f158 [a0]
def O3{a0 aQ:J}:=R 170 Tryz.f170 [a0,aQ]
def adw{a0 aQ a2:J}:=R 184 Tryz.f184 [a0,aQ,a2]
def adG{a0 aQ a2:J}:=R 220 Tryz.f220 [a0,aQ,a2]
def O6{a0:J}:=R 244 Tryz.f244 [a0]
def ad2{a0 aQ:J}:=R 256 Tryz.f256 [a0,aQ]
def ad8{a0 aQ a2:J}:=R 295 Tryz.f295 [a0,aQ,a2]
def aef{a0 aQ a2:J}:=R 320 Tryz.f320 [a0,aQ,a2]
end
end
section
set_option linter.defProp false
set_option maxRecDepth 100000
set_option maxHeartbeats 9999999
section
attribute [local irreducible] cd eM gy jf jg kc k6 j' iG mI iX lk lQ hZ fy cV k5 dJ dU kY j2 ik dW hN h3 gY kW mF lf fS gN lS eV jn iD eW lO jI jH fJ jB jh kn iE ai ag.aV k3 l' mG
def aeJ{a0 aQ:J}:=R 98 Tryz.f98 [a0,aQ]
def O1{a0:J}:=R 159 Tryz.f159 [a0]
def adn{a0 aQ:J}:=R 171 Tryz.f171 [a0,aQ]
def adx{a0 aQ a2:J}:=R 185 Tryz.f185 [a0,aQ,a2]
def adS{a0 aQ a2:J}:=R 245 Tryz.f245 [a0,aQ,a2]
def ad3{a0 aQ a2:J}:=R 257 Tryz.f257 [a0,aQ,a2]
def aeg{a0:J}:=R 321 Tryz.f321 [a0]
def aem{a0:J}:=R 429 Tryz.f429 [a0]
end
end
section
set_option linter.defProp false
set_option maxRecDepth 100000
set_option maxHeartbeats 9999999
section
attribute [local irreducible] cd eM gy jf jg kc k6 j' iG mI iX lk lQ hZ fy cV k5 dJ dU kY j2 ik dW hN h3 gY kW mF lf fS gN lS eV jn iD eW lO jI jH fJ jB jh kn iE ai ag.aV k3 l' mG
def aer{a0 aQ a2:J}:=R 62 Tryz.f62 [a0,aQ,a2]
def aes:=R 74 Tryz.f74 []
def aeK{a0 aQ:J}:=R 99 Tryz.f99 [a0,aQ]
def ade{a0:J}:=R 160 Tryz.f160 [a0]
def ado{a0 aQ:J}:=R 174 Tryz.f174 [a0,aQ]
def O7{a0 aQ:J}:=R 246 Tryz.f246 [a0,aQ]
def O8{a0 aQ a2 a3 a4 a5 hY:J}:=R 258 Tryz.f258 [a0,aQ,a2,a3,a4,a5,hY]
def aeh{a0 aQ:J}:=R 325 Tryz.f325 [a0,aQ]
end
end
section
variable{PV:cw} [db PV]
theorem sl{E:Env}{t:TypeId}{i:bm}(aN:E.ty t=some i)(ao:nd i.desc=false)(h:ag)(id off:Nat) :dJ E h t (.ptr id off)=bE h id off:=by simp[dJ,loadT,aN,ao]
theorem ig(h:ag)(id off:Nat) :dJ ai h 3 (.ptr id off)=bE h id off:=sl (i:=q_) (by kernel_rfl) rfl h id off
def Bo:List Int:=[0,1,2,4,8,1,2,4,8,8]
structure jV(h:ag) :Prop where
 rd:∀k:Nat,k<10->bE h 0 k=some (.int .i64 (Bo.getD k 0))
 lt:0<h.next
theorem aci(n:Nat)(al:n<10) :eV ai 255 (.ptr 0 0) (.int .i64 n)=some (.ptr 0 n):=by
 have aw:ai.ty 255=some Ks:=by kernel_rfl
 have aL:ai.ty 3=some q_:=by kernel_rfl
 have:mB (n:Int) 10=some n:=by show(bif Nat.blt n 10 then some n else none)=some n;rw[c4.2 al];rfl
 simp only[eV,aw];show(match ai.ty 3,mB (n:Int) 10 with|some ie,some j=>some (J.ptr 0 (0+j*ie.size)) |_,_=>none)=_;rw[aL,this];show some (J.ptr 0 (0+n*1))=_;rw[Nat.zero_add,Nat.mul_one]
theorem yG{h:ag}(hw:jV h)(k:Nat)(aj:k<10) :call ai PV (.func 254 [] []) [.int .i64 k] h=some (.int .i64 (Bo.getD k 0),h):=by
 refine ad0 (x:=.ret) (vs:=[.int .i64 (Bo.getD k 0)]) (first:=[]) (cap:=[]) ?_ rfl;have h0:¬(k:Int) <0:=by omega
 have h1:¬(10:Int)<=k:=by omega
 simp[h0,h1,aci k aj,ig,hw.rd k aj]
theorem Ia{f:List J->ag->Option br}{st:Nat->List J×ag}{m:Nat}{x:cW}{vs:List J}{g:ag}(ab:x≠.normal)
  (al:∀i,i<m->f (st i).1 (st i).2=some (.normal,(st (i+1)).1,(st (i+1)).2)) (he:f (st m).1 (st m).2=some (x,vs,g)) :
  ∀(k i:Nat),i<=m->fy k f (st i).1 (st i).2=if i+2^k<=m then some (.normal,(st (i+2^k)).1,(st (i+2^k)).2)else some (x,vs,g)
 |0,i,U=>by
  show f _ _=_;by_cases h:i=m
  ·subst h;rw[he,if_neg (by omega)]
  ·rw[al i (by omega),if_pos (show i+1<=m by omega)]
 |k+1,i,U=>by
  have fz:2^(k+1)=2^k+2^k:=by omega
  unfold fy;rw[Ia ab al he k i U];by_cases h:i+2^k<=m
  ·rw[if_pos h];show fy k f _ _=_;rw[Ia ab al he k _ h];by_cases aa:i+2^(k+1)<=m
   ·rw[if_pos aa,if_pos (by omega),show i+2^k+2^k=i+2^(k+1)by omega]
   ·rw[if_neg aa,if_neg (by omega)]
  ·rw[if_neg h,if_neg (by omega)];cases x<;>first|rfl|exact absurd rfl ab
theorem aeV{f:List J->ag->Option br}(st:Nat->List J×ag)(m:Nat){k:Nat}{x:cW}{vs:List J}{g:ag}(ab:x≠.normal)(hm:m<2^k)
  (al:∀i,i<m->f (st i).1 (st i).2=some (.normal,(st (i+1)).1,(st (i+1)).2)) (he:f (st m).1 (st m).2=some (x,vs,g)) :fy k f (st 0).1 (st 0).2=some (x,vs,g):=by
 rw[Ia ab al he k 0 (by omega),if_neg (by omega)]
theorem Pn{f:List J->ag->Option br}(st:Nat->List J×ag)(m:Nat){k:Nat}{x:cW}{vs vs0:List J}{g h0:ag}(ab:x≠.normal)(hm:m<2^k)(h1:vs0=(st 0).1)(aa:h0=(st 0).2)
  (al:∀i,i<m->f (st i).1 (st i).2=some (.normal,(st (i+1)).1,(st (i+1)).2)) (he:f (st m).1 (st m).2=some (x,vs,g)) :fy k f vs0 h0=some (x,vs,g):=by
 rw[h1,aa];exact aeV st m ab hm al he
theorem ain(h:ag)(k:Int) :call ai PV (.func 321 [] []) [.int .i64 k] h=some (.bool (decide (5<=k/\k<=8)),h):=by refine aeg (x:=.ret) (vs:=[.bool (decide (5<=k/\k<=8))]) (first:=[]) (cap:=[]) ?_ rfl;by_cases bb:5<=k<;>by_cases dR:k<=8<;>simp[bb,dR]
theorem UW(h:ag)(at' n:Int)(all:Nat)(gn:all<2^62) :
  call ai PV (.func 255 [] []) [.int .i64 at',.int .i64 n,.int .i64 all] h=some (.bool (decide (0<=at'/\0<=n/\at'<=all/\n<=all-at')),h):=by
 refine ad1 (x:=.ret) (vs:=[.bool (decide (0<=at'/\0<=n/\at'<=all/\n<=all-at'))]) (first:=[]) (cap:=[]) ?_ rfl;by_cases h1:0<=at'
 ·by_cases aa:0<=n
  ·by_cases av:at'<=all
   ·have e:bF .i64 ((all:Int) -at')=all-at':=wrap_i64 (by omega) (by omega);simp[h1,aa,av,e]
   ·simp[h1,aa,av]
  ·simp[h1,aa]
 ·simp[h1]
theorem xO(h:ag)(l n:Nat) :eW ai h 9 (.str l n)=some (.int .i64 l):=by
 have e:ai.ty 9=some uA:=by kernel_rfl
 simp only[eW,e];rfl
theorem afG(h:ag)(l n:Nat)(ar:l<2^62)(at' w:Int) :
  call ai PV (.func 295 [] []) [.str l n,.int .i64 at',.int .i64 w] h=some (.bool (decide (1<=w/\w<=8/\0<=at'/\at'<=l/\w<=l-at')),h):=by
 refine ad8 (x:=.ret) (vs:=[.bool (decide (1<=w/\w<=8/\0<=at'/\at'<=l/\w<=l-at'))]) (first:=[]) (cap:=[]) ?_ rfl;by_cases h1:1<=w
 ·by_cases aa:w<=8
  ·have av:0<=w:=by omega
   simp[h1,aa,av,xO,UW h at' w l ar]
  ·simp[h1,aa]
 ·simp[h1]
theorem agu{a c i:Nat}(aU:a<2^(8*i))(au:a+c*2^(8*i) <2^64) :pT .u64 (a:Int) ((c*2^(8*i) :Nat) :Int)=((a+c*2^(8*i) :Nat) :Int):=by
 have aA:c*2^(8*i) <2^64:=by omega
 have Zi:a<2^64:=by omega
 unfold pT
 have e:(BitVec.ofInt IntKind.u64.bits (a:Int) |||BitVec.ofInt IntKind.u64.bits ((c*2^(8*i) :Nat) :Int)).toNat=a+c*2^(8*i):=by rw[BitVec.toNat_or,BitVec.ofInt_natCast,BitVec.ofInt_natCast,BitVec.toNat_ofNat,BitVec.toNat_ofNat];show a%2^64|||c*2^(8*i) %2^64=_;rw[Nat.mod_eq_of_lt Zi,Nat.mod_eq_of_lt aA,Nat.or_comm,<-Nat.shiftLeft_eq,<-Nat.shiftLeft_add_eq_or_of_lt aU,Nat.add_comm]
 rw[e,<-nA];exact wrap_u64 (by omega) (by omega)
theorem Xh(h:ag)(n:Int) :fS ai h 5 67 (.int .u8 n)=some (.int .u64 (bF .u64 n)):=by
 have aw:ai.ty 5=some ow:=by kernel_rfl
 have aL:ai.ty 67=some uz:=by kernel_rfl
 simp only[fS,aw,aL];rfl
theorem ab6(l n i:Nat)(U:i<l) :jn ai 9 (.str l n) (.int .i64 i)=some (.int .u8 (cC n i:Nat)):=by
 have aw:ai.ty 9=some uA:=by kernel_rfl
 have:mB (i:Int) l=some i:=by show(bif Nat.blt i l then some i else none)=some i;rw[c4.2 U];rfl
 simp only[jn,aw];show(match mB (i:Int) l with|some j=>some (J.int .u8 (.ofNat (cC n j))) |none=>none)=_;rw[this];rfl
def bT(n at' w:Nat) :Nat:=n/2^(8*at') %2^(8*w)
theorem PK(n at' w:Nat) :bT n at' (w+1)=bT n at' w+cC n (at'+w) *2^(8*w):=by unfold bT;rw[hP,Nat.mul_add,Nat.mul_add,Nat.pow_add 2 (8*at'),<-Nat.div_div_eq_div_mul];generalize n/2^(8*at')=m;rw[Nat.mul_one,Nat.pow_add,Nat.mod_mul,Nat.mul_comm (2^(8*w)) (m/_%_)]
theorem ky(n at' w:Nat) :bT n at' w<2^(8*w):=Nat.mod_lt _ (Nat.two_pow_pos _)
theorem M4(h:ag)(l n:Nat)(ar:l<2^62)(at' w:Nat)(h1:1<=w)(dR:w<=8)(eb:at'+w<=l) :
  call ai PV (.func 212 [] []) [.str l n,.int .i64 at',.int .i64 w] h=some (.tuple [.int .u64 (bT n at' w:Nat),.bool true],h):=by
 refine adB (x:=.ret) (vs:=[.int .u64 (bT n at' w:Nat),.bool true]) (first:=[]) (cap:=[]) ?_ rfl
 have ao:decide ((1:Int)<=w/\(w:Int)<=8/\(0:Int)<=at'/\(at':Int)<=l/\(w:Int)<=l-at')=true:=by rw[decide_eq_true_eq];omega
 dsimp only;rw[afG h l n ar,ao];simp only[c1,fA,ak,a1,Bool.not_true,Bool.false_eq_true,if_false];have z:bT n at' 0=0:=by simp[bT,Nat.mod_one]
 rw[Pn (λi=>([J.int .u64 (bT n at' i:Nat),.int .i64 (i:Nat)],h)) w (x:=.exit 0) (vs:=[.int .u64 (bT n at' w:Nat),.int .i64 (w:Nat)]) (g:=h) (by simp) (by omega) (by simp[z]) rfl]
 ·simp
 ·intro i U;have aw:(i:Int) <w:=by omega
  have aL:bF .i64 ((at':Int) +i)=((at'+i:Nat) :Int):=by rw[wrap_i64 (by omega) (by omega)];simp
  have af:=nJ n (at'+i);have bo:bF .u64 (cC n (at'+i) :Nat)=(cC n (at'+i) :Nat):=wrap_u64 (by omega) (by omega);have eh:bF .i64 (8*(i:Int))=Int.ofNat (8*i):=by rw[wrap_i64 (by omega) (by omega)];simp
  have e6:bF .i64 ((i:Int) +1)=((i+1:Nat) :Int):=by rw[wrap_i64 (by omega) (by omega)];simp
  have aD:cC n (at'+i) *2^(8*i) <2^64:=by
   have:cC n (at'+i) *2^(8*i) <256*2^(8*i):=Nat.mul_lt_mul_of_pos_right af (Nat.two_pow_pos _)
   have aa:256*2^(8*i)<=2^64:=by rw[show 256=2^8 by rfl,<-Nat.pow_add];exact Nat.pow_le_pow_right (by omega) (by omega)
   omega
  have hm:min (8*i) IntKind.u64.bits=8*i:=Nat.min_eq_left (by show 8*i<=64;omega)
  have jC:bF .u64 (((cC n (at'+i) :Nat) :Int) *2^(8*i))=((cC n (at'+i) *2^(8*i) :Nat) :Int):=by rw[show((cC n (at'+i) :Nat) :Int) *2^(8*i)=((cC n (at'+i) *2^(8*i) :Nat) :Int)by simp];exact wrap_u64 (by omega) (by omega)
  have oH:pT .u64 (bT n at' i:Nat) ((cC n (at'+i) *2^(8*i) :Nat) :Int)=(bT n at' (i+1) :Nat):=by rw[agu (ky _ _ _),PK];rw[<-PK];refine Nat.lt_of_lt_of_le (ky _ _ _) (Nat.pow_le_pow_right (by omega) (by omega))
  simp only[bn,bd,cQ,ak,a1,decide_eq_true_eq,if_pos aw,cP,aL,ab6 l n (at'+i) (by omega),Xh,bo,k',eh,LD,hm,jC,LC,oH,e6]
 ·have aw:¬(w:Int) <w:=by omega
  simp only[bn,bd,cQ,ak,a1,decide_eq_true_eq,if_neg aw]
end
section
variable{PV:cw} [db PV]
theorem tT(h:ag)(id off:Nat) :dJ ai h 64 (.ptr id off)=bE h id off:=sl (i:=yz) (by kernel_rfl) rfl h id off
theorem OV(h:ag)(id off:Nat) :dJ ai h 67 (.ptr id off)=bE h id off:=sl (i:=uz) (by kernel_rfl) rfl h id off
theorem acS(h:ag)(id off:Nat) :dJ ai h 135 (.ptr id off)=bE h id off:=sl (i:=pg) (by kernel_rfl) rfl h id off
theorem vH(h:ag)(id off:Nat) :dJ ai h 152 (.ptr id off)=bE h id off:=sl (i:=Kp) (by kernel_rfl) rfl h id off
theorem acT(h:ag)(id off:Nat) :dJ ai h 286 (.ptr id off)=bE h id off:=sl (i:=Kt) (by kernel_rfl) rfl h id off
theorem Yb(id off:Nat) :gN ai 268 (.ptr id off) 0=some (.ptr id off):=by kernel_rfl
theorem tu(id off:Nat) :gN ai 268 (.ptr id off) 1=some (.ptr id (off+1)):=by kernel_rfl
theorem w_(id off:Nat) :gN ai 268 (.ptr id off) 2=some (.ptr id (off+2)):=by kernel_rfl
theorem mY{x n:Nat}(h:x<=n) :oE (x:Int) n=some x:=by show(bif Nat.ble x n then some x else none)=_;rw[dr.2 h];rfl
theorem RB(h:ag){id off len cap l r:Nat}{ex:Bool}(h1:l<=r)(aa:r<=cap) :
  ik ai h 135 (.slice id off len cap 1 ex) (some (.int .i64 l)) (some (.int .i64 r)) none=some (.slice id (off+l) (r-l) (cap-l) 1 ex):=by
 have aw:ai.ty 135=some pg:=by kernel_rfl
 have aL:ai.ty 5=some ow:=by kernel_rfl
 show jP ai h 135 (.slice id off len cap 1 ex) (some (l:Int)) (some (r:Int)) none=_;simp only[jP,aw]
 show(match iv len cap ex (some (l:Int)) (some (r:Int)) none,ai.ty 5 with
  |some (l,h,m,ex),some ie=>bif Nat.beq ie.size 1 then some (J.slice id (off+l*1) (h-l) (m-l) 1 ex)else none
  |_,_=>none)=_
 rw[aL];simp only[iv,mY h1,mY aa];show some (J.slice id (off+l*1) (r-l) (cap-l) 1 ex)=_;rw[Nat.mul_one]
theorem yY(h:ag){id off len cap N size:Nat}{ex st:Bool}(aE:h.get id=.bytes size st N)(h0:0<len)(au:off+len<=size) :
  fS ai h 135 9 (.slice id off len cap 1 ex)=some (.str len (bT N off len)):=by
 have aw:ai.ty 135=some pg:=by kernel_rfl
 have aL:ai.ty 9=some uA:=by kernel_rfl
 have bo:ai.ty 5=some ow:=by kernel_rfl
 have ah:mK h id off len=some (bT N off len):=by unfold mK;rw[aE];show(bif Nat.ble (off+len) size then some (N>>> (8*off) %2^(8*len))else none)=_;rw[dr.2 au,Nat.shiftRight_eq_div_pow];rfl
 have af:Nat.beq len 0=false:=by rw[a6.beq_false];omega
 simp only[fS,aw,aL]
 show(match ai.ty 5 with
  |some ie=>bif hF ie.desc then(bif Nat.beq len 0 then some (J.str 0 0)else match mK h id off len with
   |some m=>some (J.str len m)
   |none=>none)else none
  |none=>none)=_
 rw[bo]
 show(bif Nat.beq len 0 then some (J.str 0 0)else match mK h id off len with
      |some m=>some (J.str len m)
      |none=>none)=_
 rw[af,ah];rfl
theorem tP{id off len cap:Nat}{ex:Bool}(n:Nat)(al:n<len) :eV ai 64 (.slice id off len cap 1 ex) (.int .i64 n)=some (.ptr id (off+n)):=by
 have aw:ai.ty 64=some yz:=by kernel_rfl
 have aL:ai.ty 3=some q_:=by kernel_rfl
 have:mB (n:Int) len=some n:=by show(bif Nat.blt n len then some n else none)=some n;rw[c4.2 al];rfl
 simp only[eV,aw];show(match ai.ty 3,mB (n:Int) len with|some ie,some j=>bif Nat.beq ie.size 1 then some (J.ptr id (off+j*1))else none|_,_=>none)=_;rw[aL,this];show some (J.ptr id (off+n*1))=_;rw[Nat.mul_one]
theorem Ds(h:ag)(id off len cap cu:Nat)(ex:Bool) :eW ai h 64 (.slice id off len cap cu ex)=some (.int .i64 len):=by
 have e:ai.ty 64=some yz:=by kernel_rfl
 simp only[eW,e];rfl
structure fB where
 p:Nat
 b:Nat
 q:Nat
 n:Nat
structure dw(h:ag)(A:fB)(mem held:Nat->Nat)(free:Nat) :Prop where
 n:A.n<=4096
 lt:A.p<h.next/\A.b<h.next/\A.q<h.next
 ne:A.p≠A.b/\A.p≠A.q/\A.b≠A.q
 str:∃aw aL,a6.Obj h A.p [.slice A.b 0 (64*A.n) (64*A.n) 1 aw,.slice A.q 0 A.n A.n 1 aL,.int .i64 free]
 bytes:∃st N,h.get A.b=.bytes (64*A.n) st N/\∀f,f<A.n->bT N (64*f) 64=mem f
 arr:a6.Obj h A.q ((List.range A.n).map λf=>J.int .i64 (held f))
section
variable{h:ag}{A:fB}{mem held:Nat->Nat}{free:Nat}
theorem dw.f0(aD:dw h A mem held free) :∃ex,bE h A.p 0=some (.slice A.b 0 (64*A.n) (64*A.n) 1 ex):=by obtain⟨aw,aL,o⟩:=aD.str;exact⟨aw,o.rd 0⟩
theorem dw.f1(aD:dw h A mem held free) :∃ex,bE h A.p 1=some (.slice A.q 0 A.n A.n 1 ex):=by obtain⟨aw,aL,o⟩:=aD.str;exact⟨aL,o.rd 1⟩
theorem dw.f2(aD:dw h A mem held free) :bE h A.p 2=some (.int .i64 free):=by obtain⟨aw,aL,o⟩:=aD.str;exact o.rd 2
theorem dw.hold(aD:dw h A mem held free)(f:Nat)(aB:f<A.n) :bE h A.q f=some (.int .i64 (held f)):=by rw[aD.arr.rd f];simp[aB]
end
section
variable{h:ag}{A:fB}{mem held:Nat->Nat}{free:Nat}
theorem x5(h:ag)(a b:Nat) :cV ai h .eql 152 (.ptr a b) .nilPtr=some (.bool false):=by kernel_rfl
theorem Gv(aD:dw h A mem held free){f:Nat}(aB:f<A.n) :∃ex,call ai PV (.func 241 [] []) [.ptr A.p 0,.int .i64 f] h=some (.slice A.b (64*f) 64 (64*A.n-64*f) 1 ex,h):=by
 obtain⟨ex,af⟩:=aD.f0;have al:=aD.n;refine⟨ex,adP (x:=.ret) (vs:=[.slice A.b (64*f) 64 (64*A.n-64*f) 1 ex]) (first:=[]) (cap:=[]) ?_ rfl⟩;have aw:bF .i64 ((f:Int) *64)=((64*f:Nat) :Int):=by rw[wrap_i64 (by omega) (by omega)];omega
 have aL:bF .i64 ((f:Int) +1)=((f+1:Nat) :Int):=by rw[wrap_i64 (by omega) (by omega)];simp
 have bo:bF .i64 (((f+1:Nat) :Int) *64)=((64*(f+1) :Nat) :Int):=by rw[wrap_i64 (by omega) (by omega)];omega
 simp only[b2,ak,Yb,acS,af,k',cP,aw,aL,bo];rw[RB h (by omega) (by omega)];simp only[ak,Nat.zero_add,show 64*(f+1) -64*f=64 by omega]
theorem uE(aD:dw h A mem held free){f:Nat}(aB:f<A.n)(aC:held f≠0){qb v:J}{g:ag}
  (aA:∀ex,call ai PV qb [.slice A.b (64*f) 64 (64*A.n-64*f) 1 ex] h=some (v,g)) :call ai PV (.func 183 [] []) [.ptr A.p 0,.int .i64 f,qb] h=some (v,g):=by
 obtain⟨ex,ay⟩:=aD.f1;obtain⟨fC,eT⟩:=Gv aD aB;have al:=aD.n;refine adv (x:=.ret) (vs:=[v]) (first:=[]) (cap:=[]) ?_ rfl;have h0:¬(f:Int) <0:=by omega
 have h1:¬(A.n:Int)<=f:=by omega
 have aa:¬(held f:Int)=0:=by omega
 simp[x5,h0,h1,aC,tu,tT,ig,ay,Ds,tP f aB,aD.hold f aB,eT,aA fC]
end
def qT(k:Nat) :Prop:=k=1\/k=2\/k=3\/k=4
def bM(k:Nat) :Nat:=if k=1 then 1 else if k=2 then 2 else if k=3 then 4 else 8
theorem yF{k:Nat}(aj:qT k) :Bo.getD k 0=(bM k:Int):=by rcases aj with rfl|rfl|rfl|rfl<;>rfl
theorem s7{k:Nat} :1<=bM k/\bM k<=8:=by unfold bM;split<;>(try split)<;>(try split)<;>omega
theorem L2{h:ag}(hw:jV h){k:Nat}(aj:qT k){m:Nat}(hm:m<2^(8*bM k)) :call ai PV (.func 256 [] []) [.int .i64 k,.int .u64 m] h=some (.int .u64 m,h):=by
 refine ad2 (x:=.ret) (vs:=[.int .u64 m]) (first:=[]) (cap:=[]) ?_ rfl;have pI:k<10:=by rcases aj with rfl|rfl|rfl|rfl<;>omega
 obtain⟨bV,kF⟩:=s7 (k:=k);have lh:¬((bM k:Nat) :Int)=0:=by omega
 have aw:bF .i64 (8*((bM k:Nat) :Int))=((8*bM k:Nat) :Int):=by rw[wrap_i64 (by omega) (by omega)];simp
 have aL:bF .i64 (64-((8*bM k:Nat) :Int))=Int.ofNat (64-8*bM k):=by rw[wrap_i64 (by omega) (by omega)];simp;omega
 have bo:¬(5<=(k:Int)/\(k:Int)<=8):=by rcases aj with rfl|rfl|rfl|rfl<;>omega
 have eh:decide (5<=(k:Int)/\(k:Int)<=8)=false:=decide_eq_false bo;have pL:min (64-8*bM k) IntKind.u64.bits=64-8*bM k:=Nat.min_eq_left (by show _<=64;omega)
 have bK:m*2^(64-8*bM k) <2^64:=by have:=Nat.mul_lt_mul_of_pos_right hm (Nat.two_pow_pos (64-8*bM k));rw[<-Nat.pow_add,show 8*bM k+(64-8*bM k)=64 by omega]at this;exact this
 have e6:bF .u64 ((m:Int) *2^(64-8*bM k))=((m*2^(64-8*bM k) :Nat) :Int):=by rw[show(m:Int) *2^(64-8*bM k)=((m*2^(64-8*bM k) :Nat) :Int)by simp];exact wrap_u64 (Int.natCast_nonneg _) (by generalize m*2^(64-8*bM k)=M at bK|-;omega)
 have jC:(((m*2^(64-8*bM k) :Nat) :Int)).fdiv (2^(64-8*bM k))=(m:Int):=by
  have:((2:Int) ^(64-8*bM k))=((2^(64-8*bM k) :Nat) :Int):=by simp
  rw[this,Int.fdiv_eq_ediv_of_nonneg _ (Int.natCast_nonneg _),<-Int.natCast_ediv,Nat.mul_div_cancel _ (Nat.two_pow_pos _)]
 simp only[yG hw k pI,yF aj,c1,c2,ak,a1,decide_eq_true_eq,if_neg lh,k',aw,e4,aL,ain,eh,Bool.false_eq_true,if_false,LD,pL,e6,LF,jC]
theorem aht{h:ag}(hw:jV h){k:Nat}(aj:qT k)(n:Nat) :call ai PV (.func 170 [] []) [.int .i64 k,.str (bM k) n] h=some (.tuple [.int .u64 (bT n 0 (bM k) :Nat),.int .i64 0],h):=by
 refine O3 (x:=.ret) (vs:=[.int .u64 (bT n 0 (bM k) :Nat),.int .i64 0]) (first:=[]) (cap:=[]) ?_ rfl;have pI:k<10:=by rcases aj with rfl|rfl|rfl|rfl<;>omega
 obtain⟨bV,kF⟩:=s7 (k:=k);have lh:¬((bM k:Nat) :Int)=0:=by omega
 have aw:decide (((bM k:Nat) :Int)≠(bM k:Nat))=false:=by simp
 have aE:=M4 h (bM k) n (by omega) 0 (bM k) bV kF (by omega);have zt:call ai PV (.func 212 [] []) [.str (bM k) n,.int .i64 0,.int .i64 (bM k:Nat)] h=some (.tuple [.int .u64 (bT n 0 (bM k) :Nat),.bool true],h):=aE;simp only[yG hw k pI,yF aj,c1,c2,ak,a1,decide_eq_true_eq,if_neg lh,xO,dc,aw,Bool.false_eq_true,if_false,zt,fM,List.getElem?_cons_zero,List.getElem?_cons_succ,L2 hw aj (ky n 0 (bM k))]
theorem afE(N o a w:Nat)(h:a+w<=64) :bT (bT N o 64) a w=bT N (o+a) w:=by
 unfold bT;have aw:8*(o+a)=8*o+8*a:=by omega
 rw[aw,Nat.pow_add,<-Nat.div_div_eq_div_mul];generalize N/2^(8*o)=M;have aL:8*64=8*a+(8*64-8*a):=by omega
 rw[aL,Nat.pow_add,Nat.mod_mul_right_div_self];rw[Nat.mod_mod_of_dvd];exact Nat.pow_dvd_pow 2 (by omega)
abbrev eY(v:J) :bp:=.cells 1 false [] (bj.ofList [v])
theorem uJ(n:Int) :h3 ai 3 (.int .i64 n)=some (λid=>J.ptr id 0,eY (.int .i64 n)):=by kernel_rfl
theorem LI(f:FuncId)(a b:List J) :h3 ai 286 (.func f a b)=some (λid=>J.ptr id 0,eY (.func f a b)):=by kernel_rfl
theorem Vw:hN ai 67=some (λid=>J.ptr id 0,eY (.int .u64 0)):=by kernel_rfl
theorem qW(h:ag)(v:J) :bE (h.new (eY v)) h.next 0=some v:=by unfold bE;rw[mf];rfl
theorem k1{h:ag}{o:bp}{j:Nat}(az:j<h.next)(i:Nat) :bE (h.new o) j i=bE h j i:=by unfold bE;rw[u4 az]
theorem cT(h:ag)(k j i:Nat) :bE (h.aV k) j i=bE h j i:=by unfold bE;rw[M6]
theorem Jk{S:Nat->Prop}{h bg:ag}(u:aF S h bg){j:Nat}(az:j<h.next)(au:¬S j)(i:Nat) :bE bg j i=bE h j i:=by unfold bE;rw[u.get j az au]
theorem jV.aq{S:Nat->Prop}{h bg:ag}(w:jV h)(u:aF S h bg)(au:¬S 0) :jV bg:=⟨λk aj=>by rw[Jk u w.lt au];exact w.rd k aj,Nat.lt_of_lt_of_le w.lt u.next⟩
theorem dw.aq{S:Nat->Prop}{h bg:ag}{A:fB}{mem held:Nat->Nat}{free:Nat}(aD:dw h A mem held free)(u:aF S h bg)(au:¬S A.p/\¬S A.b/\¬S A.q) :dw bg A mem held free where
 n:=aD.n
 lt:=⟨Nat.lt_of_lt_of_le aD.lt.1 u.next,Nat.lt_of_lt_of_le aD.lt.2.1 u.next,Nat.lt_of_lt_of_le aD.lt.2.2 u.next⟩
 ne:=aD.ne
 str:=let⟨aw,aL,o⟩:=aD.str;⟨aw,aL,o.aq u aD.lt.1 au.1⟩
 bytes:=by rw[u.get _ aD.lt.2.1 au.2.1];exact aD.bytes
 arr:=aD.arr.aq u aD.lt.2.2 au.2.2
theorem RQ{h:ag}{id:Nat}{st:Bool}{z:List J}{t:bj J}(aE:h.get id=.cells 1 st z t)(k:IntKind)(n:Int) :dU ai h 67 (.ptr id 0) (.int k n)=some (h.put id (.cells 1 st z (t.set 0 (.int k n)))):=by
 have e:ai.ty 67=some uz:=by kernel_rfl
 simp only[dU,storeT,e];show(bif Nat.beq 1 1&& !Nat.beq 1 0 then jc h id 0 [J.int k n]else none)=_
 show jc h id 0 [J.int k n]=_;unfold jc;rw[aE];rfl
theorem QN(h:ag)(id:Nat)(st:Bool)(z:List J)(t:bj J)(v:J) :bE (h.put id (.cells 1 st z (t.set 0 v))) id 0=some v:=by unfold bE;rw[kR];show(bif Nat.blt 0 1 then(match(t.set 0 v).get 0 with|some v=>some v|none=>z[0%z.length]?)else none)=_;rw[bj.kq,if_pos rfl];rfl
section
variable{h:ag}{A:fB}{mem held:Nat->Nat}{free:Nat}
theorem Lw(hw:jV h){k:Nat}(aj:qT k){vE ap qf:Nat}{b off cap:Nat}{ex:Bool}{at':Nat}{Mj v:J}{g:ag}
  (h1:bE h vE 0=some (.int .i64 k)) (aa:bE h ap 0=some (.int .i64 at')) (av:bE h qf 0=some Mj) (eb:at'+bM k<=64) (lq:64<=cap)
  (aA:call ai PV Mj [.slice b (off+at') (bM k) (cap-at') 1 ex] (h.aV 8)=some (v,g)) :
  call ai PV (.func 253 [] [.ptr vE 0,.ptr ap 0,.ptr qf 0]) [.slice b off 64 cap 1 ex] h=some (.int .i64 0,g):=by
 refine adZ (x:=.ret) (vs:=[.int .i64 0]) (first:=[]) (mid:=[.slice b off 64 cap 1 ex]) (cap:=[.ptr vE 0,.ptr ap 0,.ptr qf 0]) ?_ rfl;have pI:k<10:=by rcases aj with rfl|rfl|rfl|rfl<;>omega
 obtain⟨bV,kF⟩:=s7 (k:=k);have lh:¬((bM k:Nat) :Int)=0:=by omega
 have aw:decide ((0:Int)<=(at':Int)/\(0:Int)<=((bM k:Nat) :Int)/\(at':Int)<=((64:Nat) :Int)/\((bM k:Nat) :Int)<=((64:Nat) :Int) -at')=true:=by rw[decide_eq_true_eq];omega
 have aL:bF .i64 ((at':Int) +((bM k:Nat) :Int))=((at'+bM k:Nat) :Int):=by rw[wrap_i64 (by omega) (by omega)];simp
 have zU:=UW h at' (bM k:Nat) 64 (by omega);rw[aw]at zU;have C2:call ai PV (.func 255 [] []) [.int .i64 at',.int .i64 (bM k:Nat),.int .i64 64] h=some (.bool true,h):=zU;have au:=RB (h.aV 8) (id:=b) (off:=off) (len:=64) (cap:=cap) (l:=at') (r:=at'+bM k) (ex:=ex) (by omega) (by omega);rw[show at'+bM k-at'=bM k by omega]at au;simp only[ig,acT,cT,h1,aa,av,ak,yG hw k pI,yF aj,c1,c2,a1,decide_eq_true_eq,if_neg lh,C2,fA,Bool.not_true,Bool.false_eq_true,if_false,cP,aL,au,aA,dh]
theorem aeQ(hw:jV h){k:Nat}(aj:qT k){vE od:Nat}{b off cap size N:Nat}{ex st JT:Bool}{z:List J}{t:bj J}(h1:bE h vE 0=some (.int .i64 k))(aa:h.get od=.cells 1 JT z t)(af:h.get b=.bytes size st N)(eb:off+bM k<=size) :
  call ai PV (.func 169 [] [.ptr vE 0,.ptr od 0]) [.slice b off (bM k) cap 1 ex] h=some (.undef,h.put od (.cells 1 JT z (t.set 0 (.int .u64 (bT N off (bM k) :Nat))))):=by
 refine adm (x:=.ret) (vs:=[]) (first:=[]) (mid:=[.slice b off (bM k) cap 1 ex]) (cap:=[.ptr vE 0,.ptr od 0]) ?_ rfl;obtain⟨bV,kF⟩:=s7 (k:=k);have aA:=yY h (id:=b) (off:=off) (len:=bM k) (cap:=cap) (ex:=ex) af (by omega) eb;have ah:=aht hw aj (bT N off (bM k))
 have e:bT (bT N off (bM k)) 0 (bM k)=bT N off (bM k):=by unfold bT;simp
 rw[e]at ah;simp only[ig,h1,ak,aA,ah,c1,fM,List.getElem?_cons_zero,List.getElem?_cons_succ,RQ aa]
end
section
variable{h:ag}{A:fB}{mem held:Nat->Nat}{free:Nat}
theorem Ph(hw:jV h)(aD:dw h A mem held free)(alP:A.p≠0/\A.b≠0/\A.q≠0){k:Nat}(aj:qT k){f:Nat}(aB:f<A.n)(aC:held f≠0){at':Nat}(eb:at'+bM k<=64) :
  ∃g,call ai PV (.func 91 [] []) [.ptr A.p 0,.int .i64 f,.int .i64 at',.int .i64 k] h=some (.tuple [.int .u64 (bT (mem f) at' (bM k) :Nat),.int .i64 0],g)/\aX h g:=by
 have al:=aD.n;obtain⟨bV,kF⟩:=s7 (k:=k);let h1:=h.new (eY (.int .i64 k));let aa:=h1.new (eY (.int .u64 0));have g2:aa.get h1.next=eY (.int .u64 0):=mf _ _;let av:=aa.put h1.next (.cells 1 false [] ((bj.ofList [J.int .u64 0]).set 0 (.int .u64 0)));let aO:=av.new (eY (.int .i64 at'));let bb:=aO.new (eY (.int .i64 k));let cp:=bb.new (eY (.func 169 [] [.ptr h.next 0,.ptr h1.next 0]));have aW:aX h h1:=aF.new _ _ _;have a_:aX h aa:=aW.trans (aF.new _ _ _);have bw:aX h av:=a_.sC _ (by show h.next<=h.next+1;omega);have bA:aX h aO:=bw.trans (aF.new _ _ _);have bZ:aX h bb:=bA.trans (aF.new _ _ _);have b3:aX h cp:=bZ.trans (aF.new _ _ _);have dM:aX h (cp.aV 8):=b3.trans (aF.aV _ _ _);have dF:h1.next=h.next+1:=rfl;have eH:av.next=h.next+2:=rfl;have gb:aO.next=h.next+3:=rfl;have n5:bb.next=h.next+4:=rfl;have n6:cp.next=h.next+5:=rfl
 have cg:bE av h.next 0=some (.int .i64 k):=by show bE (aa.put h1.next _) h.next 0=_;rw[QP (nM (by omega)),k1 (by omega),qW]
 have sD:bE (cp.aV 8) h.next 0=some (.int .i64 k):=by rw[cT,k1 (by omega),k1 (by omega),k1 (by omega),cg]
 have cK:bE cp aO.next 0=some (.int .i64 k):=by rw[k1 (by omega),qW]
 have dG:bE cp av.next 0=some (.int .i64 at'):=by rw[k1 (by omega),k1 (by omega),qW]
 have eu:bE cp bb.next 0=some (.func 169 [] [.ptr h.next 0,.ptr h1.next 0]):=qW _ _
 have g7:(cp.aV 8).get h1.next=.cells 1 false [] ((bj.ofList [J.int .u64 0]).set 0 (.int .u64 0)):=by rw[M6,u4 (by omega),u4 (by omega),u4 (by omega),kR]
 have zL:dw cp A mem held free:=aD.aq b3 ⟨λe=>e,λe=>e,λe=>e⟩;have aa4:dw (cp.aV 8) A mem held free:=aD.aq dM ⟨λe=>e,λe=>e,λe=>e⟩;obtain⟨st,N,af,er⟩:=aa4.bytes;have aaj:64*f+at'+bM k<=64*A.n:=by omega
 have ar:=λex=>aeQ (ex:=ex) (hw.aq dM (λe=>e)) aj (b:=A.b) (off:=64*f+at') (cap:=64*A.n-64*f-at') sD g7 af aaj
 have xw:bT N (64*f+at') (bM k)=bT (mem f) at' (bM k):=by rw[<-er f aB,afE _ _ _ _ eb]
 simp only[xw]at ar;let g:=(cp.aV 8).put h1.next (.cells 1 false [] (((bj.ofList [J.int .u64 0]).set 0 (.int .u64 0)).set 0 (.int .u64 (bT (mem f) at' (bM k) :Nat))));have ja:aX h g:=dM.sC _ (by omega)
 have aA:∀ex,call ai PV (.func 253 [] [.ptr aO.next 0,.ptr av.next 0,.ptr bb.next 0]) [.slice A.b (64*f) 64 (64*A.n-64*f) 1 ex] cp=some (.int .i64 0,g):=λex=>
  Lw (hw.aq b3 (λe=>e)) aj cK dG eu eb (by omega) (ar ex)
 have n1:=uE zL aB aC aA
 have u9:call ai PV (.func 168 [] []) [.ptr A.p 0,.int .i64 f,.int .i64 at',.int .i64 k,.func 169 [] [.ptr h.next 0,.ptr h1.next 0]] av=some (.int .i64 0,g):=by refine O2 (x:=.ret) (vs:=[.int .i64 0]) (first:=[]) (cap:=[]) ?_ rfl;simp only[uJ,LI,mW];show eM (call ai PV (.func 183 [] []) [.ptr A.p 0,.int .i64 f,.func 253 [] [.ptr aO.next 0,.ptr av.next 0,.ptr bb.next 0]] cp) _=_;rw[n1];rfl
 refine⟨g,aeD (x:=.ret) (vs:=[.int .u64 (bT (mem f) at' (bM k) :Nat),.int .i64 0]) (first:=[]) (cap:=[]) ?_ rfl,ja⟩;simp only[uJ,Vw,mW];show cd (dU ai aa 67 (.ptr h1.next 0) (.int .u64 0)) _=_;rw[RQ g2,ak,ig];show cd (bE av h.next 0) _=_;rw[cg,ak];show eM (call ai PV (.func 168 [] []) [.ptr A.p 0,.int .i64 f,.int .i64 at',.int .i64 k,.func 169 [] [.ptr h.next 0,.ptr h1.next 0]] av) _=_;rw[u9,c1,OV];show cd (bE g h1.next 0) _=_;rw[QN,ak]
end
end
structure ba where
 here:Bool
 write:Bool
 copy:Bool
 out:Bool
 n:Int
def ba.zero:ba:=⟨false,false,false,false,0⟩
def ba.may(s:ba) :Bool:=(s.here !=s.out) &&decide (0<=s.n) &&decide (s.n<=1048576) && !(s.write&&s.copy)
instance:DecidableEq ba:=λa b=>
 if h:a.here=b.here/\a.write=b.write/\a.copy=b.copy/\a.out=b.out/\a.n=b.n then isTrue (by cases a;cases b;simp_all)else isFalse (by rintro rfl;simp at h)
def qP(f:Nat) :ba:=⟨true,false,false,false,f⟩
theorem Pz(f:Nat) :qP f≠.zero:=by intro h;injection h;contradiction
theorem ae9{s:ba}(h:s.may=true) :s≠.zero:=by rintro rfl;simp[ba.may,ba.zero]at h
def aq{α:Type}(f:Nat->α)(i:Nat)(v:α) :Nat->α:=λj=>if j=i then v else f j
def cr{α:Type}(f:Nat->Nat->α)(i j:Nat)(v:α) :Nat->Nat->α:=λa b=>if a=i/\b=j then v else f a b
@[simp] theorem e3 {α:Type} (f:Nat->α) (i:Nat) (v:α) :aq f i v i=v:=if_pos rfl
theorem ed{α:Type}(f:Nat->α){i j:Nat}(v:α)(h:j≠i) :aq f i v j=f j:=if_neg h
structure c0 where
 aZ:Nat->Nat->Option Nat
 ent:Nat->ba
structure gx(dec:Nat->Nat->ba)(n:Nat)(T:c0) :Prop where
 root:T.aZ 0 0≠none
 lvl:∀l q f,T.aZ l q=some f->l<4/\q<8^l/\f<n
 kt:∀l q f i,l<3->T.aZ l q=some f->i<8->dec f i=match T.aZ (l+1) (8*q+i)with|some g=>qP g|none=>.zero
 leaf:∀q f i,T.aZ 3 q=some f->i<8->dec f i=T.ent (8*q+i)
 par:∀l q,T.aZ (l+1) q≠none->T.aZ l (q/8)≠none
 own:∀p,T.ent p≠.zero->T.aZ 3 (p/8)≠none
 may:∀p,T.ent p≠.zero->(T.ent p).may=true
 inj:∀l q bz cv f,T.aZ l q=some f->T.aZ bz cv=some f->l=bz/\q=cv
def p_(T:c0) :Prop:=(∀q,T.aZ 3 q≠none->∃i,i<8/\T.ent (8*q+i)≠.zero)/\∀l q,l<2->T.aZ (l+1) q≠none->∃i,i<8/\T.aZ (l+2) (8*q+i)≠none
def IsNode(T:c0)(f:Nat) :Prop:=∃l q,T.aZ l q=some f
section
variable{dec m2:Nat->Nat->ba}{n:Nat}{T:c0}
theorem gx.bq(h:gx dec n T){p:Nat}(aD:T.ent p≠.zero) :p<4096:=by
 have:=h.own p aD;cases e:T.aZ 3 (p/8)with
 |none=>exact absurd e this
 |some f=>have:=(h.lvl _ _ _ e).2.1;omega
theorem gx.congr(h:gx dec n T)(e:∀f i,IsNode T f->i<8->m2 f i=dec f i) :gx m2 n T where
 root:=h.root
 lvl:=h.lvl
 kt:=λl q f i ar aB U=>by rw[e f i ⟨l,q,aB⟩ U];exact h.kt l q f i ar aB U
 leaf:=λq f i aB U=>by rw[e f i ⟨3,q,aB⟩ U];exact h.leaf q f i aB U
 par:=h.par
 own:=h.own
 may:=h.may
 inj:=h.inj
theorem gx.put(h:gx dec n T){p f:Nat}{s:ba}(aB:T.aZ 3 (p/8)=some f)(au:s=.zero\/s.may=true)(e:∀g i,IsNode T g->i<8->m2 g i=cr dec f (p%8) s g i) :gx m2 n {T with ent:=aq T.ent p s}where
 root:=h.root
 lvl:=h.lvl
 kt:=λl q g i ar aE U=>by
  rw[e g i ⟨l,q,aE⟩ U,<-h.kt l q g i ar aE U];have:g≠f:=by rintro rfl;have:=h.inj _ _ _ _ _ aE aB;omega
  simp[cr,this]
 leaf:=λq g i aE U=>by
  rw[e g i ⟨3,q,aE⟩ U];have h1:=h.leaf q g i aE U;by_cases G1:g=f
  ·subst G1;have:=h.inj _ _ _ _ _ aE aB;by_cases eo:i=p%8
   ·have:8*q+i=p:=by omega
    simp[cr,eo,aq,this];omega
   ·have:8*q+i≠p:=by omega
    simp[cr,eo,aq,this,h1]
  ·have:8*q+i≠p:=by
    intro e;have:q=p/8:=by omega
    subst this;rw[aE]at aB;exact G1 (Option.some.inj aB)
   simp[cr,G1,aq,this,h1]
 par:=h.par
 own:=λq ay=>by
  by_cases e:q=p
  ·subst e;rw[aB];simp
  ·exact h.own q (by simpa [aq,e]using ay)
 may:=λq ay=>by
  by_cases e:q=p
  ·subst e;rcases au with au|au
   ·simp[au]at ay
   ·simpa using au
  ·simpa [aq,e]using h.may q (by simpa [aq,e]using ay)
 inj:=h.inj
theorem gx.grow(h:gx dec n T){l q f g:Nat}(ar:l<3)(aE:T.aZ l (q/8)=some g)(ay:T.aZ (l+1) q=none)(j4:f<n)(aB:¬IsNode T f)(aI:∀i,i<8->dec f i=.zero)
  (e:∀a i,IsNode T a\/a=f->i<8->m2 a i=cr dec g (q%8) (qP f) a i) :gx m2 n {T with aZ:=cr T.aZ (l+1) q (some f)}:=by
 have GN:∀i,i<8->T.aZ (l+2) (8*q+i)=none:=λi U=>by
  cases e:T.aZ (l+2) (8*q+i)with
  |none=>rfl
  |some a=>exact absurd ay (by have:=h.par (l+1) (8*q+i) (by simp[e]);rwa[show(8*q+i) /8=q by omega]at this)
 have Z0:∀i,i<8->l+1=3->T.ent (8*q+i)=.zero:=λi U av=>by apply Classical.byContradiction;intro aA;have:=h.own _ aA;rw[show(8*q+i) /8=q by omega,<-av]at this;exact this ay
 have xl:f≠g:=λe=>aB ⟨l,q/8,e▸aE⟩
 have vm:q<8^(l+1):=by have:=(h.lvl _ _ _ aE).2.1;rw[Nat.pow_succ];omega
 have old:∀{bz cv a},T.aZ bz cv=some a->¬(bz=l+1/\cv=q):=λaU aC=>by rw[aC.1,aC.2,ay]at aU;cases aU
 have ca:∀{bz cv a},T.aZ bz cv=some a->cr T.aZ (l+1) q (some f) bz cv=some a:=λaU=>by simp[cr,old aU,aU]
 have sb:∀{bz cv},T.aZ bz cv≠none->cr T.aZ (l+1) q (some f) bz cv≠none:=λaU=>by unfold cr;split<;>simp_all
 have back:∀{bz cv a},cr T.aZ (l+1) q (some f) bz cv=some a->(bz=l+1/\cv=q/\a=f)\/(¬(bz=l+1/\cv=q)/\T.aZ bz cv=some a):=λaU=>by unfold cr at aU;split at aU<;>simp_all
 refine⟨sb h.root,?_,?_,?_,?_,?_,h.may,?_⟩
 ·intro bz cv a aU;rcases back aU with⟨rfl,rfl,rfl⟩ |⟨_,aU⟩
  ·exact⟨by omega,vm,j4⟩
  ·exact h.lvl _ _ _ aU
 ·intro bz cv a i jl aU U;show m2 a i=match cr T.aZ (l+1) q (some f) (bz+1) (8*cv+i)with|some g=>qP g|none=>.zero
  rcases back aU with⟨rfl,rfl,rfl⟩ |⟨cE,af⟩
  ·rw[e a i (.inr rfl) U];have:¬(l+1+1=l+1/\8*cv+i=cv):=by omega
   have aa:cr T.aZ (l+1) cv (some a) (l+1+1) (8*cv+i)=none:=by simp[cr,GN i U]
   rw[aa];simp[cr,xl,aI i U]
  ·rw[e a i (.inl ⟨_,_,af⟩) U];have h1:=h.kt bz cv a i jl af U;by_cases ab:bz=l/\8*cv+i=q
   ·obtain⟨rfl,rfl⟩:=ab;rw[show(8*cv+i) /8=cv by omega,af]at aE;obtain rfl:=Option.some.inj aE;rw[show cr T.aZ (bz+1) (8*cv+i) (some f) (bz+1) (8*cv+i)=some f by simp[cr]];simp[cr,show(8*cv+i) %8=i by omega]
   ·rw[show cr T.aZ (l+1) q (some f) (bz+1) (8*cv+i)=T.aZ (bz+1) (8*cv+i)by simp only[cr];rw[if_neg (by omega)]];rw[<-h1]
    have:¬(a=g/\i=q%8):=λ⟨aw,aL⟩=>by subst aw;have:=h.inj _ _ _ _ _ af aE;omega
    simp only[cr];rw[if_neg this]
 ·intro cv a i aU U;rcases back aU with⟨av,rfl,rfl⟩ |⟨cE,aU⟩
  ·rw[e a i (.inr rfl) U];show _=T.ent _;rw[Z0 i U av.symm];simp[cr,xl,aI i U]
  ·rw[e a i (.inl ⟨_,_,aU⟩) U];show _=T.ent _;rw[<-h.leaf cv a i aU U];have:a≠g:=by rintro rfl;have:=h.inj _ _ _ _ _ aU aE;omega
   simp[cr,this]
 ·intro bz cv aU;cases af:cr T.aZ (l+1) q (some f) (bz+1) cv with
  |none=>exact absurd af aU
  |some a=>
   rcases back af with⟨h1,rfl,rfl⟩ |⟨cE,af⟩
   ·obtain rfl:bz=l:=by omega
    exact sb (by rw[aE];simp)
   ·exact sb (h.par _ _ (by rw[af];simp))
 ·exact λp aD=>sb (h.own p aD)
 ·intro e_ gh gF gi a h1 aa;rcases back h1 with⟨rfl,rfl,rfl⟩ |⟨_,a'⟩<;>rcases back aa with⟨rfl,rfl,av⟩ |⟨_,bR⟩
  ·simp
  ·exact absurd ⟨_,_,bR⟩ aB
  ·subst av;exact absurd ⟨_,_,a'⟩ aB
  ·exact h.inj _ _ _ _ _ a' bR
theorem gx.shrink(h:gx dec n T){l q f g:Nat}(ar:l<3)(aE:T.aZ l (q/8)=some g)(ay:T.aZ (l+1) q=some f)(aI:∀i,i<8->dec f i=.zero)
  (e:∀a i,IsNode T a->a≠f->i<8->m2 a i=cr dec g (q%8) .zero a i) :gx m2 n {T with aZ:=cr T.aZ (l+1) q none}:=by
 have GN:∀i,i<8->l+1<3->T.aZ (l+2) (8*q+i)=none:=λi U av=>by
  have:=h.kt (l+1) q f i av ay U;rw[aI i U]at this;cases e:T.aZ (l+2) (8*q+i)with
  |none=>rfl
  |some a=>rw[e]at this;exact absurd this.symm (Pz a)
 have xl:f≠g:=λe=>by subst e;have:=h.inj _ _ _ _ _ ay aE;omega
 have back:∀{bz cv a},cr T.aZ (l+1) q none bz cv=some a->¬(bz=l+1/\cv=q)/\T.aZ bz cv=some a:=λaU=>by unfold cr at aU;split at aU<;>simp_all
 have ca:∀{bz cv},¬(bz=l+1/\cv=q)->cr T.aZ (l+1) q none bz cv=T.aZ bz cv:=λaU=>by simp[cr,aU]
 have vI:∀{bz cv a},¬(bz=l+1/\cv=q)->T.aZ bz cv=some a->a≠f:=λcE aU e=>by subst e;exact cE (h.inj _ _ _ _ _ aU ay)
 refine⟨?_,?_,?_,?_,?_,?_,h.may,?_⟩
 ·show cr T.aZ (l+1) q none 0 0≠none;rw[ca (by omega)];exact h.root
 ·exact λbz cv a aU=>h.lvl _ _ _ (back aU).2
 ·intro bz cv a i jl aU U;show m2 a i=match cr T.aZ (l+1) q none (bz+1) (8*cv+i)with|some g=>qP g|none=>.zero
  obtain⟨cE,af⟩:=back aU;rw[e a i ⟨_,_,af⟩ (vI cE af) U];have h1:=h.kt bz cv a i jl af U;by_cases ab:bz=l/\8*cv+i=q
  ·obtain⟨rfl,rfl⟩:=ab;rw[show(8*cv+i) /8=cv by omega,af]at aE;obtain rfl:=Option.some.inj aE;simp[cr,show(8*cv+i) %8=i by omega]
  ·rw[ca (by omega),<-h1]
   have:¬(a=g/\i=q%8):=λ⟨aw,aL⟩=>by subst aw;have:=h.inj _ _ _ _ _ af aE;omega
   simp only[cr];rw[if_neg this]
 ·intro cv a i aU U;obtain⟨cE,aU⟩:=back aU;rw[e a i ⟨_,_,aU⟩ (vI cE aU) U];show _=T.ent _;rw[<-h.leaf cv a i aU U];have:a≠g:=by rintro rfl;have:=h.inj _ _ _ _ _ aU aE;omega
  simp[cr,this]
 ·intro bz cv aU;cases af:cr T.aZ (l+1) q none (bz+1) cv with
  |none=>exact absurd af aU
  |some a=>
   obtain⟨cE,aA⟩:=back af;have aD:=h.par _ _ (show T.aZ (bz+1) cv≠none by rw[aA];simp);show cr T.aZ (l+1) q none bz (cv/8)≠none;by_cases ab:bz=l+1/\cv/8=q
   ·obtain⟨rfl,rfl⟩:=ab;have:=(h.lvl _ _ _ aA).1;have:=GN (cv%8) (by omega) (by omega);rw[show 8*(cv/8) +cv%8=cv by omega]at this;rw[this]at aA;cases aA
   ·rw[ca ab];exact aD
 ·intro p aD;show cr T.aZ (l+1) q none 3 (p/8)≠none;by_cases ab:3=l+1/\p/8=q
  ·obtain⟨ab,rfl⟩:=ab;obtain rfl:l=2:=by omega
   have:=h.leaf (p/8) f (p%8) ay (by omega);rw[aI _ (by omega),show 8*(p/8) +p%8=p by omega]at this;exact absurd this.symm aD
  ·rw[ca ab];exact h.own p aD
 ·exact λe_ gh gF gi a h1 aa=>h.inj _ _ _ _ _ (back h1).2 (back aa).2
end
def b'(f:Nat->Bool) :Nat->Nat
 |0=>0
 |n+1=>b' f n+(f n).toNat
theorem wW{f g:Nat->Bool} :∀{n:Nat},(∀i,i<n->f i=g i)->b' f n=b' g n
 |0,_=>rfl
 |n+1,h=>by rw[b',b',wW (λi U=>h i (by omega)),h n (by omega)]
theorem m0(f:Nat->Bool) :∀n,b' f n<=n
 |0=>Nat.le_refl _
 |n+1=>by have:=m0 f n;have:=Bool.toNat_le (f n);rw[b'];omega
theorem m1{f:Nat->Bool} :∀{n:Nat},b' f n=0↔∀i,i<n->f i=false
 |0=>by simp[b']
 |n+1=>by
  rw[b'];constructor
  ·intro h i U;have h1:=(m1 (f:=f) (n:=n)).1 (by omega);by_cases e:i=n
   ·subst e;cases aB:f i<;>simp_all
   ·exact h1 i (by omega)
  ·intro h;rw[(m1 (f:=f) (n:=n)).2 (λi U=>h i (by omega)),h n (by omega)];rfl
theorem yX{f:Nat->Bool}{n i:Nat}(U:i<n)(h:f i=true) :0<b' f n:=by apply Nat.pos_of_ne_zero;intro e;have:=m1.1 e i U;simp[h]at this
theorem tp{f g:Nat->Bool}{p:Nat} :∀{n:Nat},p<n->(∀i,i<n->i≠p->g i=f i)->b' g n+(f p).toNat=b' f n+(g p).toNat
 |0,h,_=>by omega
 |n+1,h,aE=>by
  rw[b',b'];by_cases e:p=n
  ·subst e;rw[wW (f:=g) (g:=f) (n:=p) (λi U=>aE i (by omega) (by omega))];omega
  ·have:=tp (f:=f) (g:=g) (p:=p) (n:=n) (by omega) (λi U=>aE i (by omega));rw[aE n (by omega) (by omega)];omega
theorem BY(f g:Nat->Bool)(ao:∀i,f i=true->g i=false) :∀n,b' f n+b' g n=b' (λi=>f i||g i) n
 |0=>rfl
 |n+1=>by
  have:=BY f g ao n;rw[b',b',b',<-this];cases e:f n with
  |true=>rw[ao n e];simp;omega
  |false=>simp;omega
theorem FT(f:Nat->Bool) :∀n,b' f n+b' (λi=> !f i) n=n
 |0=>rfl
 |n+1=>by have:=FT f n;rw[b',b'];cases f n<;>simp<;>omega
theorem L5{f g:Nat->Bool} :∀{n:Nat},(∀i,i<n->f i=true->g i=true)->b' f n<=b' g n
 |0,_=>Nat.le_refl _
 |n+1,h=>by
  have:=L5 (f:=f) (g:=g) (n:=n) (λi U=>h i (by omega));rw[b',b'];cases e:f n with
  |false=>simp;omega
  |true=>rw[h n (by omega) e];omega
theorem least{f:Nat->Bool} :∀{n:Nat},0<b' f n->∃i,i<n/\f i=true/\∀j,j<i->f j=false
 |0,h=>by simp[b']at h
 |n+1,h=>by
  by_cases h0:0<b' f n
  ·obtain⟨i,h1,aa,av⟩:=least h0;exact⟨i,by omega,aa,av⟩
  ·have aI:=m1.1 (show b' f n=0 by omega);refine⟨n,by omega,?_,aI⟩;rw[b']at h;cases e:f n with
   |true=>rfl
   |false=>rw[e]at h;simp at h;omega
def de(f:Nat->Nat) :Nat->Nat
 |0=>0
 |n+1=>de f n+f n
theorem qZ{f g:Nat->Nat} :∀{n:Nat},(∀i,i<n->f i=g i)->de f n=de g n
 |0,_=>rfl
 |n+1,h=>by rw[de,de,qZ (λi U=>h i (by omega)),h n (by omega)]
theorem AT(f g:Nat->Nat) :∀n,de (λi=>f i+g i) n=de f n+de g n
 |0=>rfl
 |n+1=>by rw[de,de,de,AT f g n];omega
theorem JV{f g:Nat->Nat}{p:Nat} :∀{n:Nat},p<n->(∀i,i<n->i≠p->g i=f i)->de g n+f p=de f n+g p
 |0,h,_=>by omega
 |n+1,h,aE=>by
  rw[de,de];by_cases e:p=n
  ·subst e;rw[qZ (f:=g) (g:=f) (n:=p) (λi U=>aE i (by omega) (by omega))];omega
  ·have:=JV (f:=f) (g:=g) (p:=p) (n:=n) (by omega) (λi U=>aE i (by omega));rw[aE n (by omega) (by omega)];omega
theorem qY(f:Nat->Bool) :∀n,de (λi=>(f i).toNat) n=b' f n
 |0=>rfl
 |n+1=>by rw[de,b',qY f n]
theorem yl{f:Nat->Nat} :∀{n:Nat},(∀i,i<n->f i=0)->de f n=0
 |0,_=>rfl
 |n+1,h=>by rw[de,yl (λi U=>h i (by omega)),h n (by omega)]
theorem RZ{f g:Nat->Nat} :∀{n:Nat},(∀i,i<n->f i<=g i)->de f n<=de g n
 |0,_=>Nat.le_refl _
 |n+1,h=>by have:=RZ (f:=f) (g:=g) (n:=n) (λi U=>h i (by omega));have:=h n (by omega);rw[de,de];omega
theorem Ek(f:Nat->Nat->Nat)(m:Nat) :∀n,de (λi=>de (f i) m) n=de (λj=>de (λi=>f i j) n) m
 |0=>by rw[yl (f:=λj=>de (λi=>f i j) 0) (λi U=>rfl)];rfl
 |n+1=>by rw[de,Ek f m n,<-AT];rfl
def dm(ent:Nat->ba)(lo:Nat) :Nat->List Nat
 |0=>[]
 |n+1=>dm ent lo n++if ent (lo+n)=.zero then[]else[lo+n]
theorem yi(ent:Nat->ba)(lo n:Nat) :∀m,dm ent lo (n+m)=dm ent lo n++dm ent (lo+n) m
 |0=>by simp[dm]
 |m+1=>by rw[<-Nat.add_assoc,dm,yi ent lo n m,dm,List.append_assoc,Nat.add_assoc]
theorem RI{ent:Nat->ba}{lo:Nat} :∀{n:Nat},(∀i,i<n->ent (lo+i)=.zero)->dm ent lo n=[]
 |0,_=>rfl
 |n+1,h=>by rw[dm,RI (λi U=>h i (by omega)),h n (by omega)];rfl
theorem It{ent:Nat->ba}{lo p:Nat} :∀{n:Nat},p∈dm ent lo n↔lo<=p/\p<lo+n/\ent p≠.zero
 |0=>by simp[dm];omega
 |n+1=>by
  rw[dm,List.mem_append,It (n:=n)];by_cases h:ent (lo+n)=.zero
  ·simp only[h,if_true,List.not_mem_nil,or_false];constructor
   ·rintro⟨a,b,c⟩;exact⟨a,by omega,c⟩
   ·rintro⟨a,b,c⟩;refine⟨a,?_,c⟩;have:p≠lo+n:=λe=>c (e▸h)
    omega
  ·simp only[h,if_false,List.mem_singleton];constructor
   ·rintro(⟨a,b,c⟩ |rfl)
    ·exact⟨a,by omega,c⟩
    ·exact⟨by omega,by omega,h⟩
   ·rintro⟨a,b,c⟩;by_cases e:p=lo+n
    ·exact .inr e
    ·exact .inl ⟨a,by omega,c⟩
theorem JP(ent:Nat->ba)(lo:Nat) :∀n,(dm ent lo n).length=b' (λi=>decide (ent (lo+i)≠.zero)) n
 |0=>rfl
 |n+1=>by rw[dm,List.length_append,JP ent lo n,b'];by_cases h:ent (lo+n)=.zero<;>simp[h]
namespace c0
def dX(T:c0) :Nat:=de (λl=>b' (λq=>(T.aZ l q).isSome) (8^l)) 4
def iw(T:c0)(P:ba->Bool) :Nat:=b' (λp=>P (T.ent p)) 4096
end c0
theorem W1(T:c0)(P:ba->Bool){p:Nat}(aD:p<4096)(s:ba)(aZ:Nat->Nat->Option Nat) :(c0.mk aZ (aq T.ent p s)).iw P+(P (T.ent p)).toNat=T.iw P+(P s).toNat:=by have:=tp (f:=λq=>P (T.ent q)) (g:=λq=>P (aq T.ent p s q)) (p:=p) aD (λi _ U=>by simp[aq,U]);simpa [c0.iw]using this
theorem BV(T:c0){l q:Nat}(ar:l<4)(ay:q<8^l)(v:Option Nat)(ent:Nat->ba) :(c0.mk (cr T.aZ l q v) ent).dX+(T.aZ l q).isSome.toNat=T.dX+v.isSome.toNat:=by
 unfold c0.dX
 have h1:=JV (f:=λk=>b' (λr=>(T.aZ k r).isSome) (8^k)) (g:=λk=>b' (λr=>(cr T.aZ l q v k r).isSome) (8^k)) (p:=l) ar (λi _ U=>by
  refine wW λr _=> ?_
  simp[cr,U])
 have aa:=tp (f:=λr=>(T.aZ l r).isSome) (g:=λr=>(cr T.aZ l q v l r).isSome) (p:=q) ay (λi _ U=>by simp[cr,U]);have e:(cr T.aZ l q v l q)=v:=by simp[cr]
 simp only[e]at aa;show de (λk=>b' (λr=>(cr T.aZ l q v k r).isSome) (8^k)) 4+_=_;omega
section
variable{dec:Nat->Nat->ba}{n:Nat}{T:c0}
theorem IA(h:gx dec n T)(aN:p_ T) :∀(k l q:Nat),l+k=3->1<=l->(T.aZ l q≠none↔∃p,p/8^(4-l)=q/\T.ent p≠.zero)
 |0,l,q,aj,ar=>by
  obtain rfl:l=3:=by omega
  constructor
  ·intro al;obtain⟨i,U,he⟩:=aN.1 q al;exact⟨8*q+i,by simp;omega,he⟩
  ·rintro⟨p,aD,he⟩;have:=h.own p he;rw[show p/8=q by simpa using aD]at this;exact this
 |k+1,l,q,aj,ar=>by
  have aw:8^(4-l)=8^(4-(l+1)) *8:=by rw[<-Nat.pow_succ];congr 1;omega
  constructor
  ·intro al;obtain⟨bz,rfl⟩ :∃bz,l=bz+1:=⟨l-1,by omega⟩;obtain⟨i,U,he⟩:=aN.2 bz q (by omega) al;obtain⟨p,aD,aI⟩:=(IA h aN k (bz+2) (8*q+i) (by omega) (by omega)).1 he;refine⟨p,?_,aI⟩;rw[aw,<-Nat.div_div_eq_div_mul,aD];omega
  ·rintro⟨p,aD,he⟩;rw[aw,<-Nat.div_div_eq_div_mul]at aD;have:=(IA h aN k (l+1) (p/8^(4-(l+1))) (by omega) (by omega)).2 ⟨p,rfl,he⟩;have:=h.par l _ this;rwa[aD]at this
end
structure aH where
 lo:Int
 U:Int
 perm:Int
 kind:Int
 file:Int
 bq:Int
instance:DecidableEq aH:=λa b=>
 if h:a.lo=b.lo/\a.U=b.U/\a.perm=b.perm/\a.kind=b.kind/\a.file=b.file/\a.bq=b.bq then isTrue (by cases a;cases b;simp_all)else isFalse (by rintro rfl;simp at h)
namespace aH
def zero:aH:=⟨0,0,0,0,0,0⟩
def one(a b:aH) :Bool:=decide (a.U=b.lo/\a.perm=b.perm/\a.kind=b.kind/\a.file=b.file/\(a.kind=1->b.bq=a.bq+a.U-a.lo))
def ew(r:aH)(p:Int) :aH:={r with lo:=p,U:=p+1,bq:=if r.kind=1 then r.bq+p-r.lo else r.bq}
def has(r:aH)(p:Int) :Bool:=decide (r.lo<=p/\p<r.U)
def may(r:aH) :Bool:=decide (0<=r.lo/\r.lo<r.U/\r.U<=4096/\0<=r.perm/\r.perm<=7/\(if r.kind=1 then 0<=r.file/\0<=r.bq/\r.bq<=1073741824-(r.U-r.lo)else 1<r.kind/\r.kind<=4/\r.file= -1/\r.bq=0))
def part(r:aH)(a b:Int) :aH:={r with lo:=a,U:=b,bq:=if r.kind=1 then r.bq+(a-r.lo)else r.bq}
end aH
def c6(out:List aH)(r:aH) :List aH:=
 if r.U<=r.lo then out else match out.getLast? with
  |some a=>if a.one r then out.dropLast++[{a with U:=r.U}]else out++[r]
  |none=>out++[r]
def bO(l:List aH)(p:Int) :Option aH:=l.find? (·.has p)
def spread(l:List aH)(p:Int) :Option aH:=(bO l p).map (·.ew p)
def ka(cy:Int->Option aH)(out:List aH)(lo:Int) :Nat->List aH
 |0=>out
 |n+1=>ka cy (match cy lo with|some r=>c6 out r|none=>out) (lo+1) n
def dp(a:Int) :List aH->Int->Prop
 |[],b=>a<=b
 |r::l,b=>a<=r.lo/\r.lo<=r.U/\dp r.U l b
theorem dp.le:∀{l:List aH} {a b:Int},dp a l b->a<=b
 |[],_,_,h=>h
 |r::l,a,b,⟨h1,aa,av⟩=>by have:=dp.le av;omega
theorem dp.up:∀{l:List aH} {a b c:Int},dp a l b->b<=c->dp a l c
 |[],_,_,_,h,aA=>Int.le_trans h aA
 |r::l,a,b,c,⟨h1,aa,av⟩,aA=>⟨h1,aa,av.up aA⟩
theorem dp.down:∀{l:List aH} {a b c:Int},dp a l b->c<=a->dp c l b
 |[],_,_,_,h,aA=>Int.le_trans aA h
 |r::l,a,b,c,⟨h1,aa,av⟩,aA=>⟨Int.le_trans aA h1,aa,av⟩
theorem dp.append:∀{l m:List aH} {a b c:Int},dp a l b->dp b m c->dp a (l++m) c
 |[],m,a,b,c,h,hm=>hm.down h
 |r::l,m,a,b,c,⟨h1,aa,av⟩,hm=>⟨h1,aa,av.append hm⟩
theorem dp.mem:∀{l:List aH} {a b:Int} {r:aH},dp a l b->r∈l->a<=r.lo/\r.U<=b
 |[],_,_,_,_,ah=>by cases ah
 |x::l,a,b,r,⟨h1,aa,av⟩,ah=>by
  rcases List.mem_cons.1 ah with rfl|ah
  ·exact⟨h1,av.le⟩
  ·have:=av.mem ah;omega
theorem dp.split:∀{l m:List aH} {a c:Int},dp a (l++m) c->∃b,dp a l b/\dp b m c
 |[],m,a,c,h=>⟨a,Int.le_refl _,h⟩
 |r::l,m,a,c,⟨h1,aa,av⟩=>let⟨b,x,y⟩:=dp.split av;⟨b,⟨h1,aa,x⟩,y⟩
theorem Q0{l:List aH}{p:Int}(h:∀r,r∈l->r.has p=false) :bO l p=none:=by unfold bO;rw[List.find?_eq_none];intro r ah;simp[h r ah]
theorem x'(l m:List aH)(p:Int) :bO (l++m) p=(bO l p).or (bO m p):=by unfold bO;rw[List.find?_append]
theorem ya{l:List aH}{a b p:Int}(h:dp a l b)(aD:p<a\/b<=p) :bO l p=none:=
 Q0 λr ah=>by have:=h.mem ah;simp[aH.has];omega
theorem mL{l:List aH}{p:Int}{r:aH}(h:bO l p=some r) :r∈l/\r.lo<=p/\p<r.U:=by have h1:=List.mem_of_find?_eq_some h;have aa:=List.find?_some h;simp[aH.has]at aa;exact⟨h1,aa⟩
theorem M1{α:Type}(o:List α)(a:α) :(o++[a]).getLast? =some a:=by simp
theorem D2{o:List aH}{a r:aH}(ah:r.lo<r.U)(h:a.one r=true) :c6 (o++[a]) r=o++[{a with U:=r.U}]:=by unfold c6;rw[if_neg (by omega),M1];simp[h]
theorem AI{o:List aH}{r:aH}(ah:r.lo<r.U)(h:∀bL a,o=bL++[a]->a.one r=false) :c6 o r=o++[r]:=by
 unfold c6;rw[if_neg (by omega)];rcases List.eq_nil_or_concat o with rfl|⟨bL,a,rfl⟩
 ·rfl
 ·rw[List.concat_eq_append]at*
  rw[M1];simp[h bL a rfl]
theorem yc(o:List aH)(r:aH) :(r.U<=r.lo/\c6 o r=o)\/(r.lo<r.U/\∃bL a,o=bL++[a]/\a.one r=true/\c6 o r=bL++[{a with U:=r.U}])\/(r.lo<r.U/\(∀bL a,o=bL++[a]->a.one r=false)/\c6 o r=o++[r]):=by
 by_cases ah:r.U<=r.lo
 ·exact .inl ⟨ah,by unfold c6;rw[if_pos ah]⟩
 ·rcases List.eq_nil_or_concat o with rfl|⟨bL,a,rfl⟩
  ·exact .inr (.inr ⟨by omega,by simp,AI (by omega) (by simp)⟩)
  ·rw[List.concat_eq_append];by_cases h:a.one r=true
   ·exact .inr (.inl ⟨by omega,bL,a,rfl,h,D2 (by omega) h⟩)
   ·have al:∀IG b,bL++[a]=IG++[b]->b.one r=false:=λIG b e=>by
     obtain⟨_,e⟩:=List.append_inj' e rfl;simp at e;subst e;simpa using h
    exact .inr (.inr ⟨by omega,al,AI (by omega) al⟩)
theorem dp.AH{o:List aH}{a b c:Int}{r:aH}(h:dp a o b)(h1:b<=r.lo)(aa:r.U<=c)(av:b<=c) :dp a (c6 o r) c:=by
 rcases yc o r with⟨_,e⟩ |⟨ah,bL,x,rfl,aY,e⟩ |⟨ah,_,e⟩
 ·rw[e];exact h.up av
 ·rw[e];obtain⟨d,ao,ab⟩:=h.split;simp[aH.one]at aY;obtain⟨a',bR,bY⟩:=ab;exact ao.append ⟨a',by show x.lo<=r.U;omega,aa⟩
 ·rw[e];exact h.append ⟨h1,by omega,aa⟩
def jW(r:aH) :Prop:=r.kind≠1->r.bq=0
theorem aiH{o:List aH}{a b:Int}{r:aH}(h:dp a o b)(h1:b<=r.lo)(aI:jW r)(aaV:∀x,x∈o->jW x)(p:Int) :spread (c6 o r) p=if r.has p then some (r.ew p)else spread o p:=by
 rcases yc o r with⟨ah,e⟩ |⟨ah,bL,x,rfl,aY,e⟩ |⟨ah,_,e⟩
 ·rw[e];have:r.has p=false:=by simp[aH.has];omega
  simp[this]
 ·rw[e];obtain⟨d,ao,ab⟩:=h.split;obtain⟨a',bR,bY⟩:=ab;simp[aH.one]at aY;obtain⟨bU,cc,b8,c5,cS⟩:=aY;unfold spread;rw[x',x'];by_cases aD:r.has p=true
  ·have m8:=aD;simp[aH.has]at aD;rw[ya ao (.inr (by omega))]
   have:bO [{x with U:=r.U}] p=some {x with U:=r.U}:=by simp[bO,aH.has];omega
   rw[this];simp only[Option.none_or,Option.map_some,if_pos m8];simp only[aH.ew,cc,b8,c5,Option.some.injEq,aH.mk.injEq,true_and,and_true];by_cases aj:r.kind=1
   ·simp[aj];have:r.bq=x.bq+x.U-x.lo:=by rcases cS with h|h<;>omega
    omega
   ·simp[aj];rw[aI aj,aaV x (by simp) (by omega)]
  ·rw[if_neg aD]
   have:bO [{x with U:=r.U}] p=(bO [x] p).map λy=>{y with U:=r.U}:=by
    simp[aH.has]at aD;by_cases ab:x.lo<=p/\p<x.U
    ·simp[bO,aH.has,ab];omega
    ·have:¬(x.lo<=p/\p<r.U):=by omega
     simp[bO,aH.has,ab,this]
   rw[this];cases bO bL p with
   |some y=>rfl
   |none=>
    cases bO [x] p with
    |none=>rfl
    |some y=>rfl
 ·rw[e];unfold spread;rw[x'];by_cases aD:r.has p=true
  ·rw[if_pos aD];have m8:=aD;simp[aH.has]at aD;rw[ya h (.inr (by omega))];simp[bO,m8]
  ·rw[if_neg aD];have:bO [r] p=none:=Q0 (by simpa using aD);rw[this];simp
theorem jW.AH{o:List aH}{r:aH}(aI:jW r)(aY:∀x,x∈o->jW x) :∀x,x∈c6 o r->jW x:=by
 rcases yc o r with⟨ah,e⟩ |⟨ah,bL,x,rfl,_,e⟩ |⟨ah,_,e⟩
 ·rw[e];exact aY
 ·rw[e];intro y an;rcases List.mem_append.1 an with an|an
  ·exact aY y (by simp[an])
  ·rw[List.mem_singleton]at an;subst an;exact aY x (by simp)
 ·rw[e];intro y an;rcases List.mem_append.1 an with an|an
  ·exact aY y an
  ·rw[List.mem_singleton]at an;subst an;exact aI
theorem dp.fold:∀{l o:List aH} {a b c:Int},dp a o b->dp b l c->dp a (l.foldl c6 o) c
 |[],o,a,b,c,h,ar=>h.up ar
 |r::l,o,a,b,c,h,⟨h1,aa,av⟩=>by rw[List.foldl_cons];exact dp.fold (h.AH h1 (Int.le_refl _) (by omega)) av
theorem jW.fold:∀{l o:List aH},(∀x,x∈l->jW x)->(∀x,x∈o->jW x)->∀x,x∈l.foldl c6 o->jW x
 |[],o,_,aY=>aY
 |r::l,o,ar,aY=>by rw[List.foldl_cons];exact jW.fold (λx ab=>ar x (by simp[ab])) (jW.AH (ar r (by simp)) aY)
theorem RM:∀{l o:List aH} {a b c:Int},dp a o b->dp b l c->(∀x,x∈l->jW x)->(∀x,x∈o->jW x)->∀p,spread (l.foldl c6 o) p=(spread l p).or (spread o p)
 |[],o,a,b,c,h,ar,E8,K5,p=>by simp[spread,bO]
 |r::l,o,a,b,c,h,⟨h1,aa,av⟩,E8,K5,p=>by
  rw[List.foldl_cons,RM (h.AH h1 (Int.le_refl _) (by omega)) av (λx ab=>E8 x (by simp[ab])) (jW.AH (E8 r (by simp)) K5),aiH h h1 (E8 r (by simp)) K5];by_cases aD:r.has p=true
  ·have:bO l p=none:=ya av (.inl (by simp[aH.has]at aD;omega));rw[if_pos aD];unfold spread;rw[this];simp[bO,aD]
  ·rw[if_neg aD];congr 1;simp at aD;simp[spread,bO,aD]
theorem Jt{cy:Int->Option aH}{out:List aH} :∀{n:Nat} {lo:Int},(∀p,lo<=p->p<lo+n->cy p=none)->ka cy out lo n=out
 |0,_,_=>rfl
 |n+1,lo,h=>by rw[ka,h lo (by omega) (by omega)];exact Jt λp h1 aa=>h p (by omega) (by omega)
theorem Js{cy:Int->Option aH} :∀{n m:Nat} {out:List aH} {lo:Int},ka cy out lo (n+m)=ka cy (ka cy out lo n) (lo+n) m
 |0,m,out,lo=>by rw[Nat.zero_add,ka];congr 1;omega
 |n+1,m,out,lo=>by rw[show n+1+m=(n+m) +1 by omega,ka,Js,ka];congr 1;omega
theorem Ju{cy:Int->Option aH}{o:List aH}{r:aH}(aI:jW r) :∀{n:Nat} {lo:Int} {a:aH},a.U=lo->a.perm=r.perm->a.kind=r.kind->a.file=r.file->(r.kind=1->r.bq+lo-r.lo=a.bq+a.U-a.lo)->(∀p,lo<=p->p<lo+n->cy p=some (r.ew p))->ka cy (o++[a]) lo n=o++[{a with U:=lo+n}]
 |0,lo,a,h,_,_,_,_,_=>by
  have:a.U=lo+((0:Nat) :Int):=by omega
  rw[ka,<-this]
 |n+1,lo,a,h,aw,aL,bo,eh,aD=>by
  rw[ka,aD lo (by omega) (by omega)]
  have aY:a.one (r.ew lo)=true:=by unfold aH.one;rw[decide_eq_true_eq];refine And.intro h (And.intro aw (And.intro aL (And.intro bo λaj=> ?_)));rw[aL]at aj;simp only[aH.ew,if_pos aj];exact eh aj
  rw[show(match some (r.ew lo)with|some r=>c6 (o++[a]) r|none=>o++[a])=o++[{a with U:=lo+1}]from D2 (by simp[aH.ew];omega) aY];rw[Ju aI (n:=n) (lo:=lo+1) (a:={a with U:=lo+1}) rfl aw aL bo (λaj=>by have:=eh aj;show _=a.bq+(lo+1) -a.lo;omega) (λp h1 aa=>aD p (by omega) (by omega))];congr 3;show lo+1+(n:Int)=lo+((n+1:Nat) :Int);omega
theorem Qh(a r:aH) :a.one (r.ew r.lo)=a.one r:=by
 have e:(r.ew r.lo).bq=r.bq:=by simp only[aH.ew];split<;>omega
 unfold aH.one;rw[Bool.eq_iff_iff,decide_eq_true_eq,decide_eq_true_eq,e];exact Iff.rfl
theorem ahW{cy:Int->Option aH}{out:List aH}{r:aH}{n:Nat}(aI:jW r)(al:r.U=r.lo+n)(aD:∀p,r.lo<=p->p<r.U->cy p=some (r.ew p)) :ka cy out r.lo n=c6 out r:=by
 cases n with
 |zero=>rw[ka];unfold c6;rw[if_pos (by omega)]
 |succ n=>
  rw[ka,aD r.lo (by omega) (by omega)];show ka cy (c6 out (r.ew r.lo)) (r.lo+1) n=_
  have bK:r.lo<r.U:=by omega
  have kU:(r.ew r.lo).lo<(r.ew r.lo).U:=by show r.lo<r.lo+1;omega
  rcases yc out r with⟨ah,e⟩ |⟨ah,bL,x,rfl,aY,e⟩ |⟨ah,aY,e⟩
  ·omega
  ·rw[e,D2 kU (by rw[Qh];exact aY)];simp[aH.one]at aY;obtain⟨bU,cc,b8,c5,cS⟩:=aY
   rw[Ju aI (lo:=r.lo+1) (n:=n) (a:={x with U:=(r.ew r.lo).U}) rfl cc b8 c5 (λaj=>by
    show r.bq+(r.lo+1) -r.lo=x.bq+(r.lo+1) -x.lo
    rcases cS with h|h<;>omega) (λp h1 aa=>aD p (by omega) (by omega))]
   congr 3;omega
  ·rw[e,AI kU (λbL a h=>by rw[Qh];exact aY bL a h)];rw[Ju aI (lo:=r.lo+1) (n:=n) (a:=r.ew r.lo) rfl rfl rfl rfl (λaj=>by simp only[aH.ew,if_pos aj];omega) (λp h1 aa=>aD p (by omega) (by omega))];congr 2
   have aw:(r.ew r.lo).bq=r.bq:=by simp only[aH.ew];split<;>omega
   have:({r.ew r.lo with U:=r.lo+1+(n:Int)} :aH)=⟨r.lo,r.lo+1+n,r.perm,r.kind,r.file,(r.ew r.lo).bq⟩:=rfl;rw[this,aw,show r.lo+1+(n:Int)=r.U by omega]
theorem Q6{cy:Int->Option aH} :∀{l out:List aH} {lo:Int} {n:Nat},dp lo l (lo+n)->(∀x,x∈l->jW x)->(∀p,lo<=p->p<lo+n->cy p=spread l p)->ka cy out lo n=l.foldl c6 out
 |[],out,lo,n,h,_,aD=>Jt λp h1 aa=>by rw[aD p h1 aa];rfl
 |r::l,out,lo,n,⟨h1,aa,av⟩,aI,aD=>by
  have aO:=av.le;obtain⟨a,aU⟩ :∃a:Nat,(a:Int)=r.lo-lo:=⟨(r.lo-lo).toNat,by omega⟩;obtain⟨b,af⟩ :∃b:Nat,(b:Int)=r.U-r.lo:=⟨(r.U-r.lo).toNat,by omega⟩;obtain⟨c,aA⟩ :∃c:Nat,(c:Int)=lo+n-r.U:=⟨(lo+n-r.U).toNat,by omega⟩;obtain rfl:n=a+(b+c):=by omega
  have Qs:∀p,¬r.has p=true->spread (r::l) p=spread l p:=λp h=>by simp at h;simp[spread,bO,h]
  rw[Js,Jt (n:=a) (λp a' bR=>by
   rw[aD p a' (by omega),Qs p (by simp[aH.has];omega)]
   unfold spread;rw[ya av (.inl (by omega))];rfl)]
  rw[Js,show lo+(a:Int)=r.lo by omega,ahW (n:=b) (aI r (by simp)) (by omega) (λp a' bR=>by
   rw[aD p (by omega) (by omega)];have:r.has p=true:=by simp[aH.has];omega
   simp[spread,bO,this])]
  rw[show r.lo+(b:Int)=r.U by omega,List.foldl_cons];exact Q6 (l:=l) (n:=c) (av.up (by omega)) (λx ab=>aI x (by simp[ab])) (λp a' bR=>by rw[aD p (by omega) (by omega),Qs p (by simp[aH.has];omega)])
def kD(bits:Nat) :ba:=
 if 1048576<bits/16 then .zero else
 let s:ba:=⟨bits.testBit 0,bits.testBit 1,bits.testBit 2,bits.testBit 3,(bits/16:Nat)⟩
 if s.may then s else .zero
def pz(m i:Nat) :ba:=kD (m/2^(8*(8*i)) %2^(8*8))
def eZ(mem:Nat->Nat)(f i:Nat) :ba:=pz (mem f) i
structure cN where
 n:Nat
 first:Nat
 cG:Nat
 hy:Int->Int->Option Nat
 loose:Nat->Nat->Prop:=λ_ _=>False
structure cH where
 id:Nat
 file:Int
 bq:Int
 fr:Nat
 fresh:Bool
structure bD where
 s:Nat
 t:Nat
 T:c0
 L:List aH
structure b0 where
 mem:Nat->Nat
 held:Nat->Nat
 free:Nat
 ax:List bD
 ring:List cH
 hand:Nat
 bQ:Nat->Nat
 used:Nat
 sec:Nat->Nat
def bJ(f:Nat)(s:ba) :Bool:=s.here&&s.n==f
def cZ(i:Nat)(s:ba) :Bool:=s.out&&s.n==i
def cU(l:List bD)(P:ba->Bool) :Nat:=(l.map λx=>x.T.iw P).sum
def dZ{α:Type}(P:α->Bool)(l:List α) :Nat:=(l.map λx=>(P x).toNat).sum
def refs(σ:b0)(f:Nat) :Nat:=cU σ.ax (bJ f) +dZ (λx:cH=>x.fr==f) σ.ring
def l5(σ:b0)(i:Nat) :Nat:=cU σ.ax (cZ i)
def hE(s:ba) :Bool:=s.here&& !s.write&& !s.copy
def base(c:cN)(r:aH)(p:Int) :Nat:=if r.kind=1 then(c.hy r.file (r.bq+p-r.lo)).getD 0 else 0
def cont(c:cN)(σ:b0)(x:bD)(p:Nat) :Option Nat:=match bO x.L p with
 |none=>none
 |some r=>some (if(x.T.ent p).here then σ.mem (x.T.ent p).n.toNat else if(x.T.ent p).out then σ.sec (c.first+(x.T.ent p).n.toNat)else base c r p)
structure je(L:List aH) :Prop where
 sM:dp 0 L 4096
 may:∀r,r∈L->r.may=true
def nE(x y:bD) :Prop:=∀f,IsNode x.T f->¬IsNode y.T f
structure Inv(c:cN)(σ:b0)(d e:Nat->Int) :Prop where
 jQ:∀x,x∈σ.ax->gx (eZ σ.mem) c.n x.T
 tight:∀x,x∈σ.ax->p_ x.T
 qe:σ.ax.Pairwise nE
 node:∀x f,x∈σ.ax->IsNode x.T f->σ.held f=1/\refs σ f=0/\d f=0
 data:∀f,f<c.n->(∀x,x∈σ.ax->¬IsNode x.T f)->(σ.held f:Int)=refs σ f+d f
 free:σ.free=b' (λf=>σ.held f==0) c.n
 here:∀x p,x∈σ.ax->(x.T.ent p).here=true->(x.T.ent p).n.toNat<c.n
 out:∀x p,x∈σ.ax->(x.T.ent p).out=true->(x.T.ent p).n.toNat<c.cG
 mc:∀x p,x∈σ.ax->x.T.ent p≠.zero->bO x.L p≠none\/c.loose x.s p
 slot:∀i,i<c.cG->(σ.bQ i:Int)=l5 σ i+e i
 used:σ.used=b' (λi=>σ.bQ i !=0) c.cG
 write:∀x p,x∈σ.ax->(x.T.ent p).here=true->(x.T.ent p).write=true->refs σ (x.T.ent p).n.toNat=1
 clean:∀x p r,x∈σ.ax->hE (x.T.ent p)=true->bO x.L p=some r->r.kind=1/\c.hy r.file (r.bq+p-r.lo)=some (σ.mem (x.T.ent p).n.toNat)
 ring:∀y,y∈σ.ring->y.fr<c.n/\c.hy y.file y.bq=some (σ.mem y.fr)
 keys:σ.ring.Pairwise λa b=>¬(a.file=b.file/\a.bq=b.bq)
 gI:∀x,x∈σ.ax->je x.L
theorem qc{α:Type}(P:α->Bool)(a b:List α) :dZ P (a++b)=dZ P a+dZ P b:=by simp[dZ]
theorem py{α:Type}(P:α->Bool)(x:α)(b:List α) :dZ P (x::b)=(P x).toNat+dZ P b:=by simp[dZ]
theorem uQ{α:Type}(P:α->Bool) :dZ P []=0:=rfl
theorem DV(a b:List bD)(P:ba->Bool) :cU (a++b) P=cU a P+cU b P:=by simp[cU]
theorem uh(x:bD)(b:List bD)(P:ba->Bool) :cU (x::b) P=x.T.iw P+cU b P:=by simp[cU]
theorem DW(P:ba->Bool) :cU [] P=0:=rfl
theorem x7(a b:List bD)(x:bD)(P:ba->Bool) :cU (a++x::b) P=x.T.iw P+cU (a++b) P:=by simp only[DV,uh];omega
theorem gu{α:Type}{a b:List α}{x y:α} :y∈a++x::b↔y=x\/y∈a++b:=by simp;constructor<;>(intro h;rcases h with h|h|h)<;>simp[h]
theorem k0{α:Type}{R:α->α->Prop}(au:∀x y,R x y->R y x){a b:List α}{x:α} :(a++x::b).Pairwise R↔(∀y,y∈a++b->R x y)/\(a++b).Pairwise R:=by
 simp only[List.pairwise_append,List.pairwise_cons,List.mem_append,List.mem_cons];constructor
 ·rintro⟨h1,⟨aa,av⟩,aO⟩;refine⟨λy an=> ?_,h1,av,λu hu v ae=>aO u hu v (.inr ae)⟩;rcases an with an|an
  ·exact au _ _ (aO y an x (.inl rfl))
  ·exact aa y an
 ·rintro⟨h1,aa,av,aO⟩;refine⟨aa,⟨λy an=>h1 y (.inr an),av⟩,λu hu v ae=> ?_⟩;rcases ae with rfl|ae
  ·exact au _ _ (h1 u (.inl hu))
  ·exact aO u hu v ae
theorem nE.symm{x y:bD}(h:nE x y) :nE y x:=λf h1 aa=>h f aa h1
theorem L3{T:c0}{P:ba->Bool}{p:Nat}(aD:p<4096)(h:P (T.ent p)=true) :0<T.iw P:=yX aD h
theorem x8{l:List bD}{P:ba->Bool}{x:bD}(ab:x∈l){p:Nat}(aD:p<4096)(h:P (x.T.ent p)=true) :0<cU l P:=by obtain⟨a,b,rfl⟩:=List.append_of_mem ab;rw[x7];have:=L3 aD h;omega
theorem BX{α:Type}{P:α->Bool}{l:List α}{x:α}(ab:x∈l)(h:P x=true) :0<dZ P l:=by obtain⟨a,b,rfl⟩:=List.append_of_mem ab;rw[qc,py,h];simp only[Bool.toNat_true];omega
theorem L7{f:Nat->Bool} :∀{n p q:Nat},p<n->q<n->p≠q->f p=true->f q=true->2<=b' f n
 |0,p,q,h,_,_,_,_=>by omega
 |n+1,p,q,aD,ay,cE,h1,aa=>by
  rw[b'];by_cases e:p=n
  ·subst e;have:=yX (f:=f) (n:=p) (i:=q) (by omega) aa;rw[h1];simp;omega
  ·by_cases cR:q=n
   ·subst cR;have:=yX (f:=f) (n:=q) (i:=p) (by omega) h1;rw[aa];simp;omega
   ·have:=L7 (f:=f) (n:=n) (p:=p) (q:=q) (by omega) (by omega) cE h1 aa;omega
theorem JM{σ:b0}{f:Nat}(h1:refs σ f=1){a b:List bD}{x:bD}(au:σ.ax=a++x::b){p:Nat}(aD:p<4096)(h:bJ f (x.T.ent p)=true) :
  (∀q,q<4096->q≠p->bJ f (x.T.ent q)=false)/\(∀y q,y∈a++b->q<4096->bJ f (y.T.ent q)=false)/\∀y,y∈σ.ring->y.fr≠f:=by
 unfold refs at h1;rw[au,x7]at h1;have ab:=L3 (P:=bJ f) aD h;refine⟨λq ay cE=> ?_,λy q an ay=> ?_,λy an e=> ?_⟩
 ·cases af:bJ f (x.T.ent q)with
  |false=>rfl
  |true=>have:2<=x.T.iw (bJ f):=L7 aD ay (Ne.symm cE) h af
         omega
 ·cases af:bJ f (y.T.ent q)with
  |false=>rfl
  |true=>have:=x8 (P:=bJ f) an ay af
         omega
 ·have:=BX (P:=λx:cH=>x.fr==f) an (by simp[e]);omega
theorem kz{σ:b0}{f:Nat}(h:refs σ f=0) :(∀x p,x∈σ.ax->p<4096->bJ f (x.T.ent p)=false)/\∀y,y∈σ.ring->y.fr≠f:=by
 unfold refs at h;refine⟨λx p ab aD=> ?_,λy an e=> ?_⟩
 ·cases af:bJ f (x.T.ent p)with
  |false=>rfl
  |true=>have:=x8 (P:=bJ f) ab aD af
         omega
 ·have:=BX (P:=λx:cH=>x.fr==f) an (by simp[e]);omega
section
variable{c:cN}{σ:b0}{d e:Nat->Int}
theorem Inv.lt(h:Inv c σ d e){x:bD}(ab:x∈σ.ax){p:Nat}(aD:x.T.ent p≠.zero) :p<4096:=(h.jQ x ab).bq aD
theorem Inv.kX(h:Inv c σ d e){x:bD}(ab:x∈σ.ax){p:Nat}(aD:x.T.ent p≠.zero) :(x.T.ent p).may=true:=(h.jQ x ab).may p aD
theorem gE{s:ba}(h:s.here=true) :s≠.zero:=by rintro rfl;cases h
theorem x3{s:ba}(h:s.out=true) :s≠.zero:=by rintro rfl;cases h
theorem ic(h:Inv c σ d e){x:bD}(ab:x∈σ.ax){p:Nat}(aD:(x.T.ent p).here=true) :bJ (x.T.ent p).n.toNat (x.T.ent p)=true:=by have:=h.kX ab (gE aD);simp[ba.may]at this;simp[bJ,aD];omega
theorem OB(h:Inv c σ d e){x:bD}(ab:x∈σ.ax){p:Nat}(aD:(x.T.ent p).out=true) :cZ (x.T.ent p).n.toNat (x.T.ent p)=true:=by have:=h.kX ab (x3 aD);simp[ba.may]at this;simp[cZ,aD];omega
theorem Inv.rZ(h:Inv c σ d e){x y:bD}(ab:x∈σ.ax){p:Nat}(aD:(x.T.ent p).here=true)(an:y∈σ.ax) :¬IsNode y.T (x.T.ent p).n.toNat:=λal=>by have:=(kz (h.node y _ an al).2.1).1 x p ab (h.lt ab (gE aD));rw[ic h ab aD]at this;cases this
theorem Inv.Cy(h:Inv c σ d e){x:bD}(ab:x∈σ.ax){p:Nat}(aD:(x.T.ent p).here=true) :0<refs σ (x.T.ent p).n.toNat:=by have:=x8 (P:=bJ (x.T.ent p).n.toNat) ab (h.lt ab (gE aD)) (ic h ab aD);unfold refs;omega
theorem Inv.Cx(h:Inv c σ d e){x:bD}(ab:x∈σ.ax){p:Nat}(aD:(x.T.ent p).here=true)(ao:0<=d (x.T.ent p).n.toNat) :0<σ.held (x.T.ent p).n.toNat:=by have h1:=h.data _ (h.here x p ab aD) (λy an=>h.rZ ab aD an);have aa:=h.Cy ab aD;omega
theorem Inv.Qt(h:Inv c σ d e){x:bD}(ab:x∈σ.ax){p:Nat}(aD:(x.T.ent p).out=true)(ao:0<=e (x.T.ent p).n.toNat) :0<σ.bQ (x.T.ent p).n.toNat:=by have h1:=h.slot _ (h.out x p ab aD);have aa:=x8 (P:=cZ (x.T.ent p).n.toNat) ab (h.lt ab (x3 aD)) (OB h ab aD);unfold l5 at h1;omega
theorem Inv.vW(h:Inv c σ d e){y:cH}(an:y∈σ.ring){x:bD}(ab:x∈σ.ax) :¬IsNode x.T y.fr:=λal=>(kz (h.node x _ ab al).2.1).2 y an rfl
theorem Inv.Q2(h:Inv c σ d e){y:cH}(an:y∈σ.ring) :0<refs σ y.fr:=by have:=BX (P:=λx:cH=>x.fr==y.fr) an (by simp);unfold refs;omega
theorem Inv.Jp(h:Inv c σ d e){y:cH}(an:y∈σ.ring)(ao:0<=d y.fr) :0<σ.held y.fr:=by have h1:=h.data _ (h.ring y an).1 (λx ab=>h.vW an ab);have aa:=h.Q2 an;omega
theorem Inv.rN(h:Inv c σ d e)(ao:∀f,0<=d f){f:Nat}(aB:f<c.n)(h0:σ.held f=0) :refs σ f=0/\d f=0/\∀x,x∈σ.ax->¬IsNode x.T f:=by
 have al:∀x,x∈σ.ax->¬IsNode x.T f:=λx ab al=>by have:=(h.node x f ab al).1;omega
 have h1:=h.data f aB al;have aa:=ao f;exact⟨by omega,by omega,al⟩
theorem Inv.fill(h:Inv c σ d e){f:Nat}(m:Nat)(h0:refs σ f=0)(al:∀x,x∈σ.ax->¬IsNode x.T f) :Inv c {σ with mem:=aq σ.mem f m} d e:=
 {h with
  jQ:=λx ab=>(h.jQ x ab).congr λg i aE U=>by
   have:g≠f:=λe=>al x ab (e▸aE)
   simp[eZ,aq,this]
  clean:=λx p r ab aA ah=>by
   have h1:=h.clean x p r ab aA ah;have aC:(x.T.ent p).here=true:=by simp[hE]at aA;exact aA.1.1
   have:(x.T.ent p).n.toNat≠f:=λe=>by have:=(kz h0).1 x p ab (h.lt ab (gE aC));rw[<-e,ic h ab aC]at this;cases this
   exact⟨h1.1,by show _=some (aq σ.mem f m _);rw[ed _ _ this];exact h1.2⟩
  ring:=λy an=>⟨(h.ring y an).1,by show _=some (aq σ.mem f m _);rw[ed _ _ ((kz h0).2 y an)];exact(h.ring y an).2⟩}
theorem Inv.held(h:Inv c σ d e){f:Nat}(aB:f<c.n)(v:Nat)(fr:Nat)(eC:Nat->Int)(al:∀x,x∈σ.ax->¬IsNode x.T f)(ae:(v:Int)=refs σ f+eC f)(ao:∀g,g≠f->eC g=d g)(eT:fr+(decide (σ.held f=0)).toNat=σ.free+(decide (v=0)).toNat) :
  Inv c {σ with held:=aq σ.held f v,free:=fr} eC e:=
 {h with
  node:=λx g ab aE=>by
   have:g≠f:=λe=>al x ab (e▸aE)
   obtain⟨h1,aa,av⟩:=h.node x g ab aE;exact⟨by show aq σ.held f v g=1;rw[ed _ _ this];exact h1,aa,by rw[ao g this];exact av⟩
  data:=λg aE lu=>by
   show((aq σ.held f v g:Nat) :Int)=refs σ g+eC g;by_cases e:g=f
   ·subst e;rw[e3];exact ae
   ·rw[ed _ _ e,ao g e];exact h.data g aE lu
  free:=by
   show fr=b' (λg=>aq σ.held f v g==0) c.n
   have h1:=tp (f:=λg=>σ.held g==0) (g:=λg=>aq σ.held f v g==0) (p:=f) aB (λi _ U=>by simp[ed _ _ U]);have aa:=h.free;simp only[e3]at h1;have aw:(σ.held f==0)=decide (σ.held f=0):=rfl;have aL:(v==0)=decide (v=0):=rfl;rw[aw,aL]at h1
   omega}
end
structure wM(n:Nat)(mem held:Nat->Nat)(free:Nat)(T:c0)(p:Nat)(s:ba)(b7 cf:Nat->Nat)(b4:Nat)(aK:c0) :Prop where
 ok:gx (eZ b7) n aK
 tight:p_ aK
 ent:aK.ent=aq T.ent p s
 other:∀f,¬IsNode T f->¬IsNode aK f->b7 f=mem f/\cf f=held f
 new:∀f,IsNode aK f->¬IsNode T f->held f=0
 node:∀f,IsNode aK f->cf f=1
 gone:∀f,IsNode T f->¬IsNode aK f->cf f=0
 count:b4+aK.dX=free+T.dX
 me:free=b' (λf=>held f==0) n->b4=b' (λf=>cf f==0) n
theorem Jl{a b:List bD}{x:bD}{aK:c0}{p:Nat}{s:ba}(aD:p<4096)(he:aK.ent=aq x.T.ent p s)(P:ba->Bool) :
  cU (a++{x with T:=aK}::b) P+(P (x.T.ent p)).toNat=cU (a++x::b) P+(P s).toNat:=by
 have h1:=W1 x.T P aD s aK.aZ;rw[x7,x7];have:aK.iw P=(c0.mk aK.aZ (aq x.T.ent p s)).iw P:=by unfold c0.iw;rw[he]
 show aK.iw P+_+_=_;omega
section
variable{c:cN}{σ:b0}{d e:Nat->Int}
theorem Inv.ent(h:Inv c σ d e){a b:List bD}{x:bD}(au:σ.ax=a++x::b){p:Nat}{s:ba}{b7 cf:Nat->Nat}{b4:Nat}{aK:c0}
  (R:wM c.n σ.mem σ.held σ.free x.T p s b7 cf b4 aK) (aD:p<4096) (eC cR:Nat->Int)
  (ao:∀f,eC f=d f+(bJ f (x.T.ent p)).toNat-(bJ f s).toNat) (he:∀i,cR i=e i+(cZ i (x.T.ent p)).toNat-(cZ i s).toNat)
  (fw:∀f,IsNode aK f->¬IsNode x.T f->refs σ f=0/\d f=0)
  (bW:s≠.zero->bO x.L p≠none\/c.loose x.s p)
  (dA:s.here=true->s.n.toNat<c.n/\(∀y,y∈σ.ax->¬IsNode y.T s.n.toNat)/\¬IsNode aK s.n.toNat)
  (e5:s.out=true->s.n.toNat<c.cG)
  (kk:s.here=true->s.write=true->refs σ s.n.toNat=(bJ s.n.toNat (x.T.ent p)).toNat)
  (jZ:s.here=true->bJ s.n.toNat (x.T.ent p)=false->∀y q,y∈σ.ax->(y.T.ent q).here=true->(y.T.ent q).write=true->(y.T.ent q).n.toNat≠s.n.toNat)
  (mZ:hE s=true->∀r,bO x.L p=some r->r.kind=1/\c.hy r.file (r.bq+p-r.lo)=some (σ.mem s.n.toNat)) :
  Inv c {σ with mem:=b7,held:=cf,free:=b4,ax:=a++{x with T:=aK}::b} eC cR:=by
 have ab:x∈σ.ax:=by rw[au];simp
 have er:∀y,y∈a++b->y∈σ.ax:=λy an=>by rw[au];exact gu.2 (.inr an)
 have zO:=(k0 (λ_ _=>nE.symm)).1 (au▸h.qe)
 have h':∀f,refs {σ with mem:=b7,held:=cf,free:=b4,ax:=a++{x with T:=aK}::b} f+(bJ f (x.T.ent p)).toNat=refs σ f+(bJ f s).toNat:=λf=>by have:=Jl (a:=a) (b:=b) (x:=x) aD R.ent (bJ f);unfold refs;rw[au];show cU (a++{x with T:=aK}::b) (bJ f) +dZ (λx:cH=>x.fr==f) σ.ring+_=_;omega
 have abq:∀f,l5 {σ with mem:=b7,held:=cf,free:=b4,ax:=a++{x with T:=aK}::b} f+(cZ f (x.T.ent p)).toNat=l5 σ f+(cZ f s).toNat:=λf=>by have:=Jl (a:=a) (b:=b) (x:=x) aD R.ent (cZ f);unfold l5;rw[au];exact this
 have tM:∀y f,y∈a++b->IsNode y.T f->¬IsNode x.T f/\¬IsNode aK f:=λy f an aB=>by
  have h1:¬IsNode x.T f:=λaC=>zO.1 y an f aC aB
  refine⟨h1,λaC=> ?_⟩;have aa:=R.new f aC h1;have av:=(h.node y f (er y an) aB).1;omega
 have RD:∀f,IsNode x.T f->bJ f (x.T.ent p)=false:=λf aB=>(kz (h.node x f ab aB).2.1).1 x p ab aD
 have vf:∀f,0<refs σ f->(∀y,y∈σ.ax->¬IsNode y.T f)->b7 f=σ.mem f:=λf aB al=>by
  by_cases hz:IsNode aK f
  ·have:=(fw f hz (al x ab)).1;omega
  ·exact(R.other f (al x ab) hz).1
 have eb:∀y,y∈a++{x with T:=aK}::b->(y={x with T:=aK})\/y∈a++b:=λy an=>gu.1 an
 have r9:s≠.zero->s.may=true:=λaI=>by have:=R.ok.may p (by rw[R.ent,e3];exact aI);rwa[R.ent,e3]at this
 have acg:s.here=true->bJ s.n.toNat s=true:=λaC=>by have:=r9 (gE aC);simp[ba.may]at this;simp[bJ,aC];omega
 have HN:∀{s:ba} {f:Nat},bJ f s=true->s.here=true/\s.n.toNat=f:=λaC=>by simp[bJ]at aC;exact⟨aC.1,by omega⟩
 have y2:∀q,aK.ent q=if q=p then s else x.T.ent q:=λq=>by rw[R.ent];rfl
 refine⟨?_,?_,?_,?_,?_,R.me h.free,?_,?_,?_,?_,h.used,?_,?_,?_,h.keys,?_⟩
 ·intro y an;rcases eb y an with rfl|an
  ·exact R.ok
  ·exact(h.jQ y (er y an)).congr λf i aB U=>by have:=tM y f an aB;unfold eZ;show pz (b7 f) i=_;rw[(R.other f this.1 this.2).1]
 ·intro y an;rcases eb y an with rfl|an
  ·exact R.tight
  ·exact h.tight y (er y an)
 ·exact(k0 (λ_ _=>nE.symm)).2 ⟨λy an f aB qz=>(tM y f an qz).2 aB,zO.2⟩
 ·intro y f an aB
  have h0:∀g,IsNode aK g->refs σ g=0/\d g=0/\bJ g (x.T.ent p)=false:=λg aE=>by
   by_cases G2:IsNode x.T g
   ·have:=h.node x g ab G2;exact⟨this.2.1,this.2.2,RD g G2⟩
   ·have h1:=fw g aE G2;exact⟨h1.1,h1.2,(kz h1.1).1 x p ab aD⟩
  have CV:∀g,(IsNode aK g\/∃z,z∈σ.ax/\IsNode z.T g)->bJ g s=false:=λg aE=>by
   cases af:bJ g s with
   |false=>rfl
   |true=>
    obtain⟨fj,eS⟩:=HN af;obtain⟨_,bR,bY⟩:=dA fj;rw[eS]at bR bY;rcases aE with aE|⟨z,aI,aE⟩
    ·exact absurd aE bY
    ·exact absurd aE (bR z aI)
  rcases eb y an with rfl|an
  ·obtain⟨h1,aa,av⟩:=h0 f aB;have aO:=h' f;rw[av,CV f (.inl aB),h1]at aO;refine⟨R.node f aB,by simpa using aO,?_⟩;rw[ao,aa,av,CV f (.inl aB)];rfl
  ·obtain⟨h1,aa⟩:=tM y f an aB;obtain⟨a',bR,bY⟩:=h.node y f (er y an) aB;have av:bJ f (x.T.ent p)=false:=(kz bR).1 x p ab aD;have aO:=h' f;rw[av,CV f (.inr ⟨y,er y an,aB⟩),bR]at aO;refine⟨by show cf f=1;rw[(R.other f h1 aa).2];exact a',by simpa using aO,?_⟩;rw[ao,bY,av,CV f (.inr ⟨y,er y an,aB⟩)];rfl
 ·intro f aB al;have hz:¬IsNode aK f:=al {x with T:=aK} (gu.2 (.inl rfl));have ix:∀y,y∈a++b->¬IsNode y.T f:=λy an=>al y (gu.2 (.inr an))
  have aO:=h' f;have bb:=ao f;show((cf f:Nat) :Int)=_;by_cases iU:IsNode x.T f
  ·obtain⟨a',bR,bY⟩:=h.node x f ab iU;have av:=RD f iU
   have cp:bJ f s=false:=by
    cases af:bJ f s with
    |false=>rfl
    |true=>
     obtain⟨fj,eS⟩:=HN af;obtain⟨_,gi,_⟩:=dA fj;exact absurd iU (eS▸gi x ab)
   rw[R.gone f iU hz];rw[av,cp]at aO bb;simp only[Bool.toNat_false]at aO bb;omega
  ·have h1:=h.data f aB (λy an=>by
    rw[au]at an;rcases gu.1 an with rfl|an
    ·exact iU
    ·exact ix y an)
   rw[(R.other f iU hz).2];omega
 ·intro y q an ay;rcases eb y an with rfl|an
  ·change (aK.ent q).here=true at ay;show(aK.ent q).n.toNat<_;rw[y2]at ay|-;by_cases iT:q=p
   ·rw[if_pos iT]at ay|-;exact(dA ay).1
   ·rw[if_neg iT]at ay|-;exact h.here x q ab ay
  ·exact h.here y q (er y an) ay
 ·intro y q an ay;rcases eb y an with rfl|an
  ·change (aK.ent q).out=true at ay;show(aK.ent q).n.toNat<_;rw[y2]at ay|-;by_cases iT:q=p
   ·rw[if_pos iT]at ay|-;exact e5 ay
   ·rw[if_neg iT]at ay|-;exact h.out x q ab ay
  ·exact h.out y q (er y an) ay
 ·intro y q an ay;rcases eb y an with rfl|an
  ·change aK.ent q≠.zero at ay;rw[y2]at ay;by_cases iT:q=p
   ·rw[if_pos iT]at ay;subst iT;exact bW ay
   ·rw[if_neg iT]at ay;exact h.mc x q ab ay
  ·exact h.mc y q (er y an) ay
 ·intro i U;have h1:=h.slot i U;have aa:=abq i;have av:=he i;show(σ.bQ i:Int)=_;omega
 ·
  have key:∀y q,y∈σ.ax->(y∈a++b\/(y=x/\q≠p))->(y.T.ent q).here=true->(y.T.ent q).write=true->refs {σ with mem:=b7,held:=cf,free:=b4,ax:=a++{x with T:=aK}::b} (y.T.ent q).n.toNat=1:=λy q an zY aC hw=>by
   have a':=h.write y q an aC hw
   have bR:bJ (y.T.ent q).n.toNat (x.T.ent p)=false:=by
    cases af:bJ (y.T.ent q).n.toNat (x.T.ent p)with
    |false=>rfl
    |true=>
     have:=JM a' au aD af;have N0:=h.lt an (gE aC);rcases zY with zY|⟨rfl,zY⟩
     ·have:=this.2.1 y q zY N0;rw[ic h an aC]at this;cases this
     ·have:=this.1 q N0 zY;rw[ic h an aC]at this;cases this
   have bY:bJ (y.T.ent q).n.toNat s=false:=by
    cases af:bJ (y.T.ent q).n.toNat s with
    |false=>rfl
    |true=>
     obtain⟨fj,eS⟩:=HN af;exact absurd eS.symm (jZ fj (by rw[eS];exact bR) y q an aC hw)
   have:=h' (y.T.ent q).n.toNat;rw[bR,bY,a']at this;simpa using this
  intro y q an aC hw;rcases eb y an with rfl|an
  ·change (aK.ent q).here=true at aC;change (aK.ent q).write=true at hw;show refs _ (aK.ent q).n.toNat=1;rw[y2]at aC hw|-;by_cases iT:q=p
   ·rw[if_pos iT]at aC hw|-;have h1:=kk aC hw;have aa:=h' s.n.toNat;rw[acg aC]at aa;simp only[Bool.toNat_true]at aa;omega
   ·rw[if_neg iT]at aC hw|-;exact key x q ab (.inr ⟨rfl,iT⟩) aC hw
  ·exact key y q (er y an) (.inl an) aC hw
 ·intro y q r an aA ah;rcases eb y an with rfl|an
  ·change hE (aK.ent q)=true at aA;change bO x.L q=some r at ah;show r.kind=1/\c.hy r.file (r.bq+q-r.lo)=some (b7 (aK.ent q).n.toNat);rw[y2]at aA|-;by_cases iT:q=p
   ·subst iT;rw[if_pos rfl]at aA|-;have h1:=mZ aA r ah;have aC:s.here=true:=by simp[hE]at aA;exact aA.1.1
    obtain⟨_,bR,bY⟩:=dA aC;rw[(R.other _ (bR x ab) bY).1];exact h1
   ·rw[if_neg iT]at aA|-;have h1:=h.clean x q r ab aA ah;have aC:(x.T.ent q).here=true:=by simp[hE]at aA;exact aA.1.1
    rw[vf _ (h.Cy ab aC) (λz aI=>h.rZ ab aC aI)];exact h1
  ·have h1:=h.clean y q r (er y an) aA ah;have aC:(y.T.ent q).here=true:=by simp[hE]at aA;exact aA.1.1
   show r.kind=1/\c.hy r.file (r.bq+q-r.lo)=some (b7 (y.T.ent q).n.toNat);rw[vf _ (h.Cy (er y an) aC) (λz aI=>h.rZ (er y an) aC aI)];exact h1
 ·intro y an;have h1:=h.ring y an;refine⟨h1.1,?_⟩;show _=some (b7 y.fr);rw[vf _ (h.Q2 an) (λz aI=>h.vW an aI)];exact h1.2
 ·intro y an;rcases eb y an with rfl|an
  ·exact h.gI x ab
  ·exact h.gI y (er y an)
theorem Inv.B9(h:Inv c σ d e){a b:List bD}{x:bD}(au:σ.ax=a++x::b){p:Nat}{s:ba}{b7 cf:Nat->Nat}{b4:Nat}{aK:c0}
  (R:wM c.n σ.mem σ.held σ.free x.T p s b7 cf b4 aK) (fw:∀f,IsNode aK f->¬IsNode x.T f->refs σ f=0/\d f=0) :
  (∀y q,y∈a++b->cont c {σ with mem:=b7,held:=cf,free:=b4,ax:=a++{x with T:=aK}::b} y q=cont c σ y q)/\
  (∀q,q≠p->cont c {σ with mem:=b7,held:=cf,free:=b4,ax:=a++{x with T:=aK}::b} {x with T:=aK} q=cont c σ x q):=by
 have ab:x∈σ.ax:=by rw[au];simp
 have er:∀y,y∈a++b->y∈σ.ax:=λy an=>by rw[au];exact gu.2 (.inr an)
 have vf:∀f,0<refs σ f->(∀y,y∈σ.ax->¬IsNode y.T f)->b7 f=σ.mem f:=λf aB al=>by
  by_cases hz:IsNode aK f
  ·have:=(fw f hz (al x ab)).1;omega
  ·exact(R.other f (al x ab) hz).1
 have aj:∀y q,y∈σ.ax->(y.T.ent q).here=true->b7 (y.T.ent q).n.toNat=σ.mem (y.T.ent q).n.toNat:=λy q an aC=>
  vf _ (h.Cy an aC) (λz aI=>h.rZ an aC aI)
 refine⟨λy q an=> ?_,λq ay=> ?_⟩
 ·unfold cont;cases bO y.L q with
  |none=>rfl
  |some r=>
   dsimp only;by_cases aC:(y.T.ent q).here=true
   ·rw[if_pos aC,if_pos aC,aj y q (er y an) aC]
   ·rw[if_neg aC,if_neg aC]
 ·unfold cont;dsimp only;have aw:aK.ent q=x.T.ent q:=by rw[R.ent,ed _ _ ay]
  rw[aw];cases bO x.L q with
  |none=>rfl
  |some r=>
   dsimp only;by_cases aC:(x.T.ent q).here=true
   ·rw[if_pos aC,if_pos aC,aj x q ab aC]
   ·rw[if_neg aC,if_neg aC]
end
section
variable{c:cN}{σ:b0}{d e:Nat->Int}
theorem FR{s:ba}(h:hE s=true) :s.here=true:=by simp[hE]at h;exact h.1.1
theorem Inv.store(h:Inv c σ d e){a b:List bD}{x:bD}(au:σ.ax=a++x::b){p:Nat}(m:Nat)(aC:(x.T.ent p).here=true)(aA:hE (x.T.ent p)=false)(h1:refs σ (x.T.ent p).n.toNat=1) :
  Inv c {σ with mem:=aq σ.mem (x.T.ent p).n.toNat m} d e/\
  (∀y q,y∈a++b->cont c {σ with mem:=aq σ.mem (x.T.ent p).n.toNat m} y q=cont c σ y q)/\
  (∀q,q≠p->cont c {σ with mem:=aq σ.mem (x.T.ent p).n.toNat m} x q=cont c σ x q)/\
  (bO x.L p≠none->cont c {σ with mem:=aq σ.mem (x.T.ent p).n.toNat m} x p=some m):=by
 have ab:x∈σ.ax:=by rw[au];simp
 have aD:=h.lt ab (gE aC);have er:∀y,y∈a++b->y∈σ.ax:=λy an=>by rw[au];exact gu.2 (.inr an)
 obtain⟨s1,s2,du⟩:=JM h1 au aD (ic h ab aC)
 have t':∀y q,y∈a++b->(y.T.ent q).here=true->(y.T.ent q).n.toNat≠(x.T.ent p).n.toNat:=λy q an ay e=>by have:=s2 y q an (h.lt (er y an) (gE ay));rw[<-e,ic h (er y an) ay]at this;cases this
 have same:∀q,q≠p->(x.T.ent q).here=true->(x.T.ent q).n.toNat≠(x.T.ent p).n.toNat:=λq iT ay e=>by have:=s1 q (h.lt ab (gE ay)) iT;rw[<-e,ic h ab ay]at this;cases this
 refine⟨{h with
  jQ:=λy an=>(h.jQ y an).congr λg i aE U=>by
   have:g≠(x.T.ent p).n.toNat:=λe=>h.rZ ab aC an (e▸aE)
   simp[eZ,aq,this]
  clean:=λy q r an f_ ah=>by
   have k:=h.clean y q r an f_ ah;refine⟨k.1,?_⟩
   have:(y.T.ent q).n.toNat≠(x.T.ent p).n.toNat:=by
    rw[au]at an;rcases gu.1 an with rfl|an
    ·by_cases iT:q=p
     ·subst iT;rw[aA]at f_;cases f_
     ·exact same q iT (FR f_)
    ·exact t' y q an (FR f_)
   show _=some (aq σ.mem _ m _);rw[ed _ _ this];exact k.2
  ring:=λy an=>⟨(h.ring y an).1,by show _=some (aq σ.mem _ m _);rw[ed _ _ (du y an)];exact(h.ring y an).2⟩},?_,?_,?_⟩
 ·intro y q an;unfold cont;cases bO y.L q with
  |none=>rfl
  |some r=>
   dsimp only;by_cases ay:(y.T.ent q).here=true
   ·rw[if_pos ay,if_pos ay,ed _ _ (t' y q an ay)]
   ·rw[if_neg ay,if_neg ay]
 ·intro q iT;unfold cont;cases bO x.L q with
  |none=>rfl
  |some r=>
   dsimp only;by_cases ay:(x.T.ent q).here=true
   ·rw[if_pos ay,if_pos ay,ed _ _ (same q iT ay)]
   ·rw[if_neg ay,if_neg ay]
 ·unfold cont;intro this;cases ah:bO x.L p with
  |none=>exact absurd ah this
  |some r=>dsimp only;rw[if_pos aC,e3]
theorem Inv.bQ(h:Inv c σ d e){i:Nat}(U:i<c.cG)(v u:Nat)(cR:Nat->Int)(ae:(v:Int)=l5 σ i+cR i)(he:∀j,j≠i->cR j=e j)(hu:u+(decide (σ.bQ i≠0)).toNat=σ.used+(decide (v≠0)).toNat) :
  Inv c {σ with bQ:=aq σ.bQ i v,used:=u} d cR:=
 {h with
  slot:=λj az=>by
   show((aq σ.bQ i v j:Nat) :Int)=l5 σ j+cR j;by_cases k:j=i
   ·subst k;rw[e3];exact ae
   ·rw[ed _ _ k,he j k];exact h.slot j az
  used:=by
   show u=b' (λj=>aq σ.bQ i v j !=0) c.cG
   have h1:=tp (f:=λj=>σ.bQ j !=0) (g:=λj=>aq σ.bQ i v j !=0) (p:=i) U (λk _ aj=>by simp[ed _ _ aj]);have aa:=h.used;simp only[e3]at h1;have aw:(σ.bQ i !=0)=decide (σ.bQ i≠0):=by by_cases k:σ.bQ i=0<;>simp[k]
   have aL:(v !=0)=decide (v≠0):=by by_cases k:v=0<;>simp[k]
   rw[aw,aL]at h1
   omega}
theorem Inv.sec(h:Inv c σ d e){i:Nat}(m:Nat)(h0:l5 σ i=0) :
  Inv c {σ with sec:=aq σ.sec (c.first+i) m} d e/\∀y q,y∈σ.ax->cont c {σ with sec:=aq σ.sec (c.first+i) m} y q=cont c σ y q:=by
 refine⟨{h with},λy q an=> ?_⟩;unfold cont;cases bO y.L q with
 |none=>rfl
 |some r=>
  dsimp only;by_cases aY:(y.T.ent q).out=true
  ·have:c.first+(y.T.ent q).n.toNat≠c.first+i:=λk=>by
    have k:(y.T.ent q).n.toNat=i:=by omega
    have:=x8 (P:=cZ i) an (h.lt an (x3 aY)) (k▸OB h an aY);unfold l5 at h0;omega
   rw[ed _ _ this]
  ·simp[aY]
theorem Inv.WN(h:Inv c σ d e){y:cH}(aB:y.fr<c.n)(hm:c.hy y.file y.bq=some (σ.mem y.fr))(h0:refs σ y.fr=0)(al:∀x,x∈σ.ax->¬IsNode x.T y.fr)(aj:∀z,z∈σ.ring->¬(z.file=y.file/\z.bq=y.bq))
  (eC:Nat->Int) (ao:∀f,eC f=d f-(decide (f=y.fr)).toNat) :Inv c {σ with ring:=σ.ring++[y]} eC e:=by
 have h':∀f,refs {σ with ring:=σ.ring++[y]} f=refs σ f+(decide (f=y.fr)).toNat:=λf=>by
  unfold refs;show cU σ.ax (bJ f) +dZ _ (σ.ring++[y])=_;rw[qc,py,uQ];have:(y.fr==f)=decide (f=y.fr):=by by_cases k:f=y.fr<;>simp[k];exact λdg=>k dg.symm
  rw[this];omega
 exact{h with
  node:=λx f ab aB=>by
   obtain⟨h1,aa,av⟩:=h.node x f ab aB;have:f≠y.fr:=λk=>al x ab (k▸aB)
   refine⟨h1,by rw[h',aa];simp[this],by rw[ao,av];simp[this]⟩
  data:=λf aB j4=>by have:=h.data f aB j4;rw[h',ao];show(σ.held f:Int)=_;omega
  write:=λx p ab aC hw=>by
   rw[h',h.write x p ab aC hw]
   have:(x.T.ent p).n.toNat≠y.fr:=λk=>by have:=(kz h0).1 x p ab (h.lt ab (gE aC));rw[<-k,ic h ab aC]at this;cases this
   simp[this]
  ring:=λz aI=>by
   rcases List.mem_append.1 aI with aI|aI
   ·exact h.ring z aI
   ·rw[List.mem_singleton]at aI;subst aI;exact⟨aB,hm⟩
  keys:=by
   rw[List.pairwise_append];refine⟨h.keys,by simp,λa aU b af=> ?_⟩;rw[List.mem_singleton]at af;subst af
   exact aj a aU}
theorem Inv.akf(h:Inv c σ d e){a b:List cH}{y:cH}(ah:σ.ring=a++y::b)(hand:Nat)(eC:Nat->Int)(ao:∀f,eC f=d f+(decide (f=y.fr)).toNat) :Inv c {σ with ring:=a++b,hand:=hand} eC e:=by
 have h':∀f,refs {σ with ring:=a++b,hand:=hand} f+(decide (f=y.fr)).toNat=refs σ f:=λf=>by
  unfold refs;show cU σ.ax (bJ f) +dZ (λx:cH=>x.fr==f) (a++b) +_=_;rw[ah,qc,qc,py];have:(y.fr==f)=decide (f=y.fr):=by by_cases k:f=y.fr<;>simp[k];exact λdg=>k dg.symm
  rw[this];omega
 have an:y∈σ.ring:=by rw[ah];simp
 exact{h with
  node:=λx f ab aB=>by
   obtain⟨h1,aa,av⟩:=h.node x f ab aB;have:f≠y.fr:=λk=>h.vW an ab (k▸aB)
   have aO:=h' f;rw[aa]at aO;refine⟨h1,by omega,by rw[ao,av];simp[this]⟩
  data:=λf aB j4=>by have:=h.data f aB j4;have aO:=h' f;rw[ao];show(σ.held f:Int)=_;omega
  write:=λx p ab aC hw=>by
   have h1:=h.write x p ab aC hw;have aO:=h' (x.T.ent p).n.toNat
   have:(x.T.ent p).n.toNat≠y.fr:=λk=>by obtain⟨u,v,hu⟩:=List.append_of_mem ab;exact(JM h1 hu (h.lt ab (gE aC)) (ic h ab aC)).2.2 y an k.symm
   simp only[this,decide_false,Bool.toNat_false]at aO;omega
  ring:=λz aI=>h.ring z (by rw[ah];exact gu.2 (.inr aI))
  keys:=by
   have:=h.keys;rw[ah]at this
   exact this.sublist (by simp)}
theorem Inv.marks(h:Inv c σ d e){eQ:List cH}(ah:eQ.map (λy=>(y.file,y.bq,y.fr))=σ.ring.map (λy=>(y.file,y.bq,y.fr)))(hand:Nat) :Inv c {σ with ring:=eQ,hand:=hand} d e:=by
 have h':∀f,refs {σ with ring:=eQ,hand:=hand} f=refs σ f:=λf=>by
  unfold refs;have:∀l:List cH,dZ (λx:cH=>x.fr==f) l=dZ (λt:Int×Int×Nat=>t.2.2==f) (l.map λy=>(y.file,y.bq,y.fr)):=λl=>by simp[dZ,Function.comp_def]
  show cU σ.ax (bJ f) +dZ _ eQ=_;rw[this,this,ah]
 exact{h with
  node:=λx f ab aB=>by rw[h'];exact h.node x f ab aB
  data:=λf aB j4=>by rw[h'];exact h.data f aB j4
  write:=λx p ab aC hw=>by rw[h'];exact h.write x p ab aC hw
  ring:=λz aI=>by
   have:(z.file,z.bq,z.fr)∈σ.ring.map (λy=>(y.file,y.bq,y.fr)):=by rw[<-ah];exact List.mem_map.2 ⟨z,aI,rfl⟩
   obtain⟨w,hw,e⟩:=List.mem_map.1 this;simp only[Prod.mk.injEq]at e;obtain⟨aw,aL,bo⟩:=e;rw[<-aw,<-aL,<-bo];exact h.ring w hw
  keys:=by
   have k:∀l:List cH,l.Pairwise (λa b=>¬(a.file=b.file/\a.bq=b.bq))↔(l.map λy=>(y.file,y.bq,y.fr)).Pairwise (λa b=>¬(a.1=b.1/\a.2.1=b.2.1)):=λl=>by rw[List.pairwise_map]
   rw[k,ah,<-k]
   exact h.keys}
theorem Inv.row(h:Inv c σ d e){a b:List bD}{x:bD}(au:σ.ax=a++x::b){hv:List aH}(en:je hv)
  (aj:∀p:Nat,x.T.ent p≠.zero->(∃r b9,bO x.L p=some r/\bO hv p=some b9/\b9.kind=r.kind/\b9.file=r.file/\(r.kind=1->b9.bq+p-b9.lo=r.bq+p-r.lo))\/c.loose x.s p/\bO hv p=none) :
  Inv c {σ with ax:=a++{x with L:=hv}::b} d e:=by
 have ab:x∈σ.ax:=by rw[au];simp
 have er:∀y,y∈a++b->y∈σ.ax:=λy an=>by rw[au];exact gu.2 (.inr an)
 have ar:∀P,cU (a++{x with L:=hv}::b) P=cU σ.ax P:=λP=>by rw[au,x7,x7]
 have h':∀f,refs {σ with ax:=a++{x with L:=hv}::b} f=refs σ f:=λf=>by unfold refs;rw[ar]
 have all:∀{Q:bD->Prop},(Q {x with L:=hv})->(∀y,y∈a++b->Q y)->∀y,y∈a++{x with L:=hv}::b->Q y:=λh1 aa y an=>by
  rcases gu.1 an with rfl|an
  ·exact h1
  ·exact aa y an
 have ei:∀{Q:c0->Prop},(∀y,y∈σ.ax->Q y.T)->∀y,y∈a++{x with L:=hv}::b->Q y.T:=λay=>all (ay x ab) λy an=>ay y (er y an)
 have zO:=(k0 (λ_ _=>nE.symm)).1 (au▸h.qe)
 exact{h with
  jQ:=ei h.jQ
  tight:=ei h.tight
  qe:=(k0 (λ_ _=>nE.symm)).2 ⟨zO.1,zO.2⟩
  node:=λy f an aB=>by rw[h'];exact ei (Q:=λT=>IsNode T f->_) (λz aI al=>h.node z f aI al) y an aB
  data:=λf aB al=>by
   rw[h'];refine h.data f aB λy an=> ?_
   rw[au]at an;rcases gu.1 an with rfl|an
   ·exact al {y with L:=hv} (gu.2 (.inl rfl))
   ·exact al y (gu.2 (.inr an))
  here:=λy p an=>ei (Q:=λT=>(T.ent p).here=true->(T.ent p).n.toNat<c.n) (λz aI=>h.here z p aI) y an
  out:=λy p an=>ei (Q:=λT=>(T.ent p).out=true->(T.ent p).n.toNat<c.cG) (λz aI=>h.out z p aI) y an
  mc:=λy p an=>all (Q:=λy=>y.T.ent p≠.zero->bO y.L p≠none\/c.loose y.s p) (λaI=>by
   rcases aj p aI with⟨r,b9,_,k,_⟩ |k
   ·left;show bO hv p≠none;rw[k];simp
   ·exact .inr k.1) (λz aI=>h.mc z p (er z aI)) y an
  slot:=λi U=>by unfold l5;rw[ar];exact h.slot i U
  write:=λy p an=>ei (Q:=λT=>(T.ent p).here=true->(T.ent p).write=true->refs _ (T.ent p).n.toNat=1) (λz aI h1 aa=>by rw[h'];exact h.write z p aI h1 aa) y an
  clean:=λy p r an=>all (Q:=λy=>hE (y.T.ent p)=true->bO y.L p=some r->_) (λaA ah=>by
   rcases aj p (gE (FR aA))with⟨q,cv,a',bR,bY,c8,d_⟩ |k
   ·have:=h.clean x p q ab aA a';rw[show bO hv p=some r from ah]at bR;obtain rfl:=Option.some.inj bR;rw[bY,c8,d_ this.1];exact this
   ·have iz:bO hv p=some r:=ah
    rw[k.2]at iz;cases iz) (λz aI=>h.clean z p r (er z aI)) y an
  gI:=all en λz aI=>h.gI z (er z aI)}
def eP(f:Nat) :c0:=⟨λl q=>if l=0/\q=0 then some f else none,λ_=>.zero⟩
theorem ID{f g:Nat} :IsNode (eP f) g↔g=f:=by
 unfold IsNode eP;constructor
 ·rintro⟨l,q,h⟩;dsimp only at h;split at h<;>simp_all
 ·rintro rfl;exact⟨0,0,by simp⟩
theorem afr(f:Nat) :(eP f).dX=1:=by
 have h1:∀l,l≠0->b' (λq=>((eP f).aZ l q).isSome) (8^l)=0:=λl ar=>m1.2 λi _=>by simp[eP,ar]
 unfold c0.dX;simp only[de,h1 1 (by omega),h1 2 (by omega),h1 3 (by omega)];simp[b',eP]
theorem W2{T:c0}{P:ba->Bool}(h:∀p,T.ent p=.zero)(nP:P .zero=false) :T.iw P=0:=by unfold c0.iw;exact m1.2 λi _=>by rw[h i];exact nP
theorem Mf(i:Nat) :pz 0 i=.zero:=by unfold pz;simp[kD,ba.may,ba.zero]
theorem afs{mem:Nat->Nat}{n f:Nat}(aB:f<n)(hm:mem f=0) :gx (eZ mem) n (eP f):=by
 have k:∀l q g,(eP f).aZ l q=some g->l=0/\q=0/\g=f:=λl q g h=>by simp only[eP]at h;split at h<;>simp_all
 refine⟨by simp[eP],?_,?_,?_,?_,?_,?_,?_⟩
 ·intro l q g h;obtain⟨rfl,rfl,rfl⟩:=k _ _ _ h;exact⟨by omega,by simp,aB⟩
 ·intro l q g i ar h U;obtain⟨rfl,rfl,rfl⟩:=k _ _ _ h;simp[eZ,hm,Mf,eP]
 ·intro q g i h U;obtain⟨av,_⟩:=k _ _ _ h;omega
 ·intro l q h;simp[eP]at h
 ·intro p h;simp[eP]at h
 ·intro p h;simp[eP]at h
 ·intro l q bz cv g h bg;obtain⟨rfl,rfl,_⟩:=k _ _ _ h;obtain⟨rfl,rfl,_⟩:=k _ _ _ bg;simp
theorem aft(f:Nat) :p_ (eP f):=⟨λq h=>by simp[eP]at h,λl q _ h=>by simp[eP]at h⟩
theorem Inv.space(h:Inv c σ d e){f s t:Nat}(aB:f<c.n)(hm:σ.mem f=0)(h0:refs σ f=0)(al:∀x,x∈σ.ax->¬IsNode x.T f)(aC:σ.held f=1)(eC:Nat->Int)(ao:∀g,eC g=d g-(decide (g=f)).toNat)(ZR:d f=1) :
  Inv c {σ with ax:=σ.ax++[⟨s,t,eP f,[]⟩]} eC e:=by
 have ar:∀P,P .zero=false->cU (σ.ax++[⟨s,t,eP f,[]⟩]) P=cU σ.ax P:=λP nP=>by rw[DV,uh,DW,W2 (λ_=>rfl) nP];omega
 have h':∀g,refs {σ with ax:=σ.ax++[⟨s,t,eP f,[]⟩]} g=refs σ g:=λg=>by unfold refs;rw[ar _ rfl]
 have all:∀{Q:bD->Prop},Q ⟨s,t,eP f,[]⟩->(∀y,y∈σ.ax->Q y)->∀y,y∈σ.ax++[⟨s,t,eP f,[]⟩]->Q y:=λh1 aa y an=>by
  rcases List.mem_append.1 an with an|an
  ·exact aa y an
  ·rw[List.mem_singleton]at an;subst an;exact h1
 have aI:∀p,(eP f).ent p=.zero:=λ_=>rfl
 exact{h with
  jQ:=all (afs aB hm) h.jQ
  tight:=all (aft f) h.tight
  qe:=by rw[List.pairwise_append];refine⟨h.qe,by simp,λx ab y an=> ?_⟩;rw[List.mem_singleton]at an;subst an;intro g aE zt;have:g=f:=ID.1 zt;exact al x ab (this▸aE)
  node:=λy g an=>by
   rw[h'];refine all (Q:=λy=>IsNode y.T g->σ.held g=1/\refs σ g=0/\eC g=0) (λaE=> ?_) (λz aI aE=> ?_) y an
   ·obtain rfl:=ID.1 aE;exact⟨aC,h0,by rw[ao,ZR];simp⟩
   ·obtain⟨a',bR,bY⟩:=h.node z g aI aE;have:g≠f:=λk=>al z aI (k▸aE)
    exact⟨a',bR,by rw[ao,bY];simp[this]⟩
  data:=λg aE lu=>by
   rw[h'];have:g≠f:=λk=>lu ⟨s,t,eP f,[]⟩ (by simp) (ID.2 k)
   have:=h.data g aE (λx ab=>lu x (List.mem_append.2 (.inl ab)));rw[ao];simp only[show decide (g=f)=false by simpa,Bool.toNat_false];show(σ.held g:Int)=_;omega
  here:=λy p an=>all (Q:=λy=>(y.T.ent p).here=true->(y.T.ent p).n.toNat<c.n) (λay=>by rw[aI]at ay;cases ay) (λz aI=>h.here z p aI) y an
  out:=λy p an=>all (Q:=λy=>(y.T.ent p).out=true->(y.T.ent p).n.toNat<c.cG) (λay=>by rw[aI]at ay;cases ay) (λz aI=>h.out z p aI) y an
  mc:=λy p an=>all (Q:=λy=>y.T.ent p≠.zero->bO y.L p≠none\/c.loose y.s p) (λay=>absurd (aI p) ay) (λz aI=>h.mc z p aI) y an
  slot:=λi U=>by unfold l5;rw[ar _ rfl];exact h.slot i U
  write:=λy p an=>all (Q:=λy=>(y.T.ent p).here=true->(y.T.ent p).write=true->refs _ (y.T.ent p).n.toNat=1) (λay=>by rw[aI]at ay;cases ay) (λz aI h1 aa=>by rw[h'];exact h.write z p aI h1 aa) y an
  clean:=λy p r an=>all (Q:=λy=>hE (y.T.ent p)=true->bO y.L p=some r->_) (λay=>by rw[aI]at ay;cases ay) (λz aI=>h.clean z p r aI) y an
  gI:=all ⟨by simp[dp],by simp⟩ h.gI}
end
def pre(p l:Nat) :Nat:=p/8^(4-l)
theorem nm(p:Nat){l:Nat}(ar:l<4) :pre p (l+1) /8=pre p l:=by unfold pre;rw[Nat.div_div_eq_div_mul,<-Nat.pow_succ];congr 2;omega
theorem qU(p:Nat) :pre p 3=p/8:=by simp[pre]
theorem DS{p:Nat}(aD:p<4096) :pre p 0=0:=by simp[pre];omega
theorem DR{p l:Nat}(aD:p<4096)(ar:l<4) :pre p l<8^l:=by unfold pre;rw[Nat.div_lt_iff_lt_mul (Nat.pos_of_neZero _),<-Nat.pow_add,show l+(4-l)=4 by omega];omega
def wP(m fE i:Nat)(s:ba) :Prop:=∀j,j<8->pz fE j=if j=i then s else pz m j
structure oz(n:Nat)(mem held:Nat->Nat)(free:Nat)(T:c0)(p:Nat)(b7 cf:Nat->Nat)(b4:Nat)(aK:c0) :Prop where
 ok:gx (eZ b7) n aK
 ent:aK.ent=T.ent
 ca:∀l q f,T.aZ l q=some f->aK.aZ l q=some f
 only:∀l q,aK.aZ l q≠none->T.aZ l q≠none\/q=pre p l
 other:∀f,¬IsNode T f->¬IsNode aK f->b7 f=mem f/\cf f=held f
 new:∀f,IsNode aK f->¬IsNode T f->held f=0
 node:∀f,IsNode aK f->cf f=1
 count:b4+aK.dX=free+T.dX
 me:free=b' (λf=>held f==0) n->b4=b' (λf=>cf f==0) n
section
variable{n:Nat}{mem held:Nat->Nat}{free:Nat}{T:c0}{p k l:Nat}{b7 cf:Nat->Nat}{b4 Gw:Nat}{aK:c0}
theorem oz.refl(h:gx (eZ mem) n T)(al:∀f,IsNode T f->held f=1) :oz n mem held free T p mem held free T:=
 ⟨h,rfl,λ_ _ _ h=>h,λ_ _ h=>.inl h,λ_ _ _=>⟨rfl,rfl⟩,λf h bg=>absurd h bg,al,rfl,id⟩
theorem oz.sb(M:oz n mem held free T p b7 cf b4 aK){f:Nat}(h:IsNode T f) :IsNode aK f:=let⟨l,q,ay⟩:=h;⟨l,q,M.ca _ _ _ ay⟩
theorem oz.step(M:oz n mem held free T p b7 cf b4 aK)(aD:p<4096){l g f m:Nat}(ar:l<3)(aE:aK.aZ l (pre p l)=some g)(ay:aK.aZ (l+1) (pre p (l+1))=none)(j4:f<n)(aB:cf f=0)(eT:0<b4)
  (hm:wP (b7 g) m (pre p (l+1) %8) (qP f)) :
  oz n mem held free T p (aq (aq b7 f 0) g m) (aq cf f 1) (b4-1) {aK with aZ:=cr aK.aZ (l+1) (pre p (l+1)) (some f)}:=by
 have xk:¬IsNode aK f:=λh=>by have:=M.node f h;omega
 have xl:g≠f:=λe=>xk ⟨_,_,e▸aE⟩
 have ZJ:gx (λa i=>if a=f then .zero else eZ b7 a i) n aK:=M.ok.congr λa i aU _=>by
  have:a≠f:=λe=>xk (e▸aU)
  simp[this]
 have pM:=ZJ.grow (m2:=eZ (aq (aq b7 f 0) g m)) ar (by rw[nm p (by omega)];exact aE) ay j4 xk (λi _=>by simp) (λa i aU U=>by
  unfold eZ cr;by_cases e:a=g
  ·subst e;rw[e3,hm i U];by_cases eo:i=pre p (l+1) %8
   ·simp[eo]
   ·simp[eo,xl,eZ]
  ·rw[ed _ _ e,if_neg (by simp[e])];by_cases cR:a=f
   ·subst cR;rw[e3,Mf];simp
   ·rw[ed _ _ cR];simp[cR])
 have HY:∀{bz cv a},aK.aZ bz cv=some a->cr aK.aZ (l+1) (pre p (l+1)) (some f) bz cv=some a:=λ{bz cv a} h=>by
  unfold cr;split
  ·rename_i aA;rw[aA.1,aA.2,ay]at h;cases h
  ·exact h
 have back:∀{a},IsNode {aK with aZ:=cr aK.aZ (l+1) (pre p (l+1)) (some f)} a->a=f\/IsNode aK a:=λ{a} ⟨bz,cv,h⟩=>by
  change cr aK.aZ (l+1) (pre p (l+1)) (some f) bz cv=some a at h;unfold cr at h;split at h
  ·exact .inl (Option.some.inj h).symm
  ·exact .inr ⟨_,_,h⟩
 have fwd:∀{a},IsNode aK a->IsNode {aK with aZ:=cr aK.aZ (l+1) (pre p (l+1)) (some f)} a:=λ{a} ⟨bz,cv,h⟩=>⟨bz,cv,HY h⟩
 have fin:IsNode {aK with aZ:=cr aK.aZ (l+1) (pre p (l+1)) (some f)} f:=⟨l+1,pre p (l+1),by simp[cr]⟩;have alZ:¬IsNode T f:=λh=>xk (M.sb h)
 refine⟨pM,M.ent,λbz cv a h=>HY (M.ca _ _ _ h),?_,?_,?_,?_,?_,?_⟩
 ·intro bz cv h;change cr aK.aZ (l+1) (pre p (l+1)) (some f) bz cv≠none at h;unfold cr at h;split at h
  ·rename_i aA;rw[aA.1,aA.2];exact .inr rfl
  ·exact M.only _ _ h
 ·intro a h1 aa;have av:¬IsNode aK a:=λh=>aa (fwd h)
  have aO:a≠f:=λe=>aa (e▸fin)
  have bb:a≠g:=λe=>av ⟨_,_,e▸aE⟩
  rw[ed _ _ bb,ed _ _ aO,ed _ _ aO];exact M.other a h1 av
 ·intro a h1 aa;rcases back h1 with rfl|h1
  ·rw[<-(M.other a aa xk).2];exact aB
  ·exact M.new a h1 aa
 ·intro a h;rcases back h with rfl|h
  ·exact e3 _ _ _
  ·rw[ed _ _ (λe:a=f=>xk (e▸h))];exact M.node a h
 ·have h1:=BV aK (l:=l+1) (q:=pre p (l+1)) (by omega) (DR aD (by omega)) (some f) aK.ent;rw[ay]at h1;have aa:=M.count;simp at h1;omega
 ·intro h;have h1:=M.me h;have aa:=tp (f:=λa=>cf a==0) (g:=λa=>aq cf f 1 a==0) (p:=f) j4 (λi _ U=>by simp[ed _ _ U]);simp[aB]at aa;omega
theorem oz.done(M:oz n mem held free T p b7 cf b4 aK)(mz:p_ T)(aD:p<4096){f m:Nat}{s:ba}(aB:aK.aZ 3 (p/8)=some f)(au:s.may=true)(hm:wP (b7 f) m (p%8) s) :
  wM n mem held free T p s (aq b7 f m) cf b4 {aK with ent:=aq aK.ent p s}:=by
 have pM:=M.ok.put (m2:=eZ (aq b7 f m)) aB (.inr au) (λg i _ U=>by
  unfold eZ cr;by_cases e:g=f
  ·subst e;rw[e3,hm i U];by_cases eo:i=p%8<;>simp[eo,eZ]
  ·rw[ed _ _ e,if_neg (by simp[e])])
 have pS:∀l,l<=3->aK.aZ l (pre p l)≠none:=by
  have:∀k l,l+k=3->aK.aZ l (pre p l)≠none:=by
   intro k;induction k with
   |zero=>intro l ar;obtain rfl:l=3:=by omega
          rw[qU,aB];simp
   |succ k bI=>intro l ar;have:=M.ok.par l _ (bI (l+1) (by omega));rwa[nm p (by omega)]at this
  exact λl ar=>this (3-l) l (by omega)
 refine⟨pM,⟨?_,?_⟩,by rw[M.ent],?_,M.new,M.node,λg h1 aa=>absurd (M.sb h1) aa,M.count,M.me⟩
 ·intro q ay;by_cases e:q=p/8
  ·exact⟨p%8,by omega,by
    show aq aK.ent p s _≠_
    rw[show 8*q+p%8=p by omega,e3];exact ae9 au⟩
  ·rcases M.only 3 q ay with h|h
   ·obtain⟨i,U,he⟩:=mz.1 q h;refine⟨i,U,?_⟩;show aq aK.ent p s _≠_;rw[ed _ _ (by omega),M.ent];exact he
   ·rw[qU]at h;exact absurd h e
 ·intro l q ar ay;by_cases e:q=pre p (l+1)
  ·refine⟨pre p (l+2) %8,by omega,?_⟩;have h1:=nm p (l:=l+1) (by omega);rw[e,<-h1,show 8*(pre p (l+1+1) /8) +pre p (l+2) %8=pre p (l+2)by show 8*(pre p (l+2) /8) +_=_;omega];exact pS (l+2) (by omega)
  ·rcases M.only (l+1) q ay with h|h
   ·obtain⟨i,U,he⟩:=mz.2 l q ar h;refine⟨i,U,?_⟩;cases k:T.aZ (l+2) (8*q+i)with
    |none=>exact absurd k he
    |some a=>show aK.aZ _ _≠none;rw[M.ca _ _ _ k];simp
   ·exact absurd h e
 ·intro g h1 aa;have av:g≠f:=λe=>aa ⟨3,p/8,e▸aB⟩
  rw[ed _ _ av];exact M.other g h1 aa
structure nG(n:Nat)(mem held:Nat->Nat)(free:Nat)(T:c0)(p k:Nat)(b7 cf:Nat->Nat)(b4:Nat)(aK:c0) :Prop where
 ok:gx (eZ b7) n aK
 ent:aK.ent=aq T.ent p .zero
 sub:∀l q f,aK.aZ l q=some f->T.aZ l q=some f
 E1:∀l,k<l->aK.aZ l (pre p l)=none
 only:∀l q,T.aZ l q≠none->aK.aZ l q=none->k<l/\q=pre p l
 other:∀f,¬IsNode T f->b7 f=mem f/\cf f=held f
 node:∀f,IsNode aK f->cf f=1
 gone:∀f,IsNode T f->¬IsNode aK f->cf f=0
 count:b4+aK.dX=free+T.dX
 me:free=b' (λf=>held f==0) n->b4=b' (λf=>cf f==0) n
theorem nG.start(h:gx (eZ mem) n T)(al:∀f,IsNode T f->held f=1){f m:Nat}(aB:T.aZ 3 (p/8)=some f)(hm:wP (mem f) m (p%8) .zero) :nG n mem held free T p 3 (aq mem f m) held free {T with ent:=aq T.ent p .zero}:=by
 have pM:=h.put (m2:=eZ (aq mem f m)) aB (.inl rfl) (λg i _ U=>by
  unfold eZ cr;by_cases e:g=f
  ·subst e;rw[e3,hm i U];by_cases eo:i=p%8<;>simp[eo,eZ]
  ·rw[ed _ _ e,if_neg (by simp[e])])
 refine⟨pM,rfl,λ_ _ _ h=>h,λl ar=> ?_,λl q h1 aa=>absurd aa h1,λg aE=>⟨ed _ _ (λe=>aE ⟨3,_,e▸aB⟩),rfl⟩,al,λg h1 aa=>absurd h1 aa,rfl,id⟩;cases k:T.aZ l (pre p l)with
 |none=>rfl
 |some a=>have:=(h.lvl _ _ _ k).1;omega
theorem nG.yk(G:nG n mem held free T p k b7 cf b4 aK){f:Nat}(h:IsNode aK f) :IsNode T f:=let⟨l,q,ay⟩:=h;⟨l,q,G.sub _ _ _ ay⟩
theorem nG.step(G:nG n mem held free T p (l+1) b7 cf b4 aK)(aD:p<4096){f g m:Nat}(ar:l<3)(aE:aK.aZ l (pre p l)=some g)(ay:aK.aZ (l+1) (pre p (l+1))=some f)(aI:∀i,i<8->pz (b7 f) i=.zero)
  (hm:wP (b7 g) m (pre p (l+1) %8) .zero) (Ns:b4+1=Gw) :
  nG n mem held free T p l (aq b7 g m) (aq cf f 0) Gw {aK with aZ:=cr aK.aZ (l+1) (pre p (l+1)) none}:=by
 have xl:f≠g:=λe=>by subst e;have:=G.ok.inj _ _ _ _ _ ay aE;omega
 have pM:=G.ok.shrink (m2:=eZ (aq b7 g m)) ar (by rw[nm p (by omega)];exact aE) ay aI (λa i aU _ U=>by
  unfold eZ cr;by_cases e:a=g
  ·subst e;rw[e3,hm i U];by_cases eo:i=pre p (l+1) %8<;>simp[eo,eZ]
  ·rw[ed _ _ e,if_neg (by simp[e])])
 have back:∀{bz cv a},cr aK.aZ (l+1) (pre p (l+1)) none bz cv=some a->¬(bz=l+1/\cv=pre p (l+1))/\aK.aZ bz cv=some a:=λaU=>by unfold cr at aU;split at aU<;>simp_all
 have vI:∀{a},IsNode {aK with aZ:=cr aK.aZ (l+1) (pre p (l+1)) none} a->IsNode aK a/\a≠f:=λ{a} ⟨bz,cv,h⟩=>by obtain⟨h1,aa⟩:=back h;exact⟨⟨_,_,aa⟩,λe=>by subst e;exact h1 (G.ok.inj _ _ _ _ _ aa ay)⟩
 have fwd:∀{a},IsNode aK a->a≠f->IsNode {aK with aZ:=cr aK.aZ (l+1) (pre p (l+1)) none} a:=λ{a} ⟨bz,cv,h⟩ cE=>by
  refine⟨bz,cv,?_⟩;show cr aK.aZ (l+1) (pre p (l+1)) none bz cv=some a;unfold cr;split
  ·rename_i aA;rw[aA.1,aA.2,ay]at h;exact absurd (Option.some.inj h).symm cE
  ·exact h
 have qB:=(G.ok.lvl _ _ _ ay).2.2;refine⟨pM,G.ent,λbz cv a h=>G.sub _ _ _ (back h).2,?_,?_,?_,?_,?_,?_,?_⟩
 ·intro bz jl;show cr aK.aZ (l+1) (pre p (l+1)) none bz (pre p bz)=none;by_cases e:bz=l+1
  ·subst e;simp[cr]
  ·have:=G.E1 bz (by omega);simp[cr,e,this]
 ·intro bz cv h1 aa;change cr aK.aZ (l+1) (pre p (l+1)) none bz cv=none at aa;unfold cr at aa;split at aa
  ·rename_i aA;rw[aA.1,aA.2];exact⟨by omega,rfl⟩
  ·have:=G.only _ _ h1 aa;exact⟨by omega,this.2⟩
 ·intro a aU;have h1:a≠g:=λe=>aU (G.yk ⟨_,_,e▸aE⟩)
  have aa:a≠f:=λe=>aU (G.yk ⟨_,_,e▸ay⟩)
  rw[ed _ _ h1,ed _ _ aa];exact G.other a aU
 ·intro a aU;obtain⟨h1,aa⟩:=vI aU;rw[ed _ _ aa];exact G.node a h1
 ·intro a h1 aa;by_cases e:a=f
  ·subst e;exact e3 _ _ _
  ·rw[ed _ _ e];exact G.gone a h1 λh=>aa (fwd h e)
 ·have h1:=BV aK (l:=l+1) (q:=pre p (l+1)) (by omega) (DR aD (by omega)) none aK.ent;rw[ay]at h1;have aa:=G.count;simp at h1;omega
 ·intro h;have h1:=G.me h;have aa:=tp (f:=λa=>cf a==0) (g:=λa=>aq cf f 0 a==0) (p:=f) qB (λi _ U=>by simp[ed _ _ U]);have av:=G.node f ⟨_,_,ay⟩;simp[av]at aa;omega
theorem nG.done(G:nG n mem held free T p k b7 cf b4 aK)(mz:p_ T)(aD:p<4096)(aj:k=0\/∃f,k<=3/\aK.aZ k (pre p k)=some f/\∃i,i<8/\pz (b7 f) i≠.zero) :
  wM n mem held free T p .zero b7 cf b4 aK:=by
 have sb:∀l q,T.aZ l q≠none->¬(k<l/\q=pre p l)->aK.aZ l q≠none:=λl q h1 aa av=>aa (G.only l q h1 av)
 have yk:∀l q,aK.aZ l q≠none->T.aZ l q≠none:=λl q h=>by
  cases e:aK.aZ l q with
  |none=>exact absurd e h
  |some a=>rw[G.sub _ _ _ e];simp
 have last:∀l,1<=l->l=k->aK.aZ l (pre p l)≠none->(l=3->∃i,i<8/\aK.ent (8*pre p l+i)≠.zero)/\(l<3->∃i,i<8/\aK.aZ (l+1) (8*pre p l+i)≠none):=by
  rintro l h1 rfl al;rcases aj with rfl|⟨f,CG,aB,i,U,he⟩
  ·omega
  ·refine⟨λav=>⟨i,U,?_⟩,λav=>⟨i,U,?_⟩⟩
   ·have:=G.ok.leaf (pre p l) f i (av▸aB) U;rw[<-this];exact he
   ·have:=G.ok.kt l (pre p l) f i av aB U;intro e;rw[e]at this;exact he this
 refine⟨G.ok,⟨?_,?_⟩,G.ent,λf h _=>G.other f h,λf h bg=>absurd (G.yk h) bg,G.node,G.gone,G.count,G.me⟩
 ·intro q ay;by_cases e:q=pre p 3
  ·subst e;by_cases bo:k=3
   ·exact(last 3 (by omega) bo.symm ay).1 rfl
   ·rcases aj with rfl|⟨_,CG,_⟩
    ·exact absurd (G.E1 3 (by omega)) ay
    ·exact absurd (G.E1 3 (by omega)) ay
  ·obtain⟨i,U,he⟩:=mz.1 q (yk _ _ ay);refine⟨i,U,?_⟩;rw[qU]at e;rw[G.ent,ed _ _ (by omega)];exact he
 ·intro l q ar ay;by_cases e:q=pre p (l+1)
  ·subst e;by_cases bo:l+1=k
   ·exact(last (l+1) (by omega) bo ay).2 (by omega)
   ·by_cases vi:k<l+1
    ·exact absurd (G.E1 (l+1) vi) ay
    ·
     rcases aj with rfl|⟨f,CG,aB,_⟩
     ·omega
     ·have pS:∀d l,l+d=k->aK.aZ l (pre p l)≠none:=by
       intro d;induction d with
       |zero=>intro l ar;obtain rfl:l=k:=by omega
              rw[aB];simp
       |succ d bI=>intro l ar;have:=G.ok.par l _ (bI (l+1) (by omega));rwa[nm p (by omega)]at this
      refine⟨pre p (l+2) %8,by omega,?_⟩;have h1:=nm p (l:=l+1) (by omega);rw[<-h1,show 8*(pre p (l+1+1) /8) +pre p (l+2) %8=pre p (l+2)by show 8*(pre p (l+2) /8) +_=_;omega];exact pS (k-(l+2)) (l+2) (by omega)
  ·obtain⟨i,U,he⟩:=mz.2 l q ar (yk _ _ ay);refine⟨i,U,sb _ _ he λ⟨h1,aa⟩=>e ?_⟩;have:=nm p (l:=l+1) (by omega);rw[<-this];show q=pre p (l+2) /8;rw[<-aa];omega
end
theorem RN(p:Int) :spread [] p=none:=rfl
theorem RJ(l m:List aH)(p:Int) :spread (l++m) p=(spread l p).or (spread m p):=by unfold spread;rw[x'];cases bO l p<;>rfl
theorem JQ(r:aH)(p:Int) :spread [r] p=if r.has p then some (r.ew p)else none:=by unfold spread bO;cases h:r.has p<;>simp[h]
theorem Ee(r:aH)(l:List aH)(p:Int) :spread (r::l) p=if r.has p then some (r.ew p)else spread l p:=by rw[show r::l=[r]++l from rfl,RJ,JQ];cases r.has p<;>simp
theorem Q'(o:List aH){r:aH}(h:r.U<=r.lo) :c6 o r=o:=by unfold c6;rw[if_pos h]
def full(r:aH) :Bool:=decide (r.lo<r.U)
theorem Cj:∀(l o:List aH),l.foldl c6 o=(l.filter full).foldl c6 o
 |[],o=>rfl
 |r::l,o=>by
  rw[List.foldl_cons,Cj l];by_cases h:r.lo<r.U
  ·rw[List.filter_cons_of_pos (by simp[full,h])];rfl
  ·rw[List.filter_cons_of_neg (by simp[full,h]),Q' o (by omega)]
theorem dp.flat{g:aH->List aH} :∀{l:List aH} {a b:Int},dp a l b->(∀r,r∈l->dp r.lo (g r) r.U)->dp a (l.flatMap g) b
 |[],_,_,h,_=>h
 |r::l,a,b,⟨h1,aa,av⟩,aE=>by rw[List.flatMap_cons];exact((aE r (by simp)).down h1).append (dp.flat av λx ab=>aE x (by simp[ab]))
theorem RL{g:aH->List aH}(p:Int) :∀{l:List aH} {a b:Int},dp a l b->(∀r,r∈l->dp r.lo (g r) r.U)->spread (l.flatMap g) p=(bO l p).bind λr=>spread (g r) p
 |[],_,_,_,_=>rfl
 |r::l,a,b,⟨h1,aa,av⟩,aE=>by
  rw[List.flatMap_cons,RJ,RL p av (λx ab=>aE x (by simp[ab]))];by_cases h:r.has p=true
  ·have aw:bO (r::l) p=some r:=by simp[bO,h]
   have aL:bO l p=none:=ya av (.inl (by simp[aH.has]at h;omega));rw[aw,aL];simp
  ·have bg:=h;simp at h;have aw:bO (r::l) p=bO l p:=by simp[bO,h]
   have aL:spread (g r) p=none:=by unfold spread;rw[ya (aE r (by simp)) (by simp[aH.has]at h;omega)];rfl
   rw[aw,aL];simp
theorem uk{l:List aH}{p:Int}{r:aH}(h:bO l p=some r) :spread l p=some (r.ew p):=by unfold spread;rw[h];rfl
theorem p1{l:List aH}{p:Int} :spread l p=none↔bO l p=none:=by unfold spread;cases bO l p<;>simp
theorem lB{r:aH}(h:r.may=true) :0<=r.lo/\r.lo<r.U/\r.U<=4096/\0<=r.perm/\r.perm<=7/\(if r.kind=1 then 0<=r.file/\0<=r.bq/\r.bq<=1073741824-(r.U-r.lo)else 1<r.kind/\r.kind<=4/\r.file= -1/\r.bq=0):=by unfold aH.may at h;simpa only[decide_eq_true_eq]using h
theorem Ip{r:aH}(h:0<=r.lo/\r.lo<r.U/\r.U<=4096/\0<=r.perm/\r.perm<=7/\(if r.kind=1 then 0<=r.file/\0<=r.bq/\r.bq<=1073741824-(r.U-r.lo)else 1<r.kind/\r.kind<=4/\r.file= -1/\r.bq=0)) :r.may=true:=by unfold aH.may;simpa only[decide_eq_true_eq]using h
theorem ae'{r:aH}(h:r.may=true) :jW r:=λaj=>by have:=(lB h).2.2.2.2.2;rw[if_neg aj]at this;exact this.2.2.2
theorem ae_{o:List aH}{r:aH}(aY:∀x,x∈o->x.may=true)(ah:r.lo<r.U->r.may=true) :∀x,x∈c6 o r->x.may=true:=by
 rcases yc o r with⟨h,e⟩ |⟨h,bL,x,rfl,h1,e⟩ |⟨h,_,e⟩
 ·rw[e];exact aY
 ·rw[e];intro y an;rcases List.mem_append.1 an with an|an
  ·exact aY y (by simp[an])
  ·rw[List.mem_singleton]at an;subst an;have ab:=lB (aY x (by simp));have iz:=lB (ah h);simp[aH.one]at h1;obtain⟨bU,cc,b8,c5,cS⟩:=h1;refine Ip ?_;dsimp only;rw[b8]at ab cS|-;by_cases aj:r.kind=1
   ·simp only[aj,if_true,true_implies,not_true,false_or]at ab iz cS|-;omega
   ·simp only[aj,if_false]at ab iz|-;omega
 ·rw[e];intro y an;rcases List.mem_append.1 an with an|an
  ·exact aY y an
  ·rw[List.mem_singleton]at an;subst an;exact ah h
theorem Io:∀{l o:List aH},(∀x,x∈o->x.may=true)->(∀x,x∈l->x.lo<x.U->x.may=true)->∀x,x∈l.foldl c6 o->x.may=true
 |[],o,aY,_=>aY
 |r::l,o,aY,ar=>by rw[List.foldl_cons];exact Io (ae_ aY (ar r (by simp))) (λx ab=>ar x (by simp[ab]))
theorem Q7{l:List aH}(h:dp 0 (l.filter full) 4096)(hm:∀x,x∈l->x.lo<x.U->x.may=true) :
  je (l.foldl c6 [])/\(∀p,spread (l.foldl c6 []) p=spread (l.filter full) p)/\∀cy:Int->Option aH,(∀p,0<=p->p<4096->cy p=spread (l.filter full) p)->ka cy [] 0 4096=l.foldl c6 []:=by
 have aI:∀x,x∈l.filter full->jW x:=λx ab=>by have:=List.mem_filter.1 ab;exact ae' (hm x this.1 (by simpa [full]using this.2))
 refine⟨⟨?_,Io (by simp) hm⟩,λp=> ?_,λcy aD=> ?_⟩
 ·rw[Cj];exact dp.fold (o:=[]) (b:=0) (by simp[dp]) h
 ·rw[Cj,RM (a:=0) (b:=0) (c:=4096) (by simp[dp]) h aI (by simp)];simp[RN]
 ·rw[Cj];exact Q6 (lo:=0) (n:=4096) h aI aD
def fO(r:aH) :List aH->List aH
 |[]=>[r]
 |x::l=>if r.U<=x.lo then r::x::l else x::fO r l
def meets(r x:aH) :Bool:=decide (x.lo<r.U/\r.lo<x.U)
theorem HH{r y:aH} :∀{l:List aH},y∈fO r l↔y=r\/y∈l
 |[]=>by simp[fO]
 |x::l=>by
  unfold fO;split
  ·simp
  ·simp only[List.mem_cons,HH (l:=l)];constructor<;>(intro h;rcases h with h|h|h)<;>simp[h]
theorem Ou{r:aH}(ah:r.lo<=r.U) :∀{l:List aH} {a b:Int},dp a l b->a<=r.lo->r.U<=b->(∀x,x∈l->meets r x=false/\x.lo<x.U)->r.lo<r.U->dp a (fO r l) b
 |[],a,b,h,h1,aa,_,_=>⟨h1,ah,aa⟩
 |x::l,a,b,⟨a',bR,bY⟩,h1,aa,hm,aB=>by
  have:=hm x (by simp);simp[meets]at this;unfold fO;split
  ·rename_i ab;exact⟨h1,ah,ab,bR,bY⟩
  ·exact⟨a',bR,Ou ah bY (by omega) aa (λy an=>hm y (by simp[an])) aB⟩
theorem Ot{r:aH}(p:Int) :∀{l:List aH} {a b:Int},dp a l b->(∀x,x∈l->meets r x=false)->spread (fO r l) p=if r.has p then some (r.ew p)else spread l p
 |[],_,_,_,_=>by unfold fO;exact JQ r p
 |x::l,a,b,⟨h1,aa,av⟩,hm=>by
  have:=hm x (by simp);unfold fO;split
  ·rw[Ee]
  ·rw[Ee,Ot p av (λy an=>hm y (by simp[an])),Ee];by_cases ab:x.has p=true
   ·have:r.has p=false:=by simp[meets]at this;simp[aH.has]at ab|-;omega
    simp[ab,this]
   ·simp[ab]
theorem Yl{l:List aH}(h:∀x,x∈l->x.lo<x.U) :l.filter full=l:=List.filter_eq_self.2 λx ab=>by simp[full,h x ab]
theorem je.full{L:List aH}(h:je L) :∀x,x∈L->x.lo<x.U:=λx ab=>(lB (h.may x ab)).2.1
theorem Lm{L:List aH}{r:aH}(h:je L)(ah:r.may=true)(hm:∀x,x∈L->meets r x=false) :
  je ((fO r L).foldl c6 [])/\(∀p,spread ((fO r L).foldl c6 []) p=if r.has p then some (r.ew p)else spread L p)/\
  ∀cy:Int->Option aH,(∀p,0<=p->p<4096->cy p=if r.has p then some (r.ew p)else spread L p)->ka cy [] 0 4096=(fO r L).foldl c6 []:=by
 have k:=lB ah
 have aB:∀x,x∈fO r L->x.lo<x.U:=λx ab=>by
  rcases HH.1 ab with rfl|ab
  ·exact k.2.1
  ·exact h.full x ab
 have kS:=Yl aB;have au:dp 0 (fO r L) 4096:=Ou (by omega) h.sM k.1 k.2.2.1 (λx ab=>⟨hm x ab,h.full x ab⟩) k.2.1
 obtain⟨aQ,a2,a3⟩:=Q7 (l:=fO r L) (by rw[kS];exact au) (λx ab _=>by
  rcases HH.1 ab with rfl|ab
  ·exact ah
  ·exact h.may x ab)
 rw[kS]at a2 a3;have e:∀p,spread (fO r L) p=if r.has p then some (r.ew p)else spread L p:=λp=>Ot p h.sM hm
 exact⟨aQ,λp=>by rw[a2,e],λcy aD=>a3 cy λp h1 aa=>by rw[aD p h1 aa,e]⟩
theorem afa{L:List aH}{r:aH}(h:je L)(ah:r.lo<r.U) :(∃x,x∈L/\meets r x=true)↔∃p,r.lo<=p/\p<r.U/\spread L p≠none:=by
 constructor
 ·rintro⟨x,ab,hm⟩;have:=h.full x ab;simp[meets]at hm;have aD:x.has (max x.lo r.lo)=true:=by simp[aH.has];omega
  refine⟨max x.lo r.lo,by omega,by omega,?_⟩;rw[Ne,p1];unfold bO;rw[List.find?_eq_none];exact λaA=>aA x ab aD
 ·rintro⟨p,h1,aa,av⟩;rw[Ne,p1]at av;cases e:bO L p with
  |none=>exact absurd e av
  |some x=>
   have:=mL e;exact⟨x,this.1,by simp[meets];omega⟩
theorem agR{r:aH}{a b p:Int} :(r.part a b).ew p=r.ew p:=by simp only[aH.part,aH.ew];by_cases h:r.kind=1<;>simp[h];omega
theorem Qx{r:aH}{a b:Int}(h:r.may=true)(h1:r.lo<=a)(aa:b<=r.U)(av:a<b) :(r.part a b).may=true:=by
 have k:=lB h;refine Ip ?_;simp only[aH.part];by_cases aj:r.kind=1
 ·simp only[aj,if_true]at k|-;omega
 ·simp only[aj,if_false]at k|-;omega
def fT(a b:Int)(r:aH) :List aH:=if b<=a\/r.U<=a\/b<=r.lo then[r]else[r.part r.lo a,r.part b r.U]
theorem Gl{α β:Type}(P:β->Bool)(g:α->List β) :∀l:List α,(l.flatMap g).filter P=l.flatMap λx=>(g x).filter P
 |[]=>rfl
 |x::l=>by rw[List.flatMap_cons,List.flatMap_cons,List.filter_append,Gl P g l]
theorem Xf{a b:Int}{r:aH}(ah:r.lo<r.U) :dp r.lo ((fT a b r).filter full) r.U:=by
 unfold fT;split
 ·rw[List.filter_cons_of_pos (by simp[full,ah])];exact⟨by omega,by omega,by simp[dp]⟩
 ·rename_i h;by_cases h1:r.lo<a<;>by_cases aa:b<r.U<;>simp[full,aH.part,h1,aa,dp]<;>omega
theorem Xe{a b:Int}{r:aH}{p:Int}(ah:r.lo<r.U)(aD:r.has p=true) :spread ((fT a b r).filter full) p=if a<=p/\p<b then none else some (r.ew p):=by
 have m8:=aD;simp[aH.has]at m8;unfold fT;split
 ·rw[List.filter_cons_of_pos (by simp[full,ah]),List.filter_nil,JQ,if_pos aD,if_neg (by omega)]
 ·rename_i h;have ab:∀x y:Int,(r.part x y).has p=decide (x<=p/\p<y):=λx y=>rfl
  by_cases h1:r.lo<a<;>by_cases aa:b<r.U<;>by_cases av:a<=p/\p<b
  all_goals
   simp only[show full (r.part r.lo a)=decide (r.lo<a)from rfl,show full (r.part b r.U)=decide (b<r.U)from rfl,List.filter_cons,h1,aa,decide_true,decide_false,if_true,if_false,Bool.false_eq_true,List.filter_nil,Ee,RN,ab,agR];try simp only[decide_eq_true_eq]
  all_goals ((repeat' split)<;>first|rfl|(exfalso;omega))
theorem Xg{L:List aH}(h:je L)(a b:Int) :
  je ((L.flatMap (fT a b)).foldl c6 [])/\(∀p,spread ((L.flatMap (fT a b)).foldl c6 []) p=if a<=p/\p<b then none else spread L p)/\
  ∀cy:Int->Option aH,(∀p,0<=p->p<4096->cy p=if a<=p/\p<b then none else spread L p)->ka cy [] 0 4096=(L.flatMap (fT a b)).foldl c6 []:=by
 have aE:∀r,r∈L->dp r.lo ((fT a b r).filter full) r.U:=λr ah=>Xf (h.full r ah)
 obtain⟨aQ,a2,a3⟩:=Q7 (l:=L.flatMap (fT a b)) (by rw[Gl];exact h.sM.flat aE) (λx ab aB=>by
  obtain⟨r,ah,ab⟩:=List.mem_flatMap.1 ab;unfold fT at ab;split at ab
  ·rw[List.mem_singleton]at ab;subst ab;exact h.may x ah
  ·rename_i aA;simp only[List.mem_cons,List.not_mem_nil,or_false]at ab
   rcases ab with rfl|rfl<;>refine Qx (h.may r ah) ?_ ?_ aB<;>omega)
 have e:∀p,spread ((L.flatMap (fT a b)).filter full) p=if a<=p/\p<b then none else spread L p:=λp=>by
  rw[Gl,RL p h.sM aE];cases aB:bO L p with
  |none=>rw[(p1 (l:=L) (p:=p)).2 aB];simp
  |some r=>
   have k:=mL aB;rw[uk aB];exact Xe (h.full r k.1) (by simp[aH.has];omega)
 exact⟨aQ,λp=>by rw[a2,e],λcy aD=>a3 cy λp h1 aa=>by rw[aD p h1 aa,e]⟩
theorem L6{f:Nat->Bool}{n i:Nat}(U:i<n)(h:f i=true)(hu:∀j,j<n->f j=true->j=i) :b' f n=1:=by
 have h1:=tp (f:=λ_=>false) (g:=f) (p:=i) U (λj az cE=>by
  cases e:f j with
  |false=>rfl
  |true=>exact absurd (hu j az e) cE)
 have aa:b' (λ_:Nat=>false) n=0:=m1.2 λ_ _=>rfl
 rw[h,aa]at h1;simpa using h1
open Classical in
theorem afz{dec:Nat->Nat->ba}{n:Nat}{T:c0}(h:gx dec n T) :b' (λf=>decide (IsNode T f)) n=T.dX:=by
 have aw:∀f,f<n->(decide (IsNode T f)).toNat=de (λl=>b' (λq=>decide (T.aZ l q=some f)) (8^l)) 4:=λf aB=>by
  by_cases al:IsNode T f
  ·obtain⟨l,q,ay⟩:=al;have ar:=h.lvl _ _ _ ay
   have z:∀k,k≠l->b' (λq=>decide (T.aZ k q=some f)) (8^k)=0:=λk aj=>m1.2 λr _=>by simp only[decide_eq_false_iff_not];exact λaA=>aj (h.inj _ _ _ _ _ aA ay).1
   have o:b' (λq=>decide (T.aZ l q=some f)) (8^l)=1:=L6 ar.2.1 (by simp[ay]) λr _ ah=>by simp only[decide_eq_true_eq]at ah;exact(h.inj _ _ _ _ _ ah ay).2
   have s:=JV (f:=λ_=>0) (g:=λk=>b' (λq=>decide (T.aZ k q=some f)) (8^k)) (p:=l) ar.1 (λk _ aj=>z k aj);rw[yl (f:=λ_=>0) (λ_ _=>rfl),o]at s;rw[show decide (IsNode T f)=true by simp;exact⟨l,q,ay⟩];simp only[Bool.toNat_true];omega
  ·rw[show decide (IsNode T f)=false by simpa using al];refine(yl λl _=>m1.2 λr _=> ?_).symm;simp only[decide_eq_false_iff_not];exact λaA=>al ⟨l,r,aA⟩
 have aL:∀l q,b' (λf=>decide (T.aZ l q=some f)) n=(T.aZ l q).isSome.toNat:=λl q=>by
  cases ay:T.aZ l q with
  |none=>exact m1.2 λf _=>by simp
  |some f=>exact L6 (h.lvl _ _ _ ay).2.2 (by simp) λg _ aE=>by simp at aE;exact aE.symm
 rw[<-qY,qZ aw,Ek];unfold c0.dX;refine qZ λl _=> ?_
 rw[qZ (λf _=>(qY (λq=>decide (T.aZ l q=some f)) (8^l)).symm),Ek];rw[<-qY];refine qZ λq _=> ?_
 rw[qY,aL]
def j9(l:List bD) :Nat:=(l.map λx=>x.T.dX).sum
open Classical in
theorem IE{dec:Nat->Nat->ba}{n:Nat} :∀{l:List bD},(∀x,x∈l->gx dec n x.T)->l.Pairwise nE->b' (λf=>decide (∃x,x∈l/\IsNode x.T f)) n=j9 l
 |[],_,_=>m1.2 λf _=>by simp
 |x::l,h,aD=>by
  rw[List.pairwise_cons]at aD;have h1:=afz (h x (by simp));have aa:=IE (l:=l) (λy an=>h y (by simp[an])) aD.2
  have av:=BY (λf=>decide (IsNode x.T f)) (λf=>decide (∃y,y∈l/\IsNode y.T f)) (λf aB=>by
   simp only[decide_eq_true_eq]at aB;simp only[decide_eq_false_iff_not];rintro⟨y,an,al⟩
   exact aD.1 y an f aB al) n
  have aO:b' (λf=>decide (∃y,y∈x::l/\IsNode y.T f)) n=b' (λf=>decide (IsNode x.T f) ||decide (∃y,y∈l/\IsNode y.T f)) n:=wW λf _=>by rw[Bool.eq_iff_iff];simp
  rw[aO,<-av,h1,aa];simp[j9]
section
variable{c:cN}{σ:b0}{e:Nat->Int}
open Classical in
theorem Inv.own(h:Inv c σ (λ_=>0) e){f:Nat}(aB:f<c.n) :σ.held f=refs σ f+(decide (∃x,x∈σ.ax/\IsNode x.T f)).toNat:=by
 by_cases al:∃x,x∈σ.ax/\IsNode x.T f
 ·obtain⟨x,ab,qG⟩:=al;have:=h.node x f ab qG;rw[show decide (∃x,x∈σ.ax/\IsNode x.T f)=true by simp;exact⟨x,ab,qG⟩];simp;omega
 ·have:=h.data f aB (λx ab aA=>al ⟨x,ab,aA⟩);rw[show decide (∃x,x∈σ.ax/\IsNode x.T f)=false by simpa using al];simp;omega
theorem Inv.sum(h:Inv c σ (λ_=>0) e) :de (λf=>σ.held f-refs σ f) c.n=j9 σ.ax:=by
 classical
 rw[<-IE h.jQ h.qe,<-qY];refine qZ λf aB=> ?_
 have:=h.own aB;omega
theorem Inv.room(h:Inv c σ (λ_=>0) e) :σ.free+j9 σ.ax+b' (λf=>decide (refs σ f≠0)) c.n=c.n:=by
 classical
 rw[<-IE h.jQ h.qe,h.free]
 have h1:=BY (λf=>decide (∃x,x∈σ.ax/\IsNode x.T f)) (λf=>decide (refs σ f≠0)) (λf aB=>by
  simp only[decide_eq_true_eq]at aB;obtain⟨x,ab,al⟩:=aB
  simp[(h.node x f ab al).2.1]) c.n
 have aa:=FT (λf=>σ.held f==0) c.n
 have av:b' (λf=> !(σ.held f==0)) c.n=b' (λf=>decide (∃x,x∈σ.ax/\IsNode x.T f) ||decide (refs σ f≠0)) c.n:=wW λf aB=>by
  have:=h.own aB;by_cases al:∃x,x∈σ.ax/\IsNode x.T f
  ·simp only[al,decide_true,Bool.true_or,Bool.toNat_true]at this|-;simp;omega
  ·simp only[al,decide_false,Bool.false_or,Bool.toNat_false]at this|-;by_cases h0:refs σ f=0<;>simp[this,h0]
 omega
end
end Go.Proofs.YtkdjcmpgnkecfaaGreatDoor
namespace Go.a6
theorem UY{n:Nat}{st:Bool}{z:List J} :∀(vs:List J) (off:Nat) (t:bj J),off+vs.length<=n->(vs.all dT)=true->
  ∃ot,(bp.cells n st z t).writes off vs=some (.cells n st z ot)/\∀i,ot.get i=if off<=i/\i<off+vs.length then vs[i-off]? else t.get i
 |[],off,t,_,_=>⟨t,rfl,λi=>by rw[if_neg (by simp only[List.length_nil];omega)]⟩
 |v::vs,off,t,ar,au=>by
  simp only[List.length_cons]at ar;simp only[List.all_cons,Bool.and_eq_true]at au;obtain⟨ot,h1,aa⟩:=UY (n:=n) (st:=st) (z:=z) vs (off+1) (t.set off v) (by omega) au.2;refine⟨ot,?_,λi=> ?_⟩
  ·simp only[bp.writes,bp.write,c4.2 (show off<n by omega),au.1,Bool.true_and,cond_true];exact h1
  ·rw[aa i,bj.kq,List.length_cons];by_cases h:i=off
   ·subst h;rw[if_neg (by omega),if_pos rfl,if_pos (by omega),Nat.sub_self];rfl
   ·by_cases bg:off+1<=i/\i<off+1+vs.length
    ·rw[if_pos bg,if_pos (by omega),show i-off=(i-(off+1)) +1 by omega];rfl
    ·rw[if_neg bg,if_neg h,if_neg (by omega)]
theorem Obj.writes{h:ag}{id:Nat}{l:List J}(o:Obj h id l)(vs:List J)(off:Nat)(ar:off+vs.length<=l.length)(au:(vs.all dT)=true) :
  ∃bP,jc h id off vs=some (h.put id bP)/\Obj (h.put id bP) id (l.take off++vs++l.drop (off+vs.length)):=by
 obtain⟨z,t,e⟩:=o.live;obtain⟨ot,h1,aa⟩:=UY (n:=l.length) (st:=false) (z:=z) vs off t ar au;refine⟨.cells l.length false z ot,?_,⟨⟨z,ot,?_⟩,λi=> ?_⟩⟩
 ·unfold jc;rw[e,h1]
 ·rw[kR];congr 1;simp;omega
 ·have h0:=o.rd i;unfold bE at h0|-;rw[e]at h0;rw[kR];simp only[bp.cell]at h0|-;rw[aa i];have pN:(l.take off).length=off:=by simp;omega
  by_cases U:off<=i/\i<off+vs.length
  ·rw[if_pos U,c4.2 (show i<l.length by omega),List.getElem?_append_left (by simp;omega),List.getElem?_append_right (by omega),pN,List.getElem?_eq_getElem (by omega)];rfl
  ·rw[if_neg U,h0];by_cases av:i<off
   ·rw[List.getElem?_append_left (by simp;omega),List.getElem?_append_left (by omega),List.getElem?_take,if_pos av]
   ·rw[List.getElem?_append_right (by simp;omega),List.getElem?_drop];congr 1;simp;omega
theorem QS{o:bp} :∀(k off:Nat) (l:List J),l.length=k->(∀i,i<k->o.cell (off+i)=l[i]?)->o.read off k=some l
 |0,off,l,ar,_=>by obtain rfl:=List.eq_nil_of_length_eq_zero ar;rfl
 |k+1,off,l,ar,aA=>by
  obtain⟨v,bz,rfl⟩ :∃v bz,l=v::bz:=by cases l with|nil=>simp at ar|cons v bz=>exact⟨v,bz,rfl⟩
  have h0:=aA 0 (by omega);have h1:=QS k (off+1) bz (by simpa using ar) (λi U=>by have:=aA (i+1) (by omega);rw[show off+(i+1)=off+1+i by omega]at this;simpa using this);simp only[bp.read];rw[show o.cell off=some v by simpa using h0,h1]
theorem Obj.cells{h:ag}{id:Nat}{l:List J}(o:Obj h id l)(off k:Nat)(aj:off+k<=l.length) :jM h id off k=some ((l.drop off).take k):=by unfold jM;refine QS k off _ (by simp;omega) (λi U=> ?_);have:=o.rd (off+i);unfold bE at this;rw[this,List.getElem?_take,if_pos U,List.getElem?_drop]
theorem Obj.here{h:ag}{id:Nat}{l:List J}(o:Obj h id l) :jM h id 0 l.length=some l:=by have:=o.cells 0 l.length (by omega);simpa using this
theorem Obj.fill{h:ag}{id:Nat}{l:List J}(o:Obj h id l)(vs:List J)(ar:vs.length=l.length)(au:(vs.all dT)=true) :∃bP,jc h id 0 vs=some (h.put id bP)/\Obj (h.put id bP) id vs:=by obtain⟨bP,h1,aa⟩:=o.writes vs 0 (by omega) au;refine⟨bP,h1,?_⟩;rw[show l.take 0++vs++l.drop (0+vs.length)=vs by rw[ar];simp]at aa;exact aa
section
variable{E:Env}{t:TypeId}{i:bm}
theorem acV(aN:E.ty t=some i)(ao:nd i.desc=true){h:ag}{id off:Nat}{l:List J}(o:Obj h id l)(aj:off+i.size<=l.length) :dJ E h t (.ptr id off)=some (.agg ((l.drop off).take i.size)):=by simp only[dJ,loadT,aN,ao,o.cells off i.size aj]
theorem aiL(aN:E.ty t=some i)(au:i.size=1){h:ag}{id k:Nat}{l:List J}(o:Obj h id l)(aj:k<l.length){v:J}(aA:v.cells=[v])(ae:dT v=true) :
  ∃g,dU E h t (.ptr id k) v=some g/\(Obj g id (l.set k v)/\aF (λj=>j=id) h g/\g.next=h.next):=by
 obtain⟨bP,h1,aa⟩:=o.write aj ae;refine⟨_,?_,aa,aF.put _ rfl,rfl⟩;simp only[dU,storeT,aN,au,aA];exact h1
theorem aiK(aN:E.ty t=some i)(h0:i.size≠0){h:ag}{id k:Nat}{l cs:List J}(o:Obj h id l)(ar:cs.length=i.size)(aj:k+cs.length<=l.length)(ae:cs.all dT=true) :
  ∃g,dU E h t (.ptr id k) (.agg cs)=some g/\(Obj g id (l.take k++cs++l.drop (k+cs.length))/\aF (λj=>j=id) h g/\g.next=h.next):=by
 obtain⟨bP,h1,aa⟩:=o.writes cs k aj ae;refine⟨_,?_,aa,aF.put _ rfl,rfl⟩;simp only[dU,storeT,aN,J.cells,ar];rw[qO,show Nat.beq i.size 0=false by rw[beq_false];exact h0];exact h1
theorem Fk(aN:E.ty t=some i)(ao:hF i.desc=false) :hN E t=some (λid=>J.ptr id 0,.cells i.zero.length false [] (bj.ofList i.zero)):=by simp only[hN,aN,qN,ao]
theorem Wq(aN:E.ty t=some i)(ao:hF i.desc=false){v:J}{cs:List J}(aA:v.cells=cs) :h3 E t v=some (λid=>J.ptr id 0,.cells cs.length false [] (bj.ofList cs)):=by simp only[h3,aN,qN,ao,aA]
theorem Ol{n len:Nat}(h:n<len) :mB (n:Int) len=some n:=by show(bif Nat.blt n len then some n else none)=some n;rw[c4.2 h];rfl
theorem aco{e:TypeId}{ie:bm}(aN:E.ty t=some i)(ao:i.desc=.slice e)(he:E.ty e=some ie){id off len cap n:Nat}{ex:Bool}(al:n<len) :eV E t (.slice id off len cap ie.size ex) (.int .i64 n)=some (.ptr id (off+n*ie.size)):=by simp only[eV,aN,ao,he,Ol al,qO,cond_true]
theorem acn{e:TypeId}{ie:bm}{m:Nat}(aN:E.ty t=some i)(ao:i.desc=.array m e)(he:E.ty e=some ie){id off n:Nat}(al:n<m) :eV E t (.ptr id off) (.int .i64 n)=some (.ptr id (off+n*ie.size)):=by simp only[eV,aN,ao,he,Ol al]
theorem H8{e:TypeId}(aN:E.ty t=some i)(ao:i.desc=.slice e)(h:ag)(id off len cap cu:Nat)(ex:Bool) :eW E h t (.slice id off len cap cu ex)=some (.int .i64 len):=by simp only[eW,aN,ao];rfl
theorem H7{e:TypeId}(aN:E.ty t=some i)(ao:i.desc=.slice e)(h:ag) :eW E h t .bh=some (.int .i64 0):=by simp only[eW,aN,ao];rfl
theorem QA{e:TypeId}(aN:E.ty t=some i)(ao:i.desc=.pointer e)(h:ag)(a b:Nat) :cV E h .eql t (.ptr a b) .nilPtr=some (.bool false):=by simp[cV,y6,fm,aN,ao]
theorem agW{e:TypeId}(aN:E.ty t=some i)(ao:i.desc=.pointer e)(h:ag)(a b:Nat) :cV E h .neq t (.ptr a b) .nilPtr=some (.bool true):=by simp[cV,y6,fm,aN,ao]
end
end Go.a6
namespace Go.Proofs.YtkdjcmpgnkecfaaGreatDoor
open Go.a6
section
variable{PV:cw} [db PV]
def ba.vs(s:ba) :List J:=[.bool s.here,.bool s.write,.bool s.copy,.bool s.out,.int .i64 s.n]
def ba.dz(s:ba) :J:=.agg s.vs
theorem Fj:hN ai 169=some (λid=>J.ptr id 0,.cells 5 false [] (bj.ofList ba.zero.vs)):=by kernel_rfl
theorem Wg(s:ba) :h3 ai 169 s.dz=some (λid=>J.ptr id 0,.cells 5 false [] (bj.ofList s.vs)):=by kernel_rfl
theorem px:dW ai 169 []=some ba.zero.dz:=by kernel_rfl
theorem VZ(a b c d:Bool)(n:Int) :dW ai 169 [(0,.bool a),(1,.bool b),(2,.bool c),(3,.bool d),(4,.int .i64 n)]=some (ba.mk a b c d n).dz:=by kernel_rfl
theorem jG{h:ag}{id:Nat}{s:ba}(o:a6.Obj h id s.vs) :dJ ai h 169 (.ptr id 0)=some s.dz:=by
 have e:ai.ty 169=some EJ:=by kernel_rfl
 have:=o.here;simp only[dJ,loadT,e];show(match jM h id 0 5 with|some cs=>some (J.agg cs) |none=>none)=_;rw[show(5:Nat)=s.vs.length by rfl,this];rfl
theorem AO{h:ag}{id:Nat}{s:ba}(o:a6.Obj h id s.vs)(aS:ba) :∃bP,dU ai h 169 (.ptr id 0) aS.dz=some (h.put id bP)/\a6.Obj (h.put id bP) id aS.vs:=by
 have e:ai.ty 169=some EJ:=by kernel_rfl
 obtain⟨bP,h1,aa⟩:=o.fill aS.vs rfl rfl;refine⟨bP,?_,aa⟩;simp only[dU,storeT,e];exact h1
theorem Ya(id off:Nat) :gN ai 169 (.ptr id off) 0=some (.ptr id off)/\gN ai 169 (.ptr id off) 1=some (.ptr id (off+1))/\gN ai 169 (.ptr id off) 2=some (.ptr id (off+2))/\gN ai 169 (.ptr id off) 3=some (.ptr id (off+3))/\gN ai 169 (.ptr id off) 4=some (.ptr id (off+4)):=
 ⟨by kernel_rfl,by kernel_rfl,by kernel_rfl,by kernel_rfl,by kernel_rfl⟩
theorem acU(h:ag)(id off:Nat) :dJ ai h 4 (.ptr id off)=bE h id off:=sl (i:=Ku) (by kernel_rfl) rfl h id off
theorem afp(h:ag)(a b:Bool) :cV ai h .neq 4 (.bool a) (.bool b)=some (.bool (a !=b)):=by cases a<;>cases b<;>kernel_rfl
theorem Iq(h:ag)(s:ba) :∃g,call ai PV (.func 179 [] []) [s.dz] h=some (.bool s.may,g)/\aX h g:=by
 refine⟨h.new (.cells 5 false [] (bj.ofList s.vs)),adr (x:=.ret) (vs:=[.bool s.may]) (first:=[]) (cap:=[]) ?_ rfl,aF.new _ _ _⟩;have o:a6.Obj (h.new (.cells 5 false [] (bj.ofList s.vs))) h.next s.vs:=a6.Obj.new h s.vs false [];obtain⟨f0,f1,f2,f3,f4⟩:=Ya h.next 0;have r0:=o.rd 0;have cg:=o.rd 1;have cK:=o.rd 2;have dG:=o.rd 3;have eu:=o.rd 4;simp only[ba.vs,List.getElem?_cons_zero,List.getElem?_cons_succ]at r0 cg cK dG eu;obtain⟨a,b,c,d,n⟩:=s;dsimp only;rw[Wg];simp only[mW,f0,f1,f2,f3,f4,ak,acU,ig,Nat.zero_add];simp only[ba.vs]at r0 cg cK dG eu|-;simp only[r0,cg,cK,dG,eu,ak,afp,a1,ba.may];by_cases h1:(a !=d)=true
 ·by_cases aa:0<=n
  ·by_cases av:n<=1048576
   ·cases b<;>cases c<;>simp[h1,aa,av,r0,cg,cK,dG,eu]
   ·simp[h1,aa,av,r0,cg,cK,dG,eu]
  ·simp[h1,aa,r0,cg,cK,dG,eu]
 ·simp[h1,r0,cg,cK,dG,eu]
theorem VB{a b:Nat}(aU:a<2^64)(af:b<2^64) :l_ .u64 (a:Int) (b:Int)=((a&&&b:Nat) :Int):=by
 unfold l_
 have e:(BitVec.ofInt IntKind.u64.bits (a:Int) &&&BitVec.ofInt IntKind.u64.bits (b:Int)).toNat=a&&&b:=by rw[BitVec.toNat_and,BitVec.ofInt_natCast,BitVec.ofInt_natCast,BitVec.toNat_ofNat,BitVec.toNat_ofNat];show a%2^64&&&b%2^64=_;rw[Nat.mod_eq_of_lt aU,Nat.mod_eq_of_lt af]
 rw[e,<-nA];have:a&&&b<=a:=Nat.and_le_left;exact wrap_u64 (by omega) (by omega)
theorem VA(a i:Nat) :a&&&2^i=if a.testBit i=true then 2^i else 0:=by
 apply Nat.eq_of_testBit_eq;intro j;rw[Nat.testBit_and,Nat.testBit_two_pow];by_cases h:i=j
 ·subst h;cases a.testBit i<;>simp
 ·cases a.testBit i<;>simp[h]
theorem BC{a:Nat}(aU:a<2^64)(i:Nat)(U:i<64) :decide (l_ .u64 (a:Int) ((2^i:Nat) :Int)≠0)=a.testBit i:=by
 rw[VB aU (Nat.pow_lt_pow_right (by decide) U),VA];cases a.testBit i with
 |false=>simp
 |true=>
  rw[if_pos rfl];have aa:2^i≠0:=Nat.ne_of_gt (Nat.two_pow_pos i);exact decide_eq_true λe=>aa (Int.ofNat.inj e)
theorem Xi(h:ag)(n:Int) :fS ai h 67 3 (.int .u64 n)=some (.int .i64 (bF .i64 n)):=by
 have aw:ai.ty 67=some uz:=by kernel_rfl
 have aL:ai.ty 3=some q_:=by kernel_rfl
 simp only[fS,aw,aL];rfl
theorem akk(h:ag){bits:Nat}(af:bits<2^64) :∃g,call ai PV (.func 318 [] []) [.int .u64 bits] h=some ((kD bits).dz,g)/\aX h g:=by
 have bU:a6.Obj (h.new (.cells 5 false [] (bj.ofList ba.zero.vs))) h.next ba.zero.vs:=a6.Obj.new h ba.zero.vs false [];have q:((bits:Int)).tdiv 16=((bits/16:Nat) :Int):=by rw[Int.tdiv_eq_ediv_of_nonneg (by omega)];simp
 have aw:bF .u64 ((bits/16:Nat) :Int)=((bits/16:Nat) :Int):=wrap_u64 (by omega) (by omega);have aL:bF .i64 ((bits/16:Nat) :Int)=((bits/16:Nat) :Int):=wrap_i64 (by omega) (by omega);have k_:=BC af 0 (by omega);have fj:=BC af 1 (by omega);have eS:=BC af 2 (by omega);have fY:=BC af 3 (by omega);have ay:∀(aC:ag),cV ai aC .quo 67 (.int .u64 bits) (.int .u64 16)=some (.int .u64 ((bits/16:Nat) :Int)):=λaC=>by rw[yP .u64 (by omega),q,aw]
 by_cases aA:1048576<bits/16
 ·obtain⟨bP,s1,cc⟩:=AO bU .zero;refine⟨_,O' (x:=.ret) (vs:=[(kD bits).dz]) (first:=[]) (cap:=[]) (g:=(h.new (.cells 5 false [] (bj.ofList ba.zero.vs))).put h.next bP) ?_ rfl,(aF.new _ _ _).sC _ (Nat.le_refl _)⟩;have qv:((1048576:Int) <((bits/16:Nat) :Int)):=by omega
  have a7:kD bits=.zero:=by unfold kD;rw[if_pos aA]
  rw[a7];dsimp only;rw[Fj];simp only[mW,ay,ak,hO,a1,decide_eq_true_eq,if_pos qv,px,s1,jG cc]
 ·let s:ba:=⟨bits.testBit 0,bits.testBit 1,bits.testBit 2,bits.testBit 3,(bits/16:Nat)⟩;let h1:=h.new (.cells 5 false [] (bj.ofList ba.zero.vs));let aa:=h1.new (.cells 5 false [] (bj.ofList ba.zero.vs));have cc:a6.Obj aa h1.next ba.zero.vs:=a6.Obj.new h1 ba.zero.vs false [];obtain⟨bP,s1,b8⟩:=AO cc s;obtain⟨aO,hm,bA⟩:=Iq (aa.put h1.next bP) s;have dF:h1.next=h.next+1:=rfl;have dS:(aa.put h1.next bP).next=h.next+2:=rfl
  have bw:aX h (aa.put h1.next bP):=((aF.new _ _ _).trans (aF.new _ _ _)).sC _ (by omega);have c5:a6.Obj aO h1.next s.vs:=b8.aq bA (by omega) (λe=>e)
  have cS:a6.Obj aO h.next ba.zero.vs:=by refine a6.Obj.aq ?_ bA (by omega) (λe=>e);refine a6.Obj.o6 (h:=h1) bU ?_;rw[nM (by omega),u4 (by omega)]
  have qv:¬((1048576:Int) <((bits/16:Nat) :Int)):=by omega
  have a7:kD bits=if s.may then s else .zero:=by unfold kD;rw[if_neg aA]
  obtain⟨sv,jO,di⟩:=AO cS s;obtain⟨xY,kA,dP⟩:=AO cS .zero;have ul:h.next<=aO.next:=(bw.trans bA).next
  refine⟨aO.put h.next (if s.may then sv else xY),O' (x:=.ret) (vs:=[(kD bits).dz]) (first:=[]) (cap:=[]) ?_ rfl,(bw.trans bA).sC _ (Nat.le_refl _)⟩;rw[a7];dsimp only;rw[Fj];have gF:dJ ai (aa.put h1.next bP) 169 (.ptr h1.next 0)=some s.dz:=jG b8;have d0:decide (l_ .u64 (bits:Int) 1≠0)=bits.testBit 0:=k_;have d1:decide (l_ .u64 (bits:Int) 2≠0)=bits.testBit 1:=fj;have d2:decide (l_ .u64 (bits:Int) 4≠0)=bits.testBit 2:=eS;have d3:decide (l_ .u64 (bits:Int) 8≠0)=bits.testBit 3:=fY;simp only[mW,ay,ak,hO,a1,decide_eq_true_eq,if_neg qv,Fx,dc,d0,d1,d2,d3,Xi,aL,VZ];show cd (dU ai aa 169 (.ptr h1.next 0) s.dz) _=_;rw[s1,ak,gF,ak,hm,c1];simp only[fA,ak,a1];cases mq:s.may with
  |true=>
   simp only[Bool.not_true,Bool.false_eq_true,if_false,if_true];show cd (dJ ai aO 169 (.ptr h1.next 0)) _=_;rw[jG c5,ak];show cd (dU ai aO 169 (.ptr h.next 0) s.dz) _=_;rw[jO,ak,jG di,ak]
  |false=>
   simp only[Bool.not_false,if_true,px,ak,Bool.false_eq_true,if_false];show cd (dU ai aO 169 (.ptr h.next 0) ba.zero.dz) _=_;rw[kA,ak,jG dP,ak]
theorem Yc(id off:Nat) :gN ai 272 (.ptr id off) 0=some (.ptr id off):=by kernel_rfl
theorem XV{h:ag}{A:fB}{mem held:Nat->Nat}{free:Nat}(hw:jV h)(aD:dw h A mem held free)(h0:A.p≠0/\A.b≠0/\A.q≠0){t:Nat}(aN:t<h.next)(h1:bE h t 0=some (.ptr A.p 0))
  {node i:Nat} (al:node<A.n) (aC:held node≠0) (U:i<8) :∃g,call ai PV (.func 245 [] []) [.ptr t 0,.int .i64 node,.int .i64 i] h=some ((kD (bT (mem node) (8*i) 8)).dz,g)/\aX h g:=by
 let g1:=h.new (.cells 5 false [] (bj.ofList ba.zero.vs));have aW:aX h g1:=aF.new _ _ _;have aw:bF .i64 ((i:Int) *8)=((8*i:Nat) :Int):=by rw[wrap_i64 (by omega) (by omega)];omega
 have dF:g1.next=h.next+1:=rfl;obtain⟨g2,ar,a_⟩:=Ph (hw.aq aW (λe=>e)) (aD.aq aW ⟨λe=>e,λe=>e,λe=>e⟩) h0 (k:=4) (.inr (.inr (.inr rfl))) al aC (at':=8*i) (by show 8*i+8<=64;omega);have jl:call ai PV (.func 91 [] []) [.ptr A.p 0,.int .i64 node,.int .i64 (8*i:Nat),.int .i64 4] g1=some (.tuple [.int .u64 (bT (mem node) (8*i) 8:Nat),.int .i64 0],g2):=ar;obtain⟨g3,hu,bw⟩:=akk g2 (bits:=bT (mem node) (8*i) 8) (ky _ _ 8);have bU:a6.Obj g1 h.next ba.zero.vs:=a6.Obj.new h ba.zero.vs false [];have un:g1.next<=g2.next:=a_.next;have b8:a6.Obj g3 h.next ba.zero.vs:=bU.aq (a_.trans bw) (by omega) (λe=>e);obtain⟨bP,lC,c5⟩:=AO b8 (kD (bT (mem node) (8*i) 8));have ul:h.next<=g3.next:=((aW.trans a_).trans bw).next
 refine⟨g3.put h.next bP,adS (x:=.ret) (vs:=[(kD (bT (mem node) (8*i) 8)).dz]) (first:=[]) (cap:=[]) ?_ rfl,((aW.trans a_).trans bw).sC _ (Nat.le_refl _)⟩;dsimp only;rw[Fj];simp only[mW,b2,ak,Yc,vH];show cd (bE g1 t 0) _=_;rw[k1 aN,h1];simp only[ak,k',aw];show eM (call ai PV (.func 91 [] []) [.ptr A.p 0,.int .i64 node,.int .i64 (8*i:Nat),.int .i64 4] g1) _=_;rw[jl];simp only[c1,fM,List.getElem?_cons_zero,List.getElem?_cons_succ,ak,hu,lC,jG c5]
end
section
set_option linter.defProp false
def q'(t:TypeId)(p:bm->Bool) :Bool:=match ai.ty t with
 |some i=>p i
 |none=>false
theorem s0{t:TypeId}{p:bm->Bool}(c:q' t p=true) :∃i,ai.ty t=some i/\p i=true:=by
 unfold q' at c;split at c
 ·exact⟨_,by assumption,c⟩
 ·cases c
def Rh(i:bm) :Bool:= !nd i.desc
theorem gU(t:TypeId)(c:q' t Rh=true:=by kernel_rfl)(h:ag)(id off:Nat) :dJ ai h t (.ptr id off)=bE h id off:=by obtain⟨i,e,p⟩:=s0 c;exact sl e (by simpa [Rh]using p) h id off
theorem q4(t n:Nat)(c:q' t (λi=>nd i.desc&&Nat.beq i.size n)=true:=by kernel_rfl) ⦃h:ag⦄ ⦃id off:Nat⦄ ⦃l:List J⦄ (o:a6.Obj h id l) (aj:off+n<=l.length) :dJ ai h t (.ptr id off)=some (.agg ((l.drop off).take n)):=by obtain⟨i,e,p⟩:=s0 c;simp only[Bool.and_eq_true]at p;obtain rfl:=a6.beq_true.1 p.2;exact acV e p.1 o aj
theorem q7(t:TypeId)(c:q' t (λi=>Nat.beq i.size 1)=true:=by kernel_rfl) ⦃h:ag⦄ ⦃id k:Nat⦄ ⦃l:List J⦄ (o:a6.Obj h id l) (aj:k<l.length) ⦃v:J⦄ (aA:v.cells=[v]) (ae:dT v=true) :
  ∃g,dU ai h t (.ptr id k) v=some g/\(a6.Obj g id (l.set k v)/\aF (λj=>j=id) h g/\g.next=h.next):=by
 obtain⟨i,e,p⟩:=s0 c;exact aiL e (a6.beq_true.1 p) o aj aA ae
theorem sY(t n:Nat)(c:q' t (λi=>Nat.beq i.size n&& !Nat.beq n 0)=true:=by kernel_rfl) ⦃h:ag⦄ ⦃id k:Nat⦄ ⦃l cs:List J⦄ (o:a6.Obj h id l) (ar:cs.length=n) (aj:k+cs.length<=l.length) (ae:cs.all dT=true) :
  ∃g,dU ai h t (.ptr id k) (.agg cs)=some g/\(a6.Obj g id (l.take k++cs++l.drop (k+cs.length))/\aF (λj=>j=id) h g/\g.next=h.next):=by
 obtain⟨i,e,p⟩:=s0 c;simp only[Bool.and_eq_true]at p;obtain rfl:=a6.beq_true.1 p.1;exact aiK e (λh0=>by rw[h0]at p;exact absurd p.2 (by decide)) o ar aj ae
def U2(t:TypeId) :Option (List J):=match ai.ty t with
 |some i=>bif hF i.desc then none else some i.zero
 |none=>none
theorem o8(t:TypeId){z:List J}(c:U2 t=some z:=by conv=>lhs;reduce;simp only[Int.reduceOfNat]) :hN ai t=some (λid=>J.ptr id 0,.cells z.length false [] (bj.ofList z)):=by
 unfold U2 at c;split at c
 ·rename_i i e;cases ao:hF i.desc with
  |true=>rw[ao]at c;cases c
  |false=>rw[ao]at c;obtain rfl:=Option.some.inj c;exact Fk e ao
 ·cases c
theorem iI(t:TypeId)(c:q' t (λi=> !hF i.desc)=true:=by kernel_rfl) ⦃v:J⦄ ⦃cs:List J⦄ (aA:v.cells=cs) :h3 ai t v=some (λid=>J.ptr id 0,.cells cs.length false [] (bj.ofList cs)):=by obtain⟨i,e,p⟩:=s0 c;exact Wq e (by simpa using p) aA
def Gj(t i:Nat) :Option Nat:=match ai.ty t with
 |some Se=>match Se.desc with
  | .struct fs=>match fs[i]? with
   |some fd=>match ai.ty fd.type with
    |some e7=>bif Nat.beq e7.size 0 then none else some fd.offset
    |none=>none
   |none=>none
  |_=>none
 |none=>none
theorem ee(t i n:Nat)(c:Gj t i=some n:=by kernel_rfl)(id off:Nat) :gN ai t (.ptr id off) i=some (.ptr id (off+n)):=by
 unfold Gj at c;unfold gN;split at c
 ·rename_i Se e;rw[e];dsimp only;split at c
  ·rename_i fs pA;rw[pA];dsimp only;split at c
   ·rename_i fd oI;rw[oI];dsimp only;split at c
    ·rename_i e7 j1;rw[j1];dsimp only;cases aI:Nat.beq e7.size 0 with
     |true=>rw[aI]at c;cases c
     |false=>rw[aI]at c;obtain rfl:=Option.some.inj c;rfl
    ·cases c
   ·cases c
  ·cases c
 ·cases c
theorem lE(t i:Nat)(c:Gj t i=some 0:=by kernel_rfl)(id off:Nat) :gN ai t (.ptr id off) i=some (.ptr id off):=ee t i 0 c id off
def w8(t:Nat)(p:TypeDesc->bm->Bool) :Bool:=match ai.ty t with
 |some i=>match i.desc with
  | .slice e=>match ai.ty e with
   |some ie=>p i.desc ie
   |none=>false
  | .array _ e=>match ai.ty e with
   |some ie=>p i.desc ie
   |none=>false
  |_=>false
 |none=>false
def Db:TypeDesc->Bool
 | .slice _=>true
 |_=>false
def HL(m:Nat) :TypeDesc->Bool
 | .array k _=>Nat.beq k m
 |_=>false
theorem yr(t z:Nat)(c:w8 t (λd ie=>Db d&&Nat.beq ie.size z)=true:=by kernel_rfl) ⦃id off len cap n:Nat⦄ ⦃ex:Bool⦄ (al:n<len) :eV ai t (.slice id off len cap z ex) (.int .i64 n)=some (.ptr id (off+n*z)):=by
 unfold w8 at c;split at c
 ·rename_i i e;split at c
  ·rename_i el pA;split at c
   ·rename_i ie j1;simp only[Bool.and_eq_true]at c;obtain rfl:=a6.beq_true.1 c.2;exact aco e pA j1 al
   ·cases c
  ·rename_i k el pA;split at c
   ·rw[pA]at c;cases c
   ·cases c
  ·cases c
 ·cases c
theorem Kc(t:Nat)(c:w8 t (λd ie=>Db d&&Nat.beq ie.size 1)=true:=by kernel_rfl) ⦃id off len cap n:Nat⦄ ⦃ex:Bool⦄ (al:n<len) :eV ai t (.slice id off len cap 1 ex) (.int .i64 n)=some (.ptr id (off+n)):=by rw[yr t 1 c al,Nat.mul_one]
theorem ajJ(t m z:Nat)(c:w8 t (λd ie=>HL m d&&Nat.beq ie.size z)=true:=by kernel_rfl) ⦃id off n:Nat⦄ (al:n<m) :eV ai t (.ptr id off) (.int .i64 n)=some (.ptr id (off+n*z)):=by
 unfold w8 at c;split at c
 ·rename_i i e;split at c
  ·rename_i el pA;split at c
   ·rw[pA]at c;cases c
   ·cases c
  ·rename_i k el pA;split at c
   ·rename_i ie j1;rw[pA]at c;simp only[HL,Bool.and_eq_true]at c;obtain rfl:=a6.beq_true.1 c.2;obtain rfl:=a6.beq_true.1 c.1;exact acn e pA j1 al
   ·cases c
  ·cases c
 ·cases c
theorem Sh(t m:Nat)(c:w8 t (λd ie=>HL m d&&Nat.beq ie.size 1)=true:=by kernel_rfl) ⦃id off n:Nat⦄ (al:n<m) :eV ai t (.ptr id off) (.int .i64 n)=some (.ptr id (off+n)):=by rw[ajJ t m 1 c al,Nat.mul_one]
def Eb(i:bm) :Bool:=Db i.desc
theorem OC{i:bm}(p:Eb i=true) :∃e,i.desc=.slice e:=by
 unfold Eb Db at p;split at p
 ·exact⟨_,by assumption⟩
 ·cases p
theorem EG(t:Nat)(c:q' t Eb=true:=by kernel_rfl)(h:ag)(id off len cap cu:Nat)(ex:Bool) :eW ai h t (.slice id off len cap cu ex)=some (.int .i64 len):=by obtain⟨i,e,p⟩:=s0 c;obtain⟨_,ao⟩:=OC p;exact H8 e ao h id off len cap cu ex
theorem Sr(t:Nat)(c:q' t Eb=true:=by kernel_rfl)(h:ag) :eW ai h t .bh=some (.int .i64 0):=by obtain⟨i,e,p⟩:=s0 c;obtain⟨_,ao⟩:=OC p;exact H7 e ao h
def Jg(i:bm) :Bool:=match i.desc with
 | .pointer _=>true
 |_=>false
theorem QD{i:bm}(p:Jg i=true) :∃e,i.desc=.pointer e:=by
 unfold Jg at p;split at p
 ·exact⟨_,by assumption⟩
 ·cases p
section
variable(t:Nat)(c:q' t Jg=true:=by kernel_rfl)(h:ag)
include c
theorem sV(a b:Nat) :cV ai h .eql t (.ptr a b) .nilPtr=some (.bool false):=by obtain⟨i,e,p⟩:=s0 c;obtain⟨_,ao⟩:=QD p;exact QA e ao h a b
theorem aj1(a b:Nat) :cV ai h .neq t (.ptr a b) .nilPtr=some (.bool true):=by obtain⟨i,e,p⟩:=s0 c;obtain⟨_,ao⟩:=QD p;exact agW e ao h a b
end
@[simp] def b6:=gU 3
def kC:=q7 3
def ai2:=o8 3
def AY:=iI 3
@[simp] def kB:=gU 4
def Sy:=q7 4
@[simp] def ajP:=gU 5
@[simp] def EE:=gU 9
def EI:=q7 9
def R1:=o8 9
def ajl:=iI 9
def A3:=q4 22 4
def sX:=sY 22 4
def q0:=o8 22
def q3:=Sh 22 4
@[simp] def Su:=sV 28
@[simp] def ajZ:=aj1 28
@[simp] def EC:=gU 29
@[simp] def wc:=gU 32
def R5:=iI 32
@[simp] def Sv:=sV 32
@[simp] def lH:=gU 42
def ajj:=iI 42
@[simp] def Kh:=sV 42
def i':=q4 47 6
def wi:=sY 47 6
def yn:=o8 47
def o_:=iI 47
@[simp] def uw:=lE 47 0
@[simp] def sR:=ee 47 1 1
@[simp] def Ew:=ee 47 2 2
@[simp] def o':=ee 47 3 3
@[simp] def J8:=ee 47 4 4
@[simp] def Ex:=ee 47 5 5
@[simp] def uy:=gU 48
@[simp] def aj0:=sV 48
@[simp] def Sl:=gU 59
def aj7:=q7 59
def ai3:=o8 59
def Sm:=q4 63 4
def Kn:=sY 63 4
def JX:=o8 63
@[simp] def ajD:=ee 63 2 2
@[simp] def sU:=gU 64
def pb:=Kc 64
@[simp] def q5:=EG 64
@[simp] def ajV:=Sr 64
@[simp] def ED:=gU 67
def Sz:=q7 67
def ajQ:=q4 69 9
def J1:=iI 69
@[simp] def Sb:=lE 69 0
@[simp] def Sc:=ee 69 1 1
@[simp] def J9:=ee 69 2 2
@[simp] def yq:=ee 69 3 3
@[simp] def J_:=ee 69 4 4
@[simp] def ajE:=ee 69 8 8
def we:=q4 71 3
def pf:=sY 71 3
def v_:=o8 71
@[simp] def Ey:=lE 71 0
@[simp] def ajF:=ee 71 1 1
@[simp] def ajG:=ee 71 2 2
@[simp] def Ke:=gU 75
def aj8:=q7 75
def Sg:=Kc 75
@[simp] def ajR:=gU 83
def Ez:=Sh 121 32
@[simp] def sS:=gU 126
def Km:=q7 126
def Sf:=yr 126 6
@[simp] def Sn:=EG 126
@[simp] def Sp:=Sr 126
@[simp] def Si:=gU 135
@[simp] def ajU:=EG 135
@[simp] def ajK:=gU 138
@[simp] def ajX:=sV 138
@[simp] def sT:=gU 140
def ai6:=iI 140
def ai7:=iI 142
@[simp] def Ep:=lE 142 0
@[simp] def ajn:=ee 142 1 1
@[simp] def AZ:=ee 142 2 2
@[simp] def ajL:=gU 143
def ai8:=iI 145
@[simp] def ajo:=ee 145 1 1
@[simp] def ajp:=ee 145 2 2
@[simp] def ajq:=ee 145 3 3
@[simp] def gK:=gU 152
def ai9:=iI 152
@[simp] def ajY:=sV 152
@[simp] def ou:=gU 153
def ai_:=iI 153
@[simp] def A5:=sV 153
@[simp] def pc:=gU 154
def R4:=iI 154
@[simp] def EH:=sV 154
@[simp] def lF:=lE 156 0
@[simp] def Er:=ee 156 2 2
@[simp] def v':=ee 156 3 3
@[simp] def Es:=ee 156 4 4
@[simp] def ov:=gU 157
def ai':=iI 157
@[simp] def St:=sV 157
def aja:=iI 161
@[simp] def q1:=lE 161 0
@[simp] def uv:=ee 161 1 1
@[simp] def J2:=ee 161 2 2
def A2:=q4 169 5
def pe:=sY 169 5
def sN:=o8 169
def sP:=iI 169
@[simp] def k4:=lE 169 0
@[simp] def ns:=ee 169 1 1
@[simp] def nt:=ee 169 2 2
@[simp] def q2:=ee 169 3 3
@[simp] def lG:=ee 169 4 4
@[simp] def Sj:=gU 175
def aj4:=q7 175
def J':=yr 175 6
def ux:=q4 178 6
def q6:=sY 178 6
def sO:=o8 178
def ajb:=iI 178
@[simp] def Et:=lE 178 0
@[simp] def yo:=ee 178 1 1
def ajH:=yr 179 2
def nu:=q4 182 2
def yu:=sY 182 2
def AW:=o8 182
def J0:=iI 182
@[simp] def ajr:=lE 182 0
@[simp] def ajs:=ee 182 1 1
@[simp] def EA:=gU 197
def Ka:=yr 197 3
@[simp] def Sk:=gU 202
def aj5:=q7 202
def ajI:=yr 202 2
def EB:=q4 204 3
def A6:=sY 204 3
def AX:=o8 204
@[simp] def J3:=ee 204 1 1
@[simp] def R7:=ee 204 2 2
def ajM:=q4 206 2
def aj6:=sY 206 2
def ai1:=o8 206
@[simp] def ajt:=lE 206 0
@[simp] def aju:=ee 206 1 1
def ajc:=iI 213
def ajd:=iI 218
@[simp] def ajv:=lE 234 0
@[simp] def Eu:=ee 234 2 2
@[simp] def R8:=lE 244 0
@[simp] def ajw:=ee 244 1 1
@[simp] def ajx:=ee 244 2 2
@[simp] def ajy:=ee 244 3 3
@[simp] def ajN:=gU 263
def aje:=iI 265
@[simp] def ajz:=lE 265 0
def ajf:=iI 272
@[simp] def A0:=lE 272 0
@[simp] def R9:=ee 272 1 1
@[simp] def J4:=ee 272 2 2
@[simp] def R_:=lE 288 0
@[simp] def R':=ee 288 1 1
@[simp] def sQ:=ee 288 2 2
@[simp] def J5:=ee 288 3 3
@[simp] def A4:=gU 292
@[simp] def wb:=gU 293
def Sx:=q7 293
def Kb:=Kc 293
@[simp] def Sq:=EG 293
@[simp] def yp:=lE 295 0
@[simp] def ajA:=ee 295 1 1
@[simp] def A1:=ee 295 2 2
@[simp] def wa:=ee 295 3 3
@[simp] def J6:=ee 295 4 4
@[simp] def ajB:=ee 295 5 5
@[simp] def ajC:=ee 295 6 6
@[simp] def Kd:=gU 296
def ajg:=iI 298
@[simp] def J7:=lE 298 0
@[simp] def Ev:=ee 298 1 2
@[simp] def Sa:=ee 298 2 3
def ajh:=iI 312
@[simp] def ajO:=gU 366
def aji:=iI 366
end
section
variable{PV:cw} [db PV]
theorem AP{h:ag}{id off:Nat}(n:Int) :dU ai h 3 (.ptr id off) (.int .i64 n)=jc h id off [.int .i64 n]:=by
 have e:ai.ty 3=some q_:=by kernel_rfl
 simp only[dU,storeT,e];rfl
section
variable{h:ag}{A:fB}{mem held:Nat->Nat}{free:Nat}
theorem JH(aD:dw h A mem held free){f:Nat}(aB:f<A.n)(v:Nat) :∃g,dU ai h 3 (.ptr A.q f) (.int .i64 v)=some g/\dw g A mem (aq held f v) free/\aF (λi=>i=A.q) h g:=by
 obtain⟨bP,h1,aa⟩:=aD.arr.write (i:=f) (by simpa using aB) (v:=.int .i64 v) rfl;refine⟨_,by rw[AP];exact h1,?_,aF.put _ rfl⟩
 exact{
  n:=aD.n,lt:=aD.lt,ne:=aD.ne
  str:=let⟨aw,aL,o⟩:=aD.str;⟨aw,aL,o.o6 (nM aD.ne.2.1)⟩
  bytes:=by rw[nM aD.ne.2.2];exact aD.bytes
  arr:=by
   have e:((List.range A.n).map λj=>J.int .i64 (held j)).set f (.int .i64 v)=(List.range A.n).map λj=>J.int .i64 (aq (α:=Nat) held f v j:Nat):=by
    apply List.ext_getElem?;intro j;rw[List.getElem?_set];by_cases az:f=j
    ·subst az;simp[aB,aq]
    ·have nT:¬j=f:=λe=>az e.symm
     rw[if_neg az];by_cases zy:j<A.n
     ·simp[zy,aq,nT]
     ·simp[zy]
   rw[<-e]
   exact aa}
theorem Rt(aD:dw h A mem held free)(v:Nat) :∃g,dU ai h 3 (.ptr A.p 2) (.int .i64 v)=some g/\dw g A mem held v/\aF (λi=>i=A.p) h g:=by
 obtain⟨aw,aL,o⟩:=aD.str;obtain⟨bP,h1,aa⟩:=o.write (i:=2) (by simp) (v:=.int .i64 v) rfl;refine⟨_,by rw[AP];exact h1,?_,aF.put _ rfl⟩
 exact{
  n:=aD.n,lt:=aD.lt,ne:=aD.ne
  str:=⟨aw,aL,aa⟩
  bytes:=by rw[nM (λe=>aD.ne.1 e.symm)];exact aD.bytes
  arr:=aD.arr.o6 (nM (λe=>aD.ne.2.1 e.symm))}
theorem Gx(aD:dw h A mem held free) :call ai PV (.func 80 [] []) [.ptr A.p 0] h=some (.int .i64 free,h):=by refine aeu (x:=.ret) (vs:=[.int .i64 free]) (first:=[]) (cap:=[]) ?_ rfl;simp[x5,w_,ig,aD.f2]
theorem YI(aD:dw h A mem held free) :call ai PV (.func 92 [] []) [.ptr A.p 0] h=some (.int .i64 A.n,h):=by obtain⟨ex,ay⟩:=aD.f1;refine aeE (x:=.ret) (vs:=[.int .i64 A.n]) (first:=[]) (cap:=[]) ?_ rfl;simp[x5,tu,tT,ay,Ds]
theorem Cw(aD:dw h A mem held free){f:Nat}(aB:f<A.n) :call ai PV (.func 98 [] []) [.ptr A.p 0,.int .i64 f] h=some (.int .i64 (held f),h):=by
 obtain⟨ex,ay⟩:=aD.f1;refine aeJ (x:=.ret) (vs:=[.int .i64 (held f)]) (first:=[]) (cap:=[]) ?_ rfl;have h0:¬(f:Int) <0:=by omega
 have h1:¬(A.n:Int)<=f:=by omega
 simp[x5,tu,tT,ig,ay,Ds,h0,h1,tP f aB,aD.hold f aB]
theorem Fz(a b:Nat) :h3 ai 152 (.ptr a b)=some (λid=>J.ptr id 0,eY (.ptr a b)):=by kernel_rfl
theorem Ko(h:ag)(a b:J) :let g:=(h.new (eY a)).new (eY b)
  aX h g/\bE g h.next 0=some a/\bE g (h.next+1) 0=some b/\g.next=h.next+2:=by
 refine⟨(aF.new _ _ _).trans (aF.new _ _ _),?_,qW _ _,rfl⟩;rw[k1 (by simp),qW]
theorem NW(aD:dw h A mem held free){f:Nat}(aB:f<A.n)(aC:held f≠0)(af:held f<2^60) :
  ∃g,call ai PV (.func 110 [] []) [.ptr A.p 0,.int .i64 f] h=some (.int .i64 0,g)/\dw g A mem (aq held f (held f+1)) free/\aF (λi=>i=A.q) h g:=by
 obtain⟨a_,cg,cK,dS⟩:=Ko h (.ptr A.p 0) (.int .i64 f);let aa:=(h.new (eY (.ptr A.p 0))).new (eY (.int .i64 f));have mv:dw aa A mem held free:=aD.aq a_ ⟨λe=>e,λe=>e,λe=>e⟩;have nV:dw (aa.aV 10) A mem held free:=mv.aq (aF.aV (λ_=>False) aa 10) ⟨λe=>e,λe=>e,λe=>e⟩;obtain⟨g,s1,zN,ja⟩:=JH nV aB (held f+1);obtain⟨ex,ay⟩:=nV.f1;have bK:=aD.lt;refine⟨g,?_,zN,?_⟩
 ·have aw:bF .i64 ((held f:Int) +1)=((held f+1:Nat) :Int):=by rw[wrap_i64 (by omega) (by omega)];simp
  have hw:∀fC,call ai PV (.func 184 [] [.ptr h.next 0,.ptr (h.next+1) 0]) [.slice A.b (64*f) 64 (64*A.n-64*f) 1 fC] aa=some (.int .i64 0,g):=λfC=>by refine adw (x:=.ret) (vs:=[.int .i64 0]) (first:=[]) (mid:=[_]) (cap:=[_,_]) ?_ rfl;have sD:bE (aa.aV 10) h.next 0=some (.ptr A.p 0):=cg;have vT:bE (aa.aV 10) (h.next+1) 0=some (.int .i64 f):=cK;simp only[vH,tT,ig,sD,vT,ak,b2,tu,Nat.zero_add,ay,tP f aB,nV.hold f aB,cP,aw,s1,dh]
  have n1:=uE mv aB aC hw;refine ac1 (x:=.ret) (vs:=[.int .i64 0]) (first:=[]) (cap:=[]) ?_ rfl;simp only[Fz,uJ,mW,vH,ig];show cd (bE aa h.next 0) _=_;rw[cg,ak];show cd (bE aa (h.next+1) 0) _=_;rw[cK,ak];show eM (call ai PV (.func 183 [] []) [.ptr A.p 0,.int .i64 f,.func 184 [] [.ptr h.next 0,.ptr (h.next+1) 0]] aa) _=_;rw[n1];rfl
 ·exact((a_.mono λi _ e=>e.elim).trans (aF.aV _ aa 10)).trans ja
end
section
variable{h:ag}{A:fB}{mem held:Nat->Nat}{free:Nat}
theorem B4(aD:dw h A mem held free){f:Nat}(aB:f<A.n)(aC:held f≠0)(af:held f<2^60)(eT:free<2^60) :
  ∃g,call ai PV (.func 175 [] []) [.ptr A.p 0,.int .i64 f] h=some (.int .i64 0,g)/\dw g A mem (aq held f (held f-1)) (if held f=1 then free+1 else free)/\aF (λi=>i=A.q\/i=A.p) h g:=by
 obtain⟨a_,cg,cK,dS⟩:=Ko h (.ptr A.p 0) (.int .i64 f);let aa:=(h.new (eY (.ptr A.p 0))).new (eY (.int .i64 f));have mv:dw aa A mem held free:=aD.aq a_ ⟨λe=>e,λe=>e,λe=>e⟩;have nV:dw (aa.aV 10) A mem held free:=mv.aq (aF.aV (λ_=>False) aa 10) ⟨λe=>e,λe=>e,λe=>e⟩;obtain⟨g1,s1,zJ,bA⟩:=JH nV aB (held f-1);have zK:dw (g1.aV 8) A mem (aq held f (held f-1)) free:=zJ.aq (aF.aV (λ_=>False) g1 8) ⟨λe=>e,λe=>e,λe=>e⟩;obtain⟨g2,s2,zL,b3⟩:=Rt zK (free+1);obtain⟨ex,ay⟩:=nV.f1;obtain⟨Gg,N1⟩:=zK.f1;have bK:=aD.lt;have Ns:=zK.f2;have iy:=zK.hold f aB;have lh:aq held f (held f-1) f=held f-1:=if_pos rfl;rw[lh]at iy;have aw:bF .i64 ((held f:Int) -1)=((held f-1:Nat) :Int):=by rw[wrap_i64 (by omega) (by omega)];omega
 have aL:bF .i64 ((free:Int) +1)=((free+1:Nat) :Int):=by rw[wrap_i64 (by omega) (by omega)];simp
 have sD:bE (aa.aV 10) h.next 0=some (.ptr A.p 0):=cg;have vT:bE (aa.aV 10) (h.next+1) 0=some (.int .i64 f):=cK;have eH:(aa.aV 10).next=h.next+12:=rfl
 have dG:bE (g1.aV 8) h.next 0=some (.ptr A.p 0):=by rw[cT,Jk bA (by omega) (by omega)];exact sD
 have eu:bE (g1.aV 8) (h.next+1) 0=some (.int .i64 f):=by rw[cT,Jk bA (by omega) (by omega)];exact vT
 have nv:aF (λi=>i=A.q\/i=A.p) h (g1.aV 8):=((a_.mono λi _ e=>e.elim).trans (aF.aV _ aa 10)).trans ((bA.mono λi _ e=>.inl e).trans (aF.aV _ g1 8));by_cases h1:held f=1
 ·refine⟨g2,?_,by rw[if_pos h1];exact zL,nv.trans (b3.mono λi _ e=>.inr e)⟩;have cI:((held f-1:Nat) :Int)=0:=by omega
  have hw:∀fC,call ai PV (.func 263 [] [.ptr h.next 0,.ptr (h.next+1) 0]) [.slice A.b (64*f) 64 (64*A.n-64*f) 1 fC] aa=some (.int .i64 0,g2):=λfC=>by refine O9 (x:=.ret) (vs:=[.int .i64 0]) (first:=[]) (mid:=[_]) (cap:=[_,_]) ?_ rfl;simp only[vH,tT,ig,sD,vT,dG,eu,ak,b2,tu,w_,Nat.zero_add,ay,N1,tP f aB,nV.hold f aB,e4,aw,s1,dh,iy,c2,a1,decide_eq_true_eq,if_pos cI,Ns,cP,aL,s2,cO,bd,hf]
  have n1:=uE mv aB aC hw;refine O4 (x:=.ret) (vs:=[.int .i64 0]) (first:=[]) (cap:=[]) ?_ rfl;simp only[Fz,uJ,mW,vH,ig];show cd (bE aa h.next 0) _=_;rw[cg,ak];show cd (bE aa (h.next+1) 0) _=_;rw[cK,ak];show eM (call ai PV (.func 183 [] []) [.ptr A.p 0,.int .i64 f,.func 263 [] [.ptr h.next 0,.ptr (h.next+1) 0]] aa) _=_;rw[n1];rfl
 ·refine⟨g1.aV 8,?_,by rw[if_neg h1];exact zK,nv⟩;have cI:¬((held f-1:Nat) :Int)=0:=by omega
  have hw:∀fC,call ai PV (.func 263 [] [.ptr h.next 0,.ptr (h.next+1) 0]) [.slice A.b (64*f) 64 (64*A.n-64*f) 1 fC] aa=some (.int .i64 0,g1.aV 8):=λfC=>by refine O9 (x:=.ret) (vs:=[.int .i64 0]) (first:=[]) (mid:=[_]) (cap:=[_,_]) ?_ rfl;simp only[vH,tT,ig,sD,vT,dG,eu,ak,b2,tu,w_,Nat.zero_add,ay,N1,tP f aB,nV.hold f aB,e4,aw,s1,dh,iy,c2,a1,decide_eq_true_eq,if_neg cI,cO,bd,hf]
  have n1:=uE mv aB aC hw;refine O4 (x:=.ret) (vs:=[.int .i64 0]) (first:=[]) (cap:=[]) ?_ rfl;simp only[Fz,uJ,mW,vH,ig];show cd (bE aa h.next 0) _=_;rw[cg,ak];show cd (bE aa (h.next+1) 0) _=_;rw[cK,ak];show eM (call ai PV (.func 183 [] []) [.ptr A.p 0,.int .i64 f,.func 263 [] [.ptr h.next 0,.ptr (h.next+1) 0]] aa) _=_;rw[n1];rfl
theorem Vx:hN ai 9=some (λid=>J.ptr id 0,eY (.str 0 0)):=by kernel_rfl
theorem OW(h:ag)(id off:Nat) :dJ ai h 9 (.ptr id off)=bE h id off:=sl (i:=uA) (by kernel_rfl) rfl h id off
theorem RR{h:ag}{id:Nat}{st:Bool}{z:List J}{t:bj J}(aE:h.get id=.cells 1 st z t)(l n:Nat) :dU ai h 9 (.ptr id 0) (.str l n)=some (h.put id (.cells 1 st z (t.set 0 (.str l n)))):=by
 have e:ai.ty 9=some uA:=by kernel_rfl
 simp only[dU,storeT,e];show jc h id 0 [J.str l n]=_;unfold jc;rw[aE];rfl
theorem Wt(aD:dw h A mem held free){f:Nat}(aB:f<A.n)(aC:held f≠0) :
  ∃g,call ai PV (.func 227 [] []) [.ptr A.p 0,.int .i64 f] h=some (.tuple [.str 64 (mem f),.int .i64 0],g)/\aX h g:=by
 let h1:=h.new (eY (.str 0 0));have g1:h1.get h.next=eY (.str 0 0):=mf _ _;let aa:=h1.put h.next (.cells 1 false [] ((bj.ofList [J.str 0 0]).set 0 (.str 0 0)));have a_:aX h aa:=(aF.new _ _ _).sC _ (Nat.le_refl _);have g2:aa.get h.next=.cells 1 false [] ((bj.ofList [J.str 0 0]).set 0 (.str 0 0)):=kR _ _ _;have mv:dw aa A mem held free:=aD.aq a_ ⟨λe=>e,λe=>e,λe=>e⟩;obtain⟨st,N,af,hm⟩:=mv.bytes;let g:=aa.put h.next (.cells 1 false [] (((bj.ofList [J.str 0 0]).set 0 (.str 0 0)).set 0 (.str 64 (mem f))))
 have hw:∀fC,call ai PV (.func 305 [] [.ptr h.next 0]) [.slice A.b (64*f) 64 (64*A.n-64*f) 1 fC] aa=some (.int .i64 0,g):=λfC=>by refine ad' (x:=.ret) (vs:=[.int .i64 0]) (first:=[]) (mid:=[_]) (cap:=[_]) ?_ rfl;have aA:=yY aa (id:=A.b) (off:=64*f) (len:=64) (cap:=64*A.n-64*f) (ex:=fC) af (by omega) (by omega);rw[hm f aB]at aA;simp only[aA,ak,RR g2];rfl
 have n1:=uE mv aB aC hw;refine⟨g,adI (x:=.ret) (vs:=[.str 64 (mem f),.int .i64 0]) (first:=[]) (cap:=[]) ?_ rfl,a_.sC _ (Nat.le_refl _)⟩;simp only[Vx,mW];show cd (dU ai h1 9 (.ptr h.next 0) (.str 0 0)) _=_;rw[RR g1,ak];show eM (call ai PV (.func 183 [] []) [.ptr A.p 0,.int .i64 f,.func 305 [] [.ptr h.next 0]] aa) _=_;rw[n1,c1,OW];show cd (bE g h.next 0) _=_;rw[QN,ak]
end
end
def dq(N o w m:Nat) :Nat:=N-bT N o w*2^(8*o) +m*2^(8*o)
theorem parts(N o w:Nat) :N=2^(8*o+8*w) *(N/2^(8*o+8*w)) +(2^(8*o) *bT N o w+N%2^(8*o)):=by unfold bT;rw[Nat.pow_add,<-Nat.div_div_eq_div_mul,Nat.mul_assoc,<-Nat.add_assoc,<-Nat.mul_add,Nat.div_add_mod,Nat.div_add_mod]
theorem ag3(N o w m:Nat) :dq N o w m=2^(8*o+8*w) *(N/2^(8*o+8*w)) +(2^(8*o) *m+N%2^(8*o)):=by
 have h:=parts N o w;unfold dq;have e:bT N o w*2^(8*o)=2^(8*o) *bT N o w:=Nat.mul_comm _ _;have aL:m*2^(8*o)=2^(8*o) *m:=Nat.mul_comm _ _;rw[e,aL];generalize 2^(8*o) *bT N o w=x at*
 generalize 2^(8*o) *m=y at*
 generalize 2^(8*o+8*w) *(N/2^(8*o+8*w))=z at*
 generalize N%2^(8*o)=u at*
 omega
theorem mX(N o w j:Nat) :(bT N o w).testBit j=(decide (j<8*w) &&N.testBit (8*o+j)):=by unfold bT;rw[Nat.testBit_mod_two_pow,Nat.testBit_div_two_pow,Nat.add_comm]
theorem pw{N o w m:Nat}(hm:m<2^(8*w))(j:Nat) :(dq N o w m).testBit j=if 8*o<=j/\j<8*o+8*w then m.testBit (j-8*o)else N.testBit j:=by
 have ar:N%2^(8*o) <2^(8*o):=Nat.mod_lt _ (Nat.two_pow_pos _)
 have af:2^(8*o) *m+N%2^(8*o) <2^(8*o+8*w):=by rw[Nat.pow_add];have:2^(8*o) *(m+1)<=2^(8*o) *2^(8*w):=Nat.mul_le_mul_left _ hm;rw[Nat.mul_add,Nat.mul_one]at this;omega
 rw[ag3,Nat.testBit_two_pow_mul_add _ af,Nat.testBit_two_pow_mul_add _ ar];by_cases h1:j<8*o+8*w
 ·rw[if_pos h1];by_cases aa:j<8*o
  ·rw[if_pos aa,if_neg (by omega),Nat.testBit_mod_two_pow];simp[aa]
  ·rw[if_neg aa,if_pos (by omega)]
 ·rw[if_neg h1,if_neg (by omega),Nat.testBit_div_two_pow];congr 1;omega
theorem vL{N o w m:Nat}(hm:m<2^(8*w)) :bT (dq N o w m) o w=m:=by
 apply Nat.eq_of_testBit_eq;intro j;rw[mX,pw hm];by_cases h:j<8*w
 ·rw[if_pos (by omega)];simp[h]
 ·have:m.testBit j=false:=Nat.testBit_lt_two_pow (Nat.lt_of_lt_of_le hm (Nat.pow_le_pow_right (by omega) (by omega)));simp[h,this]
theorem DB{N o w m bL aM:Nat}(hm:m<2^(8*w))(h:bL+aM<=o\/o+w<=bL) :bT (dq N o w m) bL aM=bT N bL aM:=by
 apply Nat.eq_of_testBit_eq;intro j;rw[mX,mX,pw hm];by_cases az:j<8*aM
 ·rw[if_neg (by omega)]
 ·simp[az]
theorem afF{N b a w m:Nat}(hm:m<2^(8*w))(h:a+w<=64) :bT (dq N (b+a) w m) b 64=dq (bT N b 64) a w m:=by
 apply Nat.eq_of_testBit_eq;intro j;rw[mX,pw hm,pw hm,mX];by_cases az:j<8*64
 ·by_cases aa:8*a<=j/\j<8*a+8*w
  ·rw[if_pos (by omega),if_pos aa];simp only[az,decide_true,Bool.true_and];congr 1;omega
  ·rw[if_neg (by omega),if_neg aa]
 ·rw[if_neg (by omega:¬(8*a<=j/\j<8*a+8*w))];simp[az]
theorem DT{N w a m K:Nat}(gD:N<2^(8*K))(hm:m<2^(8*w))(h:a+w<=K) :dq N a w m<2^(8*K):=by apply Nat.lt_pow_two_of_testBit;intro j az;rw[pw hm,if_neg (by omega)];exact Nat.testBit_lt_two_pow (Nat.lt_of_lt_of_le gD (Nat.pow_le_pow_right (by omega) az))
section
variable{PV:cw} [db PV]
theorem wG{h:ag}{id off len m size N:Nat}{st:Bool}(aE:h.get id=.bytes size st N)(au:off+len<=size) :ox h id off len m=some (h.put id (.bytes size st (dq N off len m))):=by unfold ox;rw[aE];show(bif Nat.ble (off+len) size then some (h.put id (.bytes size st (N-((N>>> (8*off)) %2^(8*len)) <<< (8*off) +m<<< (8*off))))else none)=_;rw[dr.2 au,cond_true,Nat.shiftRight_eq_div_pow,Nat.shiftLeft_eq,Nat.shiftLeft_eq];rfl
theorem FW{h:ag}{id off l len cap m size N:Nat}{ex st:Bool}(aE:h.get id=.bytes size st N)(h0:0<l)(ar:l<=len)(au:off+l<=size) :
  jB ai h 135 (.slice id off len cap 1 ex) (.str l m)=some (.int .i64 l,h.put id (.bytes size st (dq N off l (m%2^(8*l))))):=by
 have aw:ai.ty 135=some pg:=by kernel_rfl
 have bo:ai.ty 5=some ow:=by kernel_rfl
 obtain⟨n,rfl⟩ :∃n,l=n+1:=⟨l-1,by omega⟩;have pL:min (n+1) len=n+1:=Nat.min_eq_left ar;have hw:=wG (m:=m%2^(8*(n+1))) aE au;unfold jB;rw[aw]
 show(match ai.ty 5 with
  |none=>none
  |some ie=>
  match min (n+1) len with
  |0=>some (J.int .i64 (.ofNat 0),h)
  |k+1=>bif Nat.beq 1 ie.size then
   match hF ie.desc with
   |true=>bif Nat.beq ie.size 1 then match yT h (.str (n+1) m) (k+1)with
    |some new=>match ox h id off (k+1) new with
     |some h=>some (J.int .i64 (.ofNat (k+1)),h)
     |none=>none
    |none=>none else none
   |false=>none
   else none)=_
 rw[bo,pL]
 show(match ox h id off (n+1) (m%2^(8*(n+1)))with
  |some h=>some (J.int .i64 (.ofNat (n+1)),h)
  |none=>none)=_
 rw[hw];rfl
section
variable{h:ag}{A:fB}{mem held:Nat->Nat}{free:Nat}
theorem dw.Dw(aD:dw h A mem held free){f:Nat}(aB:f<A.n) :mem f<2^(8*64):=by obtain⟨st,N,_,hm⟩:=aD.bytes;rw[<-hm f aB];exact ky _ _ _
theorem D9(aD:dw h A mem held free){f a w m:Nat}(aB:f<A.n)(eb:a+w<=64)(hm:m<2^(8*w)){N:Nat}{st:Bool}(aE:h.get A.b=.bytes (64*A.n) st N)(gD:∀f,f<A.n->bT N (64*f) 64=mem f) :
  dw (h.put A.b (.bytes (64*A.n) st (dq N (64*f+a) w m))) A (aq mem f (dq (mem f) a w m)) held free where
 n:=aD.n
 lt:=aD.lt
 ne:=aD.ne
 str:=let⟨aw,aL,o⟩:=aD.str;⟨aw,aL,o.o6 (nM aD.ne.1)⟩
 bytes:=⟨st,_,kR _ _ _,λj az=>by
  by_cases e:j=f
  ·subst e;rw[afF hm eb,gD j az];exact(if_pos rfl).symm
  ·rw[DB hm (by omega),gD j az]
   exact(if_neg e).symm⟩
 arr:=aD.arr.o6 (nM (λe=>aD.ne.2.2 e.symm))
theorem Wi(l n:Nat) :h3 ai 9 (.str l n)=some (λid=>J.ptr id 0,eY (.str l n)):=by kernel_rfl
theorem MK(aD:dw h A mem held free){f m:Nat}(aB:f<A.n)(aC:held f≠0)(hm:m<2^(8*64)) :
  ∃g,call ai PV (.func 319 [] []) [.ptr A.p 0,.int .i64 f,.str 64 m] h=some (.int .i64 0,g)/\dw g A (aq mem f m) held free/\aF (λi=>i=A.b) h g:=by
 let h1:=h.new (eY (.str 64 m));have aW:aX h h1:=aF.new _ _ _;have zI:dw h1 A mem held free:=aD.aq aW ⟨λe=>e,λe=>e,λe=>e⟩;obtain⟨st,N,af,gD⟩:=zI.bytes;have nY:=D9 zI (a:=0) (w:=64) aB (by omega) hm af gD
 have e:dq (mem f) 0 64 m=m:=by have:=vL (N:=mem f) (o:=0) hm;unfold bT at this;simp only[Nat.mul_zero,Nat.pow_zero,Nat.div_one]at this;rw[Nat.mod_eq_of_lt (DT (aD.Dw aB) hm (by omega))]at this;exact this
 rw[e,Nat.add_zero]at nY;refine⟨_,?_,nY,(aW.mono λi _ e=>e.elim).trans (aF.put _ rfl)⟩
 have hw:∀fC,call ai PV (.func 379 [] [.ptr h.next 0]) [.slice A.b (64*f) 64 (64*A.n-64*f) 1 fC] h1=some (.int .i64 0,h1.put A.b (.bytes (64*A.n) st (dq N (64*f) 64 m))):=λfC=>by refine ael (x:=.ret) (vs:=[.int .i64 0]) (first:=[]) (mid:=[_]) (cap:=[_]) ?_ rfl;have cg:bE h1 h.next 0=some (.str 64 m):=qW _ _;have aA:=FW (id:=A.b) (off:=64*f) (l:=64) (len:=64) (cap:=64*A.n-64*f) (m:=m) (ex:=fC) af (by omega) (by omega) (by omega);rw[Nat.mod_eq_of_lt hm]at aA;simp only[OW,cg,ak,xO,dc,a1];simp only[aA,c1];simp
 have n1:=uE zI aB aC hw;refine aee (x:=.ret) (vs:=[.int .i64 0]) (first:=[]) (cap:=[]) ?_ rfl;simp only[Wi,mW];show eM (call ai PV (.func 183 [] []) [.ptr A.p 0,.int .i64 f,.func 379 [] [.ptr h.next 0]] h1) _=_;rw[n1];rfl
end
end
section
variable{PV:cw} [db PV]
theorem afd(w:Nat)(hw:w<=1048576) :kW ai 135 (.int .i64 w) (.int .i64 w)=some (λid=>J.slice id 0 w w 1 true,.bytes w false 0):=by
 have aw:ai.ty 135=some pg:=by kernel_rfl
 have bo:ai.ty 5=some ow:=by kernel_rfl
 have:xR ai 135 (.int .i64 w) (.int .i64 w)=some (w,w,1,.bytes w false 0):=by
  unfold xR;rw[aw]
  show(match ai.ty 5 with
   |some ie=>
    bif Nat.ble w w&&Nat.ble (ie.bytes*w) 140737488355328&&Nat.ble 1 ie.bytes then
     match hF ie.desc,ie.zero with
     |true,[.int .u8 (.ofNat 0)]=>some (w,w,ie.size,bp.bytes w false 0)
     |_,_=>some (w,w,ie.size,.cells (w*ie.size) false ie.zero .nil)
    else none
   |none=>none)=_
  rw[bo];show(bif Nat.ble w w&&Nat.ble (1*w) 140737488355328&&Nat.ble 1 1 then some (w,w,1,bp.bytes w false 0)else none)=_;rw[dr.2 (Nat.le_refl w),dr.2 (show 1*w<=140737488355328 by omega)];rfl
 unfold kW;rw[this]
theorem Md(h:ag)(n:Int) :fS ai h 67 5 (.int .u64 n)=some (.int .u8 (bF .u8 n)):=by
 have aw:ai.ty 67=some uz:=by kernel_rfl
 have aL:ai.ty 5=some ow:=by kernel_rfl
 simp only[fS,aw,aL];rfl
theorem OX(h:ag)(id off len cap cu:Nat)(ex:Bool) :eW ai h 135 (.slice id off len cap cu ex)=some (.int .i64 len):=by
 have e:ai.ty 135=some pg:=by kernel_rfl
 simp only[eW,e];rfl
theorem Dc{id off len cap:Nat}{ex:Bool}(n:Nat)(al:n<len) :eV ai 135 (.slice id off len cap 1 ex) (.int .i64 n)=some (.ptr id (off+n)):=by
 have aw:ai.ty 135=some pg:=by kernel_rfl
 have aL:ai.ty 5=some ow:=by kernel_rfl
 have:mB (n:Int) len=some n:=by show(bif Nat.blt n len then some n else none)=some n;rw[c4.2 al];rfl
 simp only[eV,aw];show(match ai.ty 5,mB (n:Int) len with|some ie,some j=>bif Nat.beq ie.size 1 then some (J.ptr id (off+j*1))else none|_,_=>none)=_;rw[aL,this];show some (J.ptr id (off+n*1))=_;rw[Nat.mul_one]
theorem RP{h:ag}{id off size N b:Nat}{st:Bool}(aE:h.get id=.bytes size st N)(aY:off<size)(af:b<256) :dU ai h 5 (.ptr id off) (.int .u8 b)=some (h.put id (.bytes size st (dq N off 1 b))):=by
 have e:ai.ty 5=some ow:=by kernel_rfl
 simp only[dU,storeT,e];show jc h id off [J.int .u8 (.ofNat b)]=_;unfold jc;rw[aE];simp only[bp.writes,bp.write,c4.2 aY,c4.2 af,Bool.and_true,cond_true];have aw:cC N off=bT N off 1:=hP N off;rw[aw,Nat.shiftLeft_eq,Nat.shiftLeft_eq];rfl
theorem afD(N bits i w:Nat)(h:N=bT bits 0 i) :dq N i 1 (cC bits i)=bT bits 0 (i+1):=by
 subst h;apply Nat.eq_of_testBit_eq;intro j;have af:cC bits i<2^(8*1):=nJ bits i;have aw:cC bits i=bT bits i 1:=hP bits i;rw[pw af,mX,mX,aw,mX];by_cases h1:8*i<=j/\j<8*i+8*1
 ·rw[if_pos h1];simp only[show j-8*i<8*1 by omega,show j<8*(i+1)by omega,decide_true,Bool.true_and];congr 1;omega
 ·rw[if_neg h1];by_cases aa:j<8*i
  ·simp[aa,show j<8*(i+1)by omega]
  ·simp[aa,show¬j<8*(i+1)by omega]
theorem ag6(h:ag){bits w:Nat}(af:bits<2^64)(h1:1<=w)(dR:w<=8) :∃g,call ai PV (.func 214 [] []) [.int .u64 bits,.int .i64 w] h=some (.str w (bT bits 0 w),g)/\aX h g:=by
 have XQ:jH (.int .i64 w) [.int .i64 0]=some (.int .i64 w):=by
  have:mE (w:Int) 0=false:=by rw[oa];simp
  simp only[jH,this,cond_false]
 have XR:jI (.int .i64 w) [.int .i64 8]=some (.int .i64 w):=by
  have:mE (8:Int) w=false:=by rw[oa];simp;omega
  simp only[jI,this,cond_false]
 let I:Nat->List J->ag->Prop:=λi vs g=>vs=[.int .i64 i]/\g.get h.next=.bytes w false (bT bits 0 i)/\aX h g
 let Q:cW->List J->ag->Prop:=λx vs g=>x=.exit 0/\vs=[.int .i64 w]/\g.get h.next=.bytes w false (bT bits 0 w)/\aX h g
 have z:bT bits 0 0=0:=by simp[bT,Nat.mod_one]
 have Za:I 0 [.int .i64 0] (h.new (.bytes w false 0)):=⟨rfl,by rw[mf,z],aF.new _ _ _⟩
 obtain⟨x,vs,g,ar,rfl,rfl,aE,hu⟩:=Po I w Q (k:=14) (by omega) (f:=λEY aa=>
  kc EY λv5 fI=>k6 fI (
  cd (cV ai aa .lss 3 v5 (.int .i64 w)) λv6=>
  j' v6 (
  cd (cV ai aa .mul 3 (.int .i64 8) v5) λyD=>
  cd (cV ai aa .shr 67 (.int .u64 bits) yD) λpk=>
  cd (fS ai aa 67 5 pk) λv9=>
  cd (eV ai 135 (.slice h.next 0 w w 1 true) v5) λv10=>
  cd (dU ai aa 5 v10 v9) λaO=>
  cd (cV ai aO .add 3 v5 (.int .i64 1)) λv11=>
  some (.normal,[v11],aO)) (
  some ((.exit 0),[v5],aa)))) (by
   rintro i vs g U ⟨rfl,aE,hu⟩;by_cases bK:i<w
   ·refine .inl ⟨bK,[.int .i64 ((i+1:Nat) :Int)],g.put h.next (.bytes w false (dq (bT bits 0 i) i 1 (cC bits i))),?_,rfl,?_,hu.sC _ (Nat.le_refl _)⟩
    ·have aw:(i:Int) <w:=by omega
     have eh:bF .i64 (8*(i:Int))=Int.ofNat (8*i):=by rw[wrap_i64 (by omega) (by omega)];simp
     have e6:bF .i64 ((i:Int) +1)=((i+1:Nat) :Int):=by rw[wrap_i64 (by omega) (by omega)];simp
     have hm:min (8*i) IntKind.u64.bits=8*i:=Nat.min_eq_left (by show 8*i<=64;omega)
     have jC:((bits:Int)).fdiv (2^(8*i))=((bits/2^(8*i) :Nat) :Int):=by
      have:((2:Int) ^(8*i))=((2^(8*i) :Nat) :Int):=by simp
      rw[this,Int.fdiv_eq_ediv_of_nonneg _ (Int.natCast_nonneg _),<-Int.natCast_ediv]
     have oH:bF .u8 ((bits/2^(8*i) :Nat) :Int)=((cC bits i:Nat) :Int):=by rw[nA,hP];simp only[IntKind.wrap,IntKind.bits,IntKind.signed];simp
     have es:=RP aE bK (nJ bits i);simp only[bn,bd,cQ,ak,a1,decide_eq_true_eq,if_pos aw,k',eh,LF,hm,jC,Md,oH,Dc i bK,Nat.zero_add,es,cP,e6]
    ·rw[kR,afD _ bits i w rfl]
   ·obtain rfl:i=w:=by omega
    have aw:¬(i:Int) <i:=by omega
    exact .inr ⟨.exit 0,[.int .i64 i],g,by simp,by simp only[bn,bd,cQ,ak,a1,decide_eq_true_eq,if_neg aw],rfl,rfl,aE,hu⟩) Za
 refine⟨g,adD (x:=.ret) (vs:=[.str w (bT bits 0 w)]) (first:=[]) (cap:=[]) ?_ rfl,hu⟩;have aA:=yY g (id:=h.next) (off:=0) (len:=w) (cap:=w) (ex:=true) aE (by omega) (by omega);have eK:bT (bT bits 0 w) 0 w=bT bits 0 w:=by unfold bT;simp
 rw[eK]at aA;dsimp only;simp only[XQ,XR,ak,afd w (by omega),mW,OX];rw[ar];simp[aA]
theorem US{h:ag}(hw:jV h){k:Nat}(aj:qT k){bits:Nat}(af:bits<2^64) :∃g,call ai PV (.func 252 [] []) [.int .i64 k,.int .u64 bits] h=some (.str (bM k) (bT bits 0 (bM k)),g)/\aX h g:=by
 have pI:k<10:=by rcases aj with rfl|rfl|rfl|rfl<;>omega
 obtain⟨bV,kF⟩:=s7 (k:=k);obtain⟨g,aD,hu⟩:=ag6 h af bV kF;refine⟨g,adY (x:=.ret) (vs:=[.str (bM k) (bT bits 0 (bM k))]) (first:=[]) (cap:=[]) ?_ rfl,hu⟩;simp only[yG hw k pI,yF aj,c1,aD]
theorem Wh(n:Int) :h3 ai 67 (.int .u64 n)=some (λid=>J.ptr id 0,eY (.int .u64 n)):=by kernel_rfl
section
variable{h:ag}{A:fB}{mem held:Nat->Nat}{free:Nat}
theorem RW(hw:jV h)(aD:dw h A mem held free)(alO:A.b≠0){k:Nat}(aj:qT k){f:Nat}(aB:f<A.n)(aC:held f≠0){at':Nat}(eb:at'+bM k<=64){bits:Nat}(af:bits<2^64) :
  ∃g,call ai PV (.func 167 [] []) [.ptr A.p 0,.int .i64 f,.int .i64 at',.int .i64 k,.int .u64 bits] h=some (.int .i64 0,g)/\dw g A (aq mem f (dq (mem f) at' (bM k) (bT bits 0 (bM k)))) held free/\aF (λi=>i=A.b) h g:=by
 have al:=aD.n;obtain⟨bV,kF⟩:=s7 (k:=k);obtain⟨a_,cg,cK,dS⟩:=Ko h (.int .i64 k) (.int .u64 bits);let aa:=(h.new (eY (.int .i64 k))).new (eY (.int .u64 bits));let aO:=aa.new (eY (.int .i64 at'));let bb:=aO.new (eY (.int .i64 k));let cp:=bb.new (eY (.func 251 [] [.ptr h.next 0,.ptr (h.next+1) 0]));have bA:aX h aO:=aF.trans a_ (aF.new _ _ _);have bZ:aX h bb:=bA.trans (aF.new _ _ _);have b3:aX h cp:=bZ.trans (aF.new _ _ _);have dM:aX h (cp.aV 8):=b3.trans (aF.aV _ _ _);have cM:aa.next=h.next+2:=rfl;have gb:aO.next=h.next+3:=rfl;have n5:bb.next=h.next+4:=rfl;have n6:cp.next=h.next+5:=rfl;have sD:bE (cp.aV 8) h.next 0=some (.int .i64 k):=by rw[cT,k1 (by omega),k1 (by omega),k1 (by omega)];exact cg
 have vT:bE (cp.aV 8) (h.next+1) 0=some (.int .u64 bits):=by rw[cT,k1 (by omega),k1 (by omega),k1 (by omega)];exact cK
 have gi:bE cp aO.next 0=some (.int .i64 k):=by rw[k1 (by omega),qW]
 have hH:bE cp aa.next 0=some (.int .i64 at'):=by rw[k1 (by omega),k1 (by omega),qW]
 have g_:bE cp bb.next 0=some (.func 251 [] [.ptr h.next 0,.ptr (h.next+1) 0]):=qW _ _;have zL:dw cp A mem held free:=aD.aq b3 ⟨λe=>e,λe=>e,λe=>e⟩;obtain⟨g8,HA,u8⟩:=US (hw.aq dM (λe=>e)) aj af;have e2:aX h g8:=dM.trans u8;have NX:dw g8 A mem held free:=aD.aq e2 ⟨λe=>e,λe=>e,λe=>e⟩;obtain⟨st,N,tD,gD⟩:=NX.bytes;have nY:=D9 NX (a:=at') (w:=bM k) aB eb (ky bits 0 (bM k)) tD gD;refine⟨_,?_,nY,(e2.mono λi _ e=>e.elim).trans (aF.put _ rfl)⟩
 have ar:∀ex,call ai PV (.func 251 [] [.ptr h.next 0,.ptr (h.next+1) 0]) [.slice A.b (64*f+at') (bM k) (64*A.n-64*f-at') 1 ex] (cp.aV 8)=some (.undef,g8.put A.b (.bytes (64*A.n) st (dq N (64*f+at') (bM k) (bT bits 0 (bM k))))):=λex=>by refine adX (x:=.ret) (vs:=[]) (first:=[]) (mid:=[_]) (cap:=[_,_]) ?_ rfl;have aA:=FW (id:=A.b) (off:=64*f+at') (l:=bM k) (len:=bM k) (cap:=64*A.n-64*f-at') (m:=bT bits 0 (bM k)) (ex:=ex) tD (by omega) (Nat.le_refl _) (by omega);rw[Nat.mod_eq_of_lt (ky bits 0 (bM k))]at aA;simp only[ig,OV,sD,vT,ak,HA,c1,aA]
 have aA:∀ex,call ai PV (.func 253 [] [.ptr aO.next 0,.ptr aa.next 0,.ptr bb.next 0]) [.slice A.b (64*f) 64 (64*A.n-64*f) 1 ex] cp=some (.int .i64 0,_):=λex=>
  Lw (hw.aq b3 (λe=>e)) aj gi hH g_ eb (by omega) (ar ex)
 have n1:=uE zL aB aC aA
 have u9:call ai PV (.func 168 [] []) [.ptr A.p 0,.int .i64 f,.int .i64 at',.int .i64 k,.func 251 [] [.ptr h.next 0,.ptr (h.next+1) 0]] aa=some (.int .i64 0,g8.put A.b (.bytes (64*A.n) st (dq N (64*f+at') (bM k) (bT bits 0 (bM k))))):=by refine O2 (x:=.ret) (vs:=[.int .i64 0]) (first:=[]) (cap:=[]) ?_ rfl;simp only[uJ,LI,mW];show eM (call ai PV (.func 183 [] []) [.ptr A.p 0,.int .i64 f,.func 253 [] [.ptr aO.next 0,.ptr aa.next 0,.ptr bb.next 0]] cp) _=_;rw[n1];rfl
 refine adl (x:=.ret) (vs:=[.int .i64 0]) (first:=[]) (cap:=[]) ?_ rfl;simp only[uJ,Wh,mW,ig];show cd (bE aa h.next 0) _=_;rw[cg,ak];show eM (call ai PV (.func 168 [] []) [.ptr A.p 0,.int .i64 f,.int .i64 at',.int .i64 k,.func 251 [] [.ptr h.next 0,.ptr (h.next+1) 0]] aa) _=_;rw[u9];rfl
end
end
section
variable{PV:cw} [db PV]
theorem WX{h:ag}{id off len cap size N:Nat}{ex st:Bool}(aE:h.get id=.bytes size st N)(h0:0<len)(au:off+len<=size) :
  jh ai h 135 (.slice id off len cap 1 ex)=some (h.put id (.bytes size st (dq N off len 0))):=by
 have aw:ai.ty 135=some pg:=by kernel_rfl
 have bo:ai.ty 5=some ow:=by kernel_rfl
 obtain⟨n,rfl⟩ :∃n,len=n+1:=⟨len-1,by omega⟩;have hw:=wG (m:=0) aE au;unfold jh;rw[aw]
 show(match ai.ty 5 with
  |none=>none
  |some ie=>bif Nat.beq 1 ie.size then match hF ie.desc,ie.zero with
   |true,[.int .u8 (.ofNat 0)]=>bif Nat.beq ie.size 1 then ox h id off (n+1) 0 else none
   |_,_=>bif Nat.ble 1 ie.size then jc h id off (iH (n+1) ie.zero)else none else none)=_
 rw[bo];exact hw
section
variable{h:ag}{A:fB}{mem held:Nat->Nat}{free:Nat}
theorem R3(aD:dw h A mem held free)(eT:free≠0)(qB:free<2^60){f:Nat}(aB:f<A.n)(aI:held f=0)(ar:∀j,j<f->held j≠0) :
  ∃g,call ai PV (.func 159 [] []) [.ptr A.p 0] h=some (.tuple [.int .i64 f,.int .i64 0],g)/\dw g A (aq mem f 0) (aq held f 1) (free-1)/\aF (λi=>i=A.b\/i=A.q\/i=A.p) h g:=by
 have al:=aD.n;obtain⟨ex,ay⟩:=aD.f1;obtain⟨fC,Z_⟩:=Gv aD aB;obtain⟨st,N,af,gD⟩:=aD.bytes;have nY:=D9 aD (a:=0) (w:=64) (m:=0) aB (by omega) (Nat.two_pow_pos _) af gD
 have e:dq (mem f) 0 64 0=0:=by have:=vL (N:=mem f) (o:=0) (w:=64) (m:=0) (Nat.two_pow_pos _);unfold bT at this;simp only[Nat.mul_zero,Nat.pow_zero,Nat.div_one]at this;rw[Nat.mod_eq_of_lt (DT (aD.Dw aB) (Nat.two_pow_pos _) (by omega))]at this;exact this
 rw[e,Nat.add_zero]at nY;obtain⟨g2,s2,mv,a_⟩:=JH nY aB 1;obtain⟨g3,du,nV,bw⟩:=Rt mv (free-1);refine⟨g3,?_,nV,((aF.put _ (.inl rfl)).trans (a_.mono λi _ e=>.inr (.inl e))).trans (bw.mono λi _ e=>.inr (.inr e))⟩;have aA:=WX (id:=A.b) (off:=64*f) (len:=64) (cap:=64*A.n-64*f) (ex:=fC) af (by omega) (by omega);obtain⟨hg,aa_⟩:=nY.f1;have Z9:=mv.f2;have aw:bF .i64 ((free:Int) -1)=((free-1:Nat) :Int):=by rw[wrap_i64 (by omega) (by omega)];omega
 have oI:¬(free:Int)=0:=by omega
 refine O1 (x:=.ret) (vs:=[.int .i64 f,.int .i64 0]) (first:=[]) (cap:=[]) ?_ rfl;dsimp only;simp only[x5,ak,a1,Bool.false_eq_true,if_false,b2,w_,tu,Nat.zero_add,ig,tT,aD.f2,ay,c2,decide_eq_true_eq,if_neg oI,Ds];rw[Pn (λi=>([J.int .i64 0,.int .i64 (i:Nat)],h)) f (x:=.exit 0) (vs:=[.int .i64 f,.int .i64 f]) (vs0:=[.int .i64 0,.int .i64 0]) (h0:=h) (g:=h) (by simp) (by omega) (by simp) rfl]
 ·simp only[cO,bn,bd,fZ,if_true,Z_,c1,aA,ak,b2,tu,w_,tT,aa_,tP f aB,Nat.zero_add];rw[show((1:Int))=((1:Nat) :Int)by rfl];simp only[s2,ak,ig,Z9,e4];rw[show(((1:Nat) :Int))=(1:Int)by rfl];simp only[aw,du,ak]
 ·intro i U;have aL:(i:Int) <A.n:=by omega
  have bo:¬(held i:Int)=0:=by have:=ar i U;omega
  have e6:bF .i64 ((i:Int) +1)=((i+1:Nat) :Int):=by rw[wrap_i64 (by omega) (by omega)];simp
  simp only[bn,bd,cQ,ak,a1,decide_eq_true_eq,if_pos aL,tP i (show i<A.n by omega),Nat.zero_add,ig,aD.hold i (by omega),c2,if_neg bo,cP,e6]
 ·have aL:(f:Int) <A.n:=by omega
  have bo:(held f:Int)=0:=by omega
  simp only[bn,bd,cQ,ak,a1,decide_eq_true_eq,if_pos aL,tP f aB,Nat.zero_add,ig,aD.hold f aB,c2,if_pos bo]
end
section
variable{h:ag}{A:fB}{mem held:Nat->Nat}{free:Nat}
theorem ai4(aD:dw h A mem held 0) :call ai PV (.func 159 [] []) [.ptr A.p 0] h=some (.tuple [.int .i64 0,.int .i64 18],h):=by refine O1 (x:=.ret) (vs:=[.int .i64 0,.int .i64 18]) (first:=[]) (cap:=[]) ?_ rfl;have:=aD.f2;simp[x5,w_,ig,this]
end
end
end Go.Proofs.YtkdjcmpgnkecfaaGreatDoor
namespace Go.a6
section
variable{E:Env}{p:cw}
theorem iM.step{ro:Option Nat}{c:Code}{s aS:cl}{x:cW}{k:Nat}(h:fR E (fns E p k) ro c s=some (x,aS)) :iM E p ro c s x aS:=⟨k+1,h⟩
theorem iM.mono{ro:Option Nat}{c:Code}{s aS:cl}{x:cW}(h:iM E p ro c s x aS) :∃m,∀k,m<=k->(fns E p k).code ro c s=some (x,aS):=by obtain⟨m,hm⟩:=h;exact⟨m,λk aj=>(tv E p aj).code _ _ _ _ hm⟩
theorem WQ{f:J}{args:List J}{h:ag}{r:J×ag}(aA:call E p f args h=some r) :∃m,∀k,m<=k->(fns E p k).call f args h=some r:=by obtain⟨m,hm⟩:=tm.1 aA;exact⟨m,λk aj=>(tv E p aj).call _ _ _ _ hm⟩
theorem zh{ro:Option Nat}{a b:Code}{s s1 s2:cl}{x:cW}(h1:iM E p ro a s .normal s1)(aa:iM E p ro b s1 x s2) :iM E p ro (.seq a b) s x s2:=by obtain⟨cA,g1⟩:=h1.mono;obtain⟨cM,g2⟩:=aa.mono;refine iM.step (k:=max cA cM) ?_;unfold fR;dsimp only;rw[g1 _ (Nat.le_max_left _ _)];exact g2 _ (Nat.le_max_right _ _)
theorem Y3{ro:Option Nat}{i:Nat}{a:Code}{s s1:cl}{x:cW}(h1:iM E p ro a s x s1)(ab:x=.normal\/x=.ret) :iM E p ro (.block i a) s x s1:=by obtain⟨cA,g1⟩:=h1.mono;refine iM.step (k:=cA) ?_;unfold fR;dsimp only;rw[g1 _ (Nat.le_refl _)];rcases ab with rfl|rfl<;>rfl
theorem Y5{s:cl}{f:Operand}{fv:J}{params:Array Tmp}{assign body:Code}(CB:dk E s.r f=some fv){v:J}{h1:ag}
  (aA:call E p fv [.yield (s.h.next+1)] ((s.h.new .deferred).new (.loop .ready none s.n s.r params assign body s.h.next))=some (v,h1))
  {st:LoopState} {pend:Option Code} {n:Nat} {r:bl} {ps:Array Tmp} {a b:Code} {d:Nat} (ar:h1.get (s.h.next+1)=.loop st pend n r ps a b d) (dy:st≠.busy)
  {x:cW} {s2:cl} (aD:match pend with
    |none=>x=.normal/\s2={s with h:=h1.put (s.h.next+1) (.loop .exhausted pend n r ps a b d),ds:=s.h.next::s.ds}
    |some c=>iM E p none c {s with h:=h1.put (s.h.next+1) (.loop .exhausted pend n r ps a b d),ds:=s.h.next::s.ds} x s2) :
  iM E p none (.rangeFunc f params assign body) s x s2:=by
 obtain⟨cA,g1⟩:=WQ aA;cases pend with
 |none=>
  obtain⟨rfl,rfl⟩:=aD;refine iM.step (k:=cA) ?_;unfold fR;dsimp only;rw[CB];dsimp only[AA];unfold ue;dsimp only[xW];rw[g1 _ (Nat.le_refl _)];dsimp only;rw[ar];cases st<;>first|rfl|contradiction
 |some c=>
  obtain⟨cM,g2⟩:=iM.mono aD;refine iM.step (k:=max cA cM) ?_;unfold fR;dsimp only;rw[CB];dsimp only[AA];unfold ue;dsimp only[xW];rw[g1 _ (Nat.le_max_left _ _)];dsimp only;rw[ar];have:=g2 _ (Nat.le_max_right cA cM);cases st<;>first|exact this|contradiction
def ak_(x:cW)(n:Nat)(r:bl)(ps:Array Tmp)(a b:Code)(d:Nat) :bp:=match x with
 | .normal=>.loop .ready none n r ps a b d
 | .exit i=>.loop .done (some (.exit i)) n r ps a b d
 | .goto g=>.loop .done (some (.goto g)) n r ps a b d
 | .ret=>.loop .done (some .ret) n r ps a b d
def ach:cW->Bool
 | .normal=>true
 |_=>false
theorem WR{l:Nat}{g:ag}{Au:Option Code}{n:Nat}{r b9:bl}{params:Array Tmp}{assign body:Code}{d:Nat}(aE:g.get l=.loop .ready Au n r params assign body d){args:List J}(aD:vZ params.toList args n r=some b9)
  {s1 s2:cl} {x:cW} (aU:iM E p (some l) assign {r:=b9,n,ds:=[],h:=g} .normal s1)
  (aab:s1.h.get l=.loop .ready Au n r params assign body d)
  (af:iM E p (some l) body {s1 with h:=s1.h.put l (.loop .busy Au n r params assign body d)} x s2) (xj:s2.ds=[])
  (zu:s2.h.get l=.loop .busy Au n r params assign body d) :
  call E p (.yield l) args g=some (.bool (ach x),s2.h.put l (ak_ x n r params assign body d)):=by
 obtain⟨cA,g1⟩:=aU.mono;obtain⟨cM,g2⟩:=af.mono;refine tm.2 ⟨max cA cM+1,?_⟩;show oG E p (fns E p (max cA cM)) (.yield l) args g=_;unfold oG;dsimp only;unfold km;dsimp only;rw[aE];dsimp only;rw[aD];dsimp only;rw[g1 _ (Nat.le_max_left _ _)];dsimp only;rw[aab];dsimp only;rw[g2 _ (Nat.le_max_right _ _)];dsimp only;rw[zu,xj];cases x<;>rfl
theorem WO{f:FuncId}{fn:Func}(aB:E.fn f=some fn)(aD:p f=none){c:Code}(aA:fn.body=some c){args:List J}{h g:ag}{x:cW}{s:cl}{vs:List J}
  (aE:iM E p none c {r:=qX args 0 .nil,n:=max fn.ntmps args.length,ds:=[],h} x s) (ab:x=.normal\/x=.ret) (ao:qg s.ds s.h=some g) (ah:k2 E s.r g fn.results.toList=some vs)
  {first mid cap:List J} (he:first++mid++cap=args) :call E p (.func f first cap) mid h=some (iY vs,g):=by
 obtain⟨m,aE⟩:=aE;refine tm.2 ⟨m+1,?_⟩
 have my:km E (fns E p m) (.func f first cap) mid h=some (iY vs,g):=by
  unfold km;dsimp only;rw[aB];dsimp only;rw[aA];dsimp only;rw[he,aE];dsimp only;cases x<;>first|(rcases ab with h|h<;>cases h;done) |skip
  all_goals
   dsimp only;rw[ao];dsimp only;rw[ah];rcases vs with _|⟨v1,_|⟨v2,l⟩⟩<;>rfl
 show oG E p (fns E p m) (.func f first cap) mid h=_;unfold oG;split
 ·rename_i q e;injection e with aw aL bo;subst aw;rw[aD];subst aL bo;exact my
 ·exact my
def tX:List (Nat×J)->bl
 |[]=>.nil
 |(t,v)::l=>(tX l).set t v
theorem vD{r:bl} :∀{l:List (Nat×J)},(∀q,q∈l->bl.get r q.1=q.2)->eE (tX l) r
 |[],_=>λt v h=>by cases h
 |(t,v)::l,h=>eE.set (vD λq ay=>h q (List.mem_cons_of_mem _ ay)) (h (t,v) (List.mem_cons_self ..))
theorem piece{ro:Option Nat}{n:Nat}{Lo:lI}{c:Code}{ρ:bl}{s:cl}{outs:List Tmp}{x:cW}{vs:List J}{g:ag}(ao:den E E (call E p) n Lo c (nj outs) ρ s.h=some (x,vs,g))(aj:eE ρ s.r)(al:s.n=n) :
  ∃aS,iM E p ro c s x aS/\aS.h=g/\aS.n=s.n/\aS.ds=s.ds/\vs=outs.map (bl.get aS.r):=by
 obtain⟨y,aS,a8,w,iR,fN⟩:=Mh ro Lo c _ ρ s _ ao aj al;unfold nj at fN;cases aE:getAll a8 outs with
 |none=>rw[aE]at fN;cases fN
 |some ws=>
  rw[aE]at fN;simp only[Option.some.injEq,Prod.mk.injEq]at fN;obtain⟨rfl,rfl,rfl⟩:=fN;exact⟨aS,w.goes,rfl,w.n,w.ds,xb iR aE⟩
theorem Y0(r:bl)(t:Nat)(v:J) :bl.get (bj.set r t v) t=v:=by unfold bl.get;rw[bj.kq,if_pos rfl]
theorem YZ(r:bl){t k:Nat}(v:J)(h:k≠t) :bl.get (bj.set r t v) k=bl.get r k:=by unfold bl.get;rw[bj.kq,if_neg h]
end
def We(f:Func) :Code:=match f.body with
 |some c=>c
 |none=>.skip
def gA:Code->Code
 | .seq a _=>a
 | .block _ a=>a
 | .rangeFunc _ _ a _=>a
 |c=>c
def fL:Code->Code
 | .seq _ b=>b
 | .rangeFunc _ _ _ b=>b
 |c=>c
end Go.a6
namespace Go.Proofs.YtkdjcmpgnkecfaaGreatDoor
open Go.a6
section
variable{PV:cw} [db PV]
theorem bN.ex{o:Option (J×ag)}{v:J}{P:ag->Prop}(h:∃g,o=some (v,g)/\P g) :bN o λw g=>w=v/\P g:=let⟨g,e,q⟩:=h;⟨v,g,e,rfl,q⟩
structure fh(h:ag)(A:fB)(mem held:Nat->Nat)(free:Nat) :Prop where
 w:jV h
 p:dw h A mem held free
 j_:A.p≠0/\A.b≠0/\A.q≠0
def hn(A:fB)(i:Nat) :Prop:=i=A.b\/i=A.q\/i=A.p
section
variable{h g:ag}{A:fB}{mem held:Nat->Nat}{free:Nat}
theorem fh.ca(s:fh h A mem held free){S:Nat->Prop}(u:aF S h g)(au:¬S A.p/\¬S A.b/\¬S A.q/\¬S 0) :fh g A mem held free:=⟨s.w.aq u au.2.2.2,s.p.aq u ⟨au.1,au.2.1,au.2.2.1⟩,s.j_⟩
theorem fh.ext(s:fh h A mem held free)(u:aX h g) :fh g A mem held free:=s.ca u ⟨λe=>e,λe=>e,λe=>e,λe=>e⟩
theorem fh.wid{S:Nat->Prop}(s:fh h A mem held free)(u:aF S h g)(au:¬S 0) :jV g:=s.w.aq u au
theorem fh.I_(s:fh h A mem held free) :¬hn A 0:=by
 rintro(e|e|e)
 ·exact s.j_.2.1 e.symm
 ·exact s.j_.2.2 e.symm
 ·exact s.j_.1 e.symm
theorem fh.lt(s:fh h A mem held free){i:Nat}(U:hn A i) :i<h.next:=by have:=s.p.lt;rcases U with e|e|e<;>omega
end
@[simp] theorem alF (a b:Nat) :(J.ptr a b).cells=[J.ptr a b]:=rfl
theorem DL{a b:Nat}(aU:a<2^64)(af:b<2^64) :pT .u64 (a:Int) (b:Int)=((a|||b:Nat) :Int):=by
 unfold pT
 have e:(BitVec.ofInt IntKind.u64.bits (a:Int) |||BitVec.ofInt IntKind.u64.bits (b:Int)).toNat=a|||b:=by rw[BitVec.toNat_or,BitVec.ofInt_natCast,BitVec.ofInt_natCast,BitVec.toNat_ofNat,BitVec.toNat_ofNat];show a%2^64|||b%2^64=_;rw[Nat.mod_eq_of_lt aU,Nat.mod_eq_of_lt af]
 rw[e,<-nA];have:a|||b<2^64:=Nat.or_lt_two_pow aU af;exact wrap_u64 (by omega) (by omega)
def dB(b:Bool)(n:Nat) :Nat:=if b then n else 0
def oh(s:ba) :Nat:=16*s.n.toNat+(((dB s.here 1|||dB s.write 2) |||dB s.copy 4) |||dB s.out 8)
theorem agO(n:Nat)(a b c d:Bool) :(((n*16|||dB a 1) |||dB b 2) |||dB c 4) |||dB d 8=16*n+(((dB a 1|||dB b 2) |||dB c 4) |||dB d 8):=by
 have ar:(((dB a 1|||dB b 2) |||dB c 4) |||dB d 8) <2^4:=by cases a<;>cases b<;>cases c<;>cases d<;>decide
 have:=Nat.two_pow_add_eq_or_of_lt ar n;rw[show(16:Nat)=2^4 by rfl,this,Nat.mul_comm n,Nat.or_assoc,Nat.or_assoc,Nat.or_assoc,Nat.or_assoc,Nat.or_assoc]
theorem UF{s:ba}(h:s.may=true) :kD (oh s)=s/\oh s<2^64:=by
 obtain⟨a,b,c,d,n⟩:=s;have hm:=h;simp[ba.may]at h;obtain⟨⟨⟨h1,aa⟩,av⟩,aO⟩:=h;obtain⟨m,rfl⟩:=Int.eq_ofNat_of_zero_le aa;have ar:(((dB a 1|||dB b 2) |||dB c 4) |||dB d 8) <16:=by cases a<;>cases b<;>cases c<;>cases d<;>decide
 have ay:oh ⟨a,b,c,d,(m:Int)⟩ /16=m:=by unfold oh;simp only[Int.toNat_natCast];omega
 have aD:oh ⟨a,b,c,d,(m:Int)⟩=2^4*m+(((dB a 1|||dB b 2) |||dB c 4) |||dB d 8):=rfl
 have aN:∀j,j<4->(oh ⟨a,b,c,d,(m:Int)⟩).testBit j=(((dB a 1|||dB b 2) |||dB c 4) |||dB d 8).testBit j:=λj az=>by rw[aD,Nat.testBit_two_pow_mul_add _ ar,if_pos az]
 refine⟨?_,by rw[aD];omega⟩;unfold kD;rw[ay,if_neg (by omega),aN 0 (by omega),aN 1 (by omega),aN 2 (by omega),aN 3 (by omega)]
 have e:(⟨(((dB a 1|||dB b 2) |||dB c 4) |||dB d 8).testBit 0,(((dB a 1|||dB b 2) |||dB c 4) |||dB d 8).testBit 1,(((dB a 1|||dB b 2) |||dB c 4) |||dB d 8).testBit 2,(((dB a 1|||dB b 2) |||dB c 4) |||dB d 8).testBit 3,(m:Int)⟩ :ba)=⟨a,b,c,d,m⟩:=by cases a<;>cases b<;>cases c<;>cases d<;>rfl
 dsimp only;rw[e,if_pos hm]
theorem akl:kD 0=.zero:=by simp[kD,ba.may,ba.zero]
theorem aj9{m i bits:Nat}(U:i<8)(af:bits<2^64) :wP m (dq m (8*i) 8 (bT bits 0 8)) i (kD bits):=λj az=>by
 have tD:bT bits 0 8=bits:=by unfold bT;simp;omega
 have bK:bits<2^(8*8):=af;show kD (bT (dq m (8*i) 8 (bT bits 0 8)) (8*j) 8)=_;rw[tD];by_cases e:j=i
 ·subst e;rw[vL bK,if_pos rfl]
 ·rw[DB bK (by omega),if_neg e];rfl
theorem Yq(h:ag)(b:Bool)(n:Nat) :call ai PV (.func 325 [] []) [.bool b,.int .u64 n] h=some (.int .u64 (dB b n:Nat),h):=by refine aeh (x:=.ret) (vs:=[.int .u64 (dB b n:Nat)]) (first:=[]) (cap:=[]) ?_ rfl;cases b<;>simp[dB]
theorem Mc(h:ag)(n:Int) :fS ai h 3 67 (.int .i64 n)=some (.int .u64 (bF .u64 n)):=by
 have aw:ai.ty 67=some uz:=by kernel_rfl
 have aL:ai.ty 3=some q_:=by kernel_rfl
 simp only[fS,aw,aL];rfl
theorem agN(h:ag){s:ba}(au:s=.zero\/s.may=true) :bN (call ai PV (.func 265 [] []) [s.dz] h) λv g=>v=.int .u64 (oh s:Nat)/\aX h g:=by
 refine cF ad6 rfl ?_;refine b1 (sP (cs:=s.vs) rfl) λg o n u=> ?_
 refine cD (jG o) ?_;refine bS (bN.ex (Iq g s)) λv g2 ⟨cm,a_⟩=> ?_
 subst cm;have cc:=o.ext a_ (by omega);rcases au with rfl|au
 ·rw[show ba.may .zero=false by rfl];simp only[fA,ak,a1,Bool.not_false,if_true];exact aJ.pure ⟨rfl,u.trans a_⟩
 ·rw[au];simp only[fA,ak,a1,Bool.not_true,Bool.false_eq_true,if_false,lG,k4,ns,nt,q2,b6,kB,cT,cc.rd,ba.vs,List.getElem?_cons_zero,List.getElem?_cons_succ,Mc,k',Nat.zero_add];have aw:∀b n aC,call ai PV (.func 325 [] []) [.bool b,.int .u64 (n:Nat)] aC=some (.int .u64 (dB b n:Nat),aC):=λb n aC=>Yq aC b n
  have f1:∀aC,call ai PV (.func 325 [] []) [.bool s.here,.int .u64 1] aC=some (.int .u64 (dB s.here 1:Nat),aC):=aw s.here 1;have f2:∀aC,call ai PV (.func 325 [] []) [.bool s.write,.int .u64 2] aC=some (.int .u64 (dB s.write 2:Nat),aC):=aw s.write 2;have f3:∀aC,call ai PV (.func 325 [] []) [.bool s.copy,.int .u64 4] aC=some (.int .u64 (dB s.copy 4:Nat),aC):=aw s.copy 4;have f4:∀aC,call ai PV (.func 325 [] []) [.bool s.out,.int .u64 8] aC=some (.int .u64 (dB s.out 8:Nat),aC):=aw s.out 8;simp only[f1,f2,f3,f4,c1,LC,ak,dh,cT,cc.rd,ba.vs,List.getElem?_cons_zero,List.getElem?_cons_succ];have hm:=au;simp[ba.may]at hm;obtain⟨⟨⟨cA,cM⟩,dt⟩,dK⟩:=hm;obtain⟨k,aj⟩:=Int.eq_ofNat_of_zero_le cM;have bV:bF .u64 s.n=(k:Int):=by rw[aj];exact wrap_u64 (by omega) (by omega)
  have dV:bF .u64 ((k:Int) *16)=((k*16:Nat) :Int):=by rw[wrap_u64 (by omega) (by omega)];simp
  have fj:∀b n,n<2^64->dB b n<2^64:=λb n al=>by cases b<;>simp[dB];exact al
  have bc:=fj s.here 1 (by decide);have bW:=fj s.write 2 (by decide);have dA:=fj s.copy 4 (by decide);have e5:=fj s.out 8 (by decide);have dI:k*16<2^64:=by omega
  have d1:=Nat.or_lt_two_pow dI bc;have d2:=Nat.or_lt_two_pow d1 bW;have d3:=Nat.or_lt_two_pow d2 dA;rw[bV,dV,DL dI bc,DL d1 bW,DL d2 dA,DL d3 e5,agO];have:oh s=16*k+(((dB s.here 1|||dB s.write 2) |||dB s.copy 4) |||dB s.out 8):=by unfold oh;rw[aj];rfl
  rw[<-this];have fin:aJ (some (.ret,[J.int .u64 (oh s:Nat)],g2.aV 21)) λ_ vs bH=>iY vs=.int .u64 (oh s:Nat)/\aX h bH:=aJ.pure ⟨rfl,(u.trans a_).trans (aF.aV _ _ _)⟩
  simpa [hZ,J.beq_refl,cc.rd,cT,ba.vs,a6.lR]using fin
section
variable{h:ag}{A:fB}{mem held:Nat->Nat}{free:Nat}
theorem B_(s:fh h A mem held free){t r nn:Nat}(fU:a6.Obj h t [.ptr A.p 0,.int .i64 r,.int .i64 nn])(aN:t<h.next){node i:Nat}(al:node<A.n)(aC:held node≠0)(U:i<8){x:ba}(ab:x=.zero\/x.may=true) :
  bN (call ai PV (.func 182 [] []) [.ptr t 0,.int .i64 node,.int .i64 i,x.dz] h) λv g=>v=.undef/\(∃fE,wP (mem node) fE i x/\fh g A (aq mem node fE) held free)/\aF (λj=>j=A.b) h g:=by
 refine cF adu rfl ?_;refine b1 (sP (cs:=x.vs) rfl) λg1 bU dF aW=> ?_
 have I6:=fU.ext aW aN;have aw:bF .i64 ((i:Int) *8)=((8*i:Nat) :Int):=by rw[wrap_i64 (by omega) (by omega)];omega
 simp only[b2,ak,A0,gK,cT,I6.rd,List.getElem?_cons_zero,k',aw];have bC:aX g1 (g1.aV 10):=aF.aV _ _ _;refine cD (jG (bU.ext bC (by omega))) ?_;refine bS (agN _ ab) λv g2 ⟨cm,a_⟩=> ?_
 subst cm;have hp:aX h g2:=(aW.trans bC).trans a_;have s2:=s.ext hp
 have af:oh x<2^64:=by
  rcases ab with rfl|ab
  ·decide
  ·exact(UF ab).2
 have abD:kD (oh x)=x:=by
  rcases ab with rfl|ab
  ·exact akl
  ·exact(UF ab).1
 have dy:=RW s2.w s2.p s2.j_.2.1 (k:=4) (.inr (.inr (.inr rfl))) al aC (at':=8*i) (by show 8*i+8<=64;omega) af;refine bS (bN.ex dy) λv g3 ⟨cm,Ar,bw⟩=> ?_
 subst cm;have agA:=fU.ext hp aN;have ar:dJ ai g2 152 (.ptr t 0)=some (.ptr A.p 0):=by rw[gK,agA.rd];rfl
 rw[dh,wT ar,dh];refine aJ.pure ⟨rfl,⟨_,by have aN:=aj9 (m:=mem node) U af;rw[abD]at aN;exact aN,s2.wid bw (λe=>s2.j_.2.1 e.symm),Ar,s2.j_⟩,?_⟩;exact(aF.ext hp).trans bw
end
end
section
variable{PV:cw} [db PV]
theorem Mx(h:ag)(x y:ba) :fm ai h 9 169 x.dz y.dz=some (decide (x=y)):=by
 obtain⟨a,b,c,d,n⟩:=x;obtain⟨eI,ea,gz,eC,ga⟩:=y;have e:fm ai h 9 169 (ba.mk a b c d n).dz (ba.mk eI ea gz eC ga).dz=bif a==eI then(bif b==ea then(bif c==gz then(bif d==eC then(bif h5 n ga then some true else some false)else some false)else some false)else some false)else some false:=by kernel_rfl
 have mg:∀x y:Bool,(x==y)=decide (x=y):=by decide
 have jD:h5 n ga=decide (n=ga):=by rw[oJ,Bool.eq_iff_iff];simp
 rw[e,jD,mg,mg,mg,mg];by_cases h1:a=eI<;>by_cases aa:b=ea<;>by_cases av:c=gz<;>by_cases aO:d=eC<;>by_cases bb:n=ga<;>simp[h1,aa,av,aO,bb]
@[simp] theorem Ga (h:ag) (x y:ba) :cV ai h .eql 169 x.dz y.dz=some (.bool (decide (x=y))):=by show(bif true then(match BinOp.eql,fm ai h 9 169 x.dz y.dz with| .eql,some b=>some (J.bool b) | .neq,some b=>some (.bool (!b)) |_,_=>none)else none)=_;rw[Mx];rfl
@[simp] theorem afo (h:ag) (x y:ba) :cV ai h .neq 169 x.dz y.dz=some (.bool (decide (x≠y))):=by show(bif true then(match BinOp.neq,fm ai h 9 169 x.dz y.dz with| .eql,some b=>some (J.bool b) | .neq,some b=>some (.bool (!b)) |_,_=>none)else none)=_;rw[Mx];simp
def lg(p i:Nat) :J:=.int .i64 ((p/8^(3-i) %8:Nat) :Int)
def kO(p:Nat) :List J:=[lg p 0,lg p 1,lg p 2,lg p 3]
def tq(p:Nat) :Nat->List J
 |0=>[.int .i64 0,.int .i64 0,.int .i64 0,.int .i64 0]
 |1=>[.int .i64 0,.int .i64 0,.int .i64 0,lg p 3]
 |2=>[.int .i64 0,.int .i64 0,lg p 2,lg p 3]
 |3=>[.int .i64 0,lg p 1,lg p 2,lg p 3]
 |_=>kO p
theorem yZ(p l:Nat) :lg p l=.int .i64 ((pre p (l+1) %8:Nat) :Int):=by unfold lg pre;rw[show 4-(l+1)=3-l by omega]
theorem F0(h:ag){p:Nat}(aD:p<2^60) :bN (call ai PV (.func 181 [] []) [.int .i64 p] h) λv g=>v=.agg (kO p)/\aX h g:=by
 refine cF adt rfl ?_;refine b1 q0 λg1 bU dF aW=> ?_
 refine b1 q0 λg2 cc dS a_=> ?_
 have hp:=aW.trans a_
 refine gW (I:=λj vs g=>vs=[.int .i64 ((p/8^j:Nat) :Int),.int .i64 (3-(j:Int))]/\a6.Obj g g1.next (tq p j)/\aX h g/\g.next=g2.next/\a6.Obj g h.next (tq p 0)) 4 (by omega)
  (P:=λx vs g=>x=.exit 0/\(∃a b,vs=[a,b])/\a6.Obj g g1.next (kO p)/\aX h g/\g.next=g2.next/\a6.Obj g h.next (tq p 0))
  ⟨by simp,cc,hp,rfl,bU.ext a_ (by omega)⟩ ?_ ?_
 ·intro j vs g az ⟨cm,o,u,al,qQ⟩;subst cm;have ao:((p/8^j:Nat) :Int).tmod 8=((p/8^j%8:Nat) :Int):=rfl;have ay:((p/8^j:Nat) :Int).tdiv 8=((p/8^(j+1) :Nat) :Int):=by rw[Nat.pow_succ,<-Nat.div_div_eq_div_mul];rfl
  have af:p/8^(j+1) <2^60:=Nat.lt_of_le_of_lt (Nat.div_le_self _ _) aD
  have hw:bF .i64 ((p/8^(j+1) :Nat) :Int)=((p/8^(j+1) :Nat) :Int):=by generalize p/8^(j+1)=X at af|-;exact wrap_i64 (by omega) (by omega)
  have ar:(tq p j).length=4:=by rcases(by omega:j=0\/j=1\/j=2\/j=3\/j=4)with rfl|rfl|rfl|rfl|rfl<;>rfl
  by_cases aO:j=4
  ·subst aO;simp only[bn,bd,fk,ak,a1];rw[if_neg (by decide)];exact aJ.pure (.inr ⟨by simp,rfl,⟨_,_,rfl⟩,o,u,al,qQ⟩)
  ·have bo:(3:Int) -(j:Int)=((3-j:Nat) :Int):=by omega
   have dI:(0:Int)<=((3-j:Nat) :Int):=by omega
   simp only[bn,bd,fk,ak,a1,bo,decide_eq_true_eq,if_pos dI,ti .i64 (show(8:Int)≠0 by decide),yP .i64 (show(8:Int)≠0 by decide),ao,ay,hw,q3 (show 3-j<4 by omega)];refine cb (kC o (by rw[ar];omega) rfl rfl) λbH ⟨bL,dD,ga⟩=> ?_
   simp only[e4,ak];have rK:bF .i64 (((3-j:Nat) :Int) -1)=3-((j+1:Nat) :Int):=by rw[wrap_i64 (by omega) (by omega)];omega
   rw[rK];refine aJ.pure (.inl ⟨rfl,by omega,rfl,?_,u.local dD (λi U e=>by have:=aW.next;omega),by omega,qQ.aq dD (by omega) (by omega)⟩)
   have:(tq p j).set (0+(3-j)) (.int .i64 ((p/8^j%8:Nat) :Int))=tq p (j+1):=by rcases(by omega:j=0\/j=1\/j=2\/j=3)with rfl|rfl|rfl|rfl<;>rfl
   rw[this]at bL;exact bL
 ·rintro x vs g ⟨rfl,⟨a,b,rfl⟩,o,u,al,qQ⟩;simp only[bn,bd,fZ,if_true];rw[A3 o (by simp[kO])];simp only[ak];refine cb (sX (cs:=(kO p)) qQ rfl (by simp[tq,kO]) rfl) λbH ⟨bL,dD,ga⟩=> ?_
  rw[A3 bL (by simp[tq,kO])];refine aJ.pure ⟨?_,u.local dD (λi U e=>by omega)⟩;rfl
section
variable{h:ag}{A:fB}{mem held:Nat->Nat}{free:Nat}
def fP(h:ag)(A:fB)(t r nn:Nat) :Prop:=a6.Obj h t [.ptr A.p 0,.int .i64 r,.int .i64 nn]
theorem Lv{t r nn:Nat}(fU:fP h A t r nn)(p:Int) :call ai PV (.func 178 [] []) [.ptr t 0,.int .i64 p] h=some (.int .i64 (if p<0\/4096<=p then 14 else 0),h):=by
 refine adq (x:=.ret) (vs:=[.int .i64 (if p<0\/4096<=p then 14 else 0)]) (first:=[]) (cap:=[]) ?_ rfl;have r0:=Obj.get fU (i:=0) rfl;by_cases h1:p<0
 ·simp[h1]
 ·by_cases aa:4096<=p
  ·simp[h1,aa]
  ·simp[h1,aa,r0]
def nodeAt(T:c0)(p l:Nat) :Nat:=(T.aZ l (pre p l)).getD 0
def eD(T:c0)(p k:Nat) :List J:=(List.range 4).map λl=>.int .i64 ((if l<k then nodeAt T p l else 0:Nat) :Int)
theorem UR{T:c0}{p k:Nat}(aj:k<4) :(eD T p k).set k (.int .i64 (nodeAt T p k))=eD T p (k+1):=by
 apply List.ext_getElem?;intro j;rw[List.getElem?_set];unfold eD;by_cases az:j<4
 ·by_cases e:k=j
  ·subst e;simp[aj]
  ·have:(j<k+1)↔j<k:=by omega
   simp[e,az,this]
 ·have:¬k=j:=by omega
  simp[this,az]
theorem y3(s:fh h A mem held free){t r nn:Nat}(fU:fP h A t r nn)(aN:t<h.next){node i:Nat}(al:node<A.n)(aC:held node≠0)(U:i<8) :
  bN (call ai PV (.func 245 [] []) [.ptr t 0,.int .i64 node,.int .i64 i] h) λv g=>v=(eZ mem node i).dz/\aX h g:=
 bN.ex (XV s.w s.p s.j_ aN (fU.rd 0) al aC U)
theorem vJ{T:c0}{p l:Nat}(h:T.aZ l (pre p l)≠none) :T.aZ l (pre p l)=some (nodeAt T p l):=by
 unfold nodeAt;cases e:T.aZ l (pre p l)with
 |none=>exact absurd e h
 |some f=>rfl
theorem KX(s:fh h A mem held free){t nn:Nat}{T:c0}(fU:fP h A t (nodeAt T 0 0) nn)(aN:t<h.next)(hz:gx (eZ mem) A.n T)(aC:∀f,IsNode T f->held f≠0){p:Nat}(aD:p<4096) :
  bN (call ai PV (.func 180 [] []) [.ptr t 0,.int .i64 p] h) λv g=>∃k,v=.tuple [.agg (eD T p k),.int .i64 k]/\1<=k/\k<=4/\(∀l,l<k->T.aZ l (pre p l)≠none)/\(k<4->T.aZ k (pre p k)=none)/\aX h g:=by
 refine cF ads rfl ?_;refine b1 q0 λg1 bU dF aW=> ?_
 have I6:fP g1 A t _ nn:=Obj.ext fU aW aN;have cg:=Obj.get I6 (i:=1) rfl;simp only[b2,ak,R9,Nat.zero_add,b6,cg];refine bS (F0 g1 (p:=p) (by omega)) λv g2 ⟨cm,a_⟩=> ?_
 subst cm;refine b1 q0 λg3 b8 eH bw=> ?_
 have zu:=a_.next;have kb:=a_.trans bw;have ej:=aW.trans kb;have hl:=bU.ext kb (by omega);refine cb (sX (cs:=kO p) b8 rfl (by simp[kO]) rfl) λg4 ⟨c5,bA,gb⟩=> ?_
 have gR:=hl.aq bA (by omega) (by omega);have jS:aX h g4:=ej.local bA (λi U e=>by omega);have abf:T.aZ 0 (pre p 0)≠none:=by rw[DS aD];exact hz.root
 have lX:nodeAt T 0 0=nodeAt T p 0:=by unfold nodeAt;rw[DS aD];rfl
 refine gW (I:=λi vs g=>vs=[.int .i64 (i:Int),.int .i64 (nodeAt T p i:Nat),.int .i64 (i:Int)]/\(∀l,l<=i->T.aZ l (pre p l)≠none)/\a6.Obj g h.next (eD T p i)/\a6.Obj g g2.next (kO p)/\aX h g/\g4.next<=g.next) 3 (by omega)
  (P:=λx vs g=>x=.exit 0/\(∃k a b,vs=[.int .i64 (k:Nat),a,b]/\1<=k/\k<=4/\(∀l,l<k->T.aZ l (pre p l)≠none)/\(k<4->T.aZ k (pre p k)=none)/\a6.Obj g h.next (eD T p k))/\aX h g)
  ⟨by rw[lX];rfl,λl ar=>by rw[Nat.le_zero.1 ar];exact abf,gR,c5,jS,Nat.le_refl _⟩ ?_ ?_
 ·rintro i vs g U ⟨rfl,ar,ni,gg,u,al⟩;have cL:=vJ (ar i (Nat.le_refl _));have lW:=hz.lvl _ _ _ cL;have e5:(i:Int) <4:=by omega
  have aw:bF .i64 ((i:Int) +1)=((i+1:Nat) :Int):=by rw[wrap_i64 (by omega) (by omega)];simp
  simp only[bn,bd,cQ,ak,a1,decide_eq_true_eq,if_pos e5,q3 (show i<4 by omega),Nat.zero_add];refine cb (kC ni (by simp[eD];omega) rfl rfl) λbH ⟨bL,dD,ga⟩=> ?_
  rw[UR (by omega)]at bL;have DI:=gg.aq dD (by omega) (by omega);have Ba:aX h bH:=u.local dD (λj az e=>by omega);have vc:bE bH g2.next i=some (lg p i):=by rw[DI.rd];rcases(by omega:i=0\/i=1\/i=2\/i=3)with rfl|rfl|rfl|rfl<;>rfl
  simp only[cP,aw,ak,b6,vc];rw[yZ];refine bS (y3 (s.ext Ba) (show fP bH A t _ nn from Obj.ext fU Ba aN) (Nat.lt_of_lt_of_le aN Ba.next) lW.2.2 (aC _ ⟨_,_,cL⟩) (show pre p (i+1) %8<8 by omega)) λv g5 ⟨cm,bZ⟩=> ?_
  subst cm;refine b1 (h:=g5) sN λg6 di n6 b3=> ?_
  have al0:=bZ.next;have af4:=bL.ext (bZ.trans b3) (by omega);refine cb (pe (cs:=(eZ mem (nodeAt T p i) (pre p (i+1) %8)).vs) di rfl (by simp[ba.vs]) rfl) λg7 ⟨dP,dM,n7⟩=> ?_
  have r0:=Obj.get dP (i:=0) rfl;have eu:=Obj.get dP (i:=4) rfl;have IN:=af4.aq dM (by omega) (by omega);have af_:=(DI.ext (bZ.trans b3) (by omega)).aq dM (by omega) (by omega);have s3:aX h g7:=(Ba.trans (bZ.trans b3)).local dM (λj az e=>by have:=Ba.next;omega);simp only[k4,lG,Nat.zero_add,b6,kB,r0,eu,ak,fA,cJ];by_cases av:i=3
  ·subst av
   have fin:∀a b,aJ (some (.exit 0,[J.int .i64 ((3+1:Nat) :Int),a,b],g7)) λx c9 g=>(x=.normal/\3<3/\c9=[.int .i64 ((3+1:Nat) :Int),.int .i64 (nodeAt T p (3+1) :Nat),.int .i64 ((3+1:Nat) :Int)]/\(∀l,l<=3+1->T.aZ l (pre p l)≠none)/\a6.Obj g h.next (eD T p (3+1))/\a6.Obj g g2.next (kO p)/\aX h g/\g4.next<=g.next)\/(x≠.normal/\x=.exit 0/\(∃k a b,c9=[.int .i64 (k:Nat),a,b]/\1<=k/\k<=4/\(∀l,l<k->T.aZ l (pre p l)≠none)/\(k<4->T.aZ k (pre p k)=none)/\a6.Obj g h.next (eD T p k))/\aX h g):=λa b=>
    aJ.pure (.inr ⟨by simp,rfl,⟨4,a,b,rfl,by omega,by omega,λl jl=>ar l (by omega),by omega,IN⟩,s3⟩)
   cases(eZ mem (nodeAt T p 3) (pre p (3+1) %8)).here
   ·simp only[Bool.not_false,Bool.true_eq_false,if_false,cO,bn,bd,cB,if_true,ak,a1];exact fin _ _
   ·simp only[Bool.not_true,if_true,c2,ak,cO,bn,bd,cB,Bool.false_eq_true,if_false,a1];exact fin _ _
  ·have oO:=hz.kt i (pre p i) (nodeAt T p i) (pre p (i+1) %8) (by omega) cL (by omega);have vk:8*pre p i+pre p (i+1) %8=pre p (i+1):=by have:=nm p (l:=i) (by omega);omega
   rw[vk]at oO;cases j6:T.aZ (i+1) (pre p (i+1))with
   |none=>
    rw[j6]at oO;rw[oO];simp only[ba.zero,Bool.not_false,Bool.true_eq_false,if_false,cO,bn,bd,cB,if_true,ak,a1];exact aJ.pure (.inr ⟨by simp,rfl,⟨i+1,_,_,rfl,by omega,by omega,λl jl=>ar l (by omega),λ_=>j6,IN⟩,s3⟩)
   |some f=>
    rw[j6]at oO;have aB:nodeAt T p (i+1)=f:=by unfold nodeAt;rw[j6];rfl
    have cE:¬(i:Int)=3:=by omega
    have ahh:bE g7 g5.next 4=some (.int .i64 (f:Nat)):=by rw[eu,oO];rfl
    rw[oO];simp only[qP,Bool.not_true,if_true,c2,ak,cO,bn,bd,cB,Bool.false_eq_true,if_false,a1,decide_eq_true_eq,if_neg cE,aw,cP,ahh];refine aJ.pure (.inl ⟨rfl,by omega,by rw[aB],λl jl=> ?_,IN,af_,s3,by omega⟩);by_cases e:l=i+1
    ·subst e;rw[j6];simp
    ·exact ar l (by omega)
 ·rintro x vs g ⟨rfl,⟨k,a,b,rfl,a',c8,ku,iW,ni⟩,u⟩;simp only[bn,bd,fZ,if_true];rw[A3 ni (by simp[eD])];simp only[ak];refine cb (sX (cs:=eD T p k) ni (by simp[eD]) (by simp[eD]) (by simp[eD,dT])) λbH ⟨bL,dD,ga⟩=> ?_
  have e:List.take 0 (eD T p k)++eD T p k++List.drop (0+(eD T p k).length) (eD T p k)=eD T p k:=by simp
  rw[e]at bL;rw[A3 bL (by simp[eD])];refine aJ.pure ⟨k,?_,a',c8,ku,iW,u.local dD (λi U e=>by omega)⟩;rfl
end
end
section
variable{PV:cw} [db PV]
theorem V3(f:Nat) :dW ai 169 [(0,.bool true),(4,.int .i64 f)]=some (qP f).dz:=by kernel_rfl
theorem wE{T:c0}{p k l:Nat}(ar:l<k)(aj:k<=4) :(eD T p k)[l]? =some (.int .i64 (nodeAt T p l:Nat)):=by unfold eD;simp[ar,show l<4 by omega]
theorem YM{l cs:List J}(ar:cs.length=l.length) :List.take 0 l++cs++List.drop (0+cs.length) l=cs:=by simp[ar]
theorem dC{h:ag}{id:Nat}{l cs:List J}(o:a6.Obj h id (List.take 0 l++cs++List.drop (0+cs.length) l))(ar:cs.length=l.length) :a6.Obj h id cs:=by rwa[YM ar]at o
section
variable{h:ag}{A:fB}{mem held:Nat->Nat}{free:Nat}
structure oC(h:ag)(A:fB)(mem held:Nat->Nat)(t nn:Nat)(T:c0) :Prop where
 obj:fP h A t (nodeAt T 0 0) nn
 lt:t<h.next
 ok:gx (eZ mem) A.n T
 held:∀f,IsNode T f->held f≠0
theorem oC.ext{g:ag}{t nn:Nat}{T:c0}(s:oC h A mem held t nn T)(u:aX h g) :oC g A mem held t nn T:=⟨Obj.ext s.obj u s.lt,Nat.lt_of_lt_of_le s.lt u.next,s.ok,s.held⟩
theorem PE{dec:Nat->Nat->ba}{n:Nat}{T:c0}(h:gx dec n T){p k:Nat}(aj:k<4)(al:T.aZ k (pre p k)=none) :T.ent p=.zero:=by
 have down:∀d l,l+d=3->k<=l->T.aZ l (pre p l)=none:=by
  intro d l ar vi;induction l with
  |zero=>obtain rfl:k=0:=by omega
         exact al
  |succ l bI=>
   by_cases e:k=l+1
   ·subst e;exact al
   ·cases aA:T.aZ (l+1) (pre p (l+1))with
    |none=>rfl
    |some f=>
     have h1:=h.par l _ (by rw[aA];simp);rw[nm p (by omega)]at h1
     have bK:∀j,j<=l->k<=j->T.aZ j (pre p j)=none:=by
      intro j az al9;induction j with
      |zero=>obtain rfl:k=0:=by omega
             exact al
      |succ j ab7=>
       by_cases e:k=j+1
       ·subst e;exact al
       ·cases qv:T.aZ (j+1) (pre p (j+1))with
        |none=>rfl
        |some fo=>
         have aa:=h.par j _ (by rw[qv];simp);rw[nm p (by omega)]at aa;exact absurd (ab7 (by omega) (by omega)) aa
     exact absurd (bK l (Nat.le_refl _) (by omega)) h1
 apply Classical.byContradiction;intro aA;have:=h.own p aA;rw[<-qU]at this;exact this (down 0 3 rfl (by omega))
theorem Sd{t nn:Nat}{T:c0}(s:fh h A mem held free)(x:oC h A mem held t nn T)(p:Nat) :
  bN (call ai PV (.func 163 [] []) [.ptr t 0,.int .i64 p] h) λv g=>v=.tuple [(T.ent p).dz,.int .i64 (if 4096<=p then 14 else if T.ent p=.zero then 12 else 0)]/\aX h g:=by
 refine cF adh rfl ?_;refine b1 sN λg1 bU dF aW=> ?_
 have bU:a6.Obj g1 h.next ba.zero.vs:=bU;rw[Lv (x.ext aW).obj];simp only[c1];by_cases aO:4096<=p
 ·have u7:(p:Int) <0\/(4096:Int)<=p:=.inr (by omega)
  have aI:T.ent p=.zero:=by apply Classical.byContradiction;intro aA;have:=x.ok.bq aA;omega
  rw[if_pos u7,if_pos aO,aI];simp only[dc,ak,a1];rw[if_pos (by decide),px,ak];refine cb (pe (cs:=ba.zero.vs) bU rfl (by simp[ba.vs]) rfl) λg2 ⟨cc,a_,dS⟩=> ?_
  have cc:=dC cc rfl;rw[jG cc];exact aJ.pure ⟨rfl,aW.local a_ (λi U e=>by omega)⟩
 ·have u7:¬((p:Int) <0\/(4096:Int)<=p):=by omega
  rw[if_neg u7,if_neg aO];simp only[dc,ak,a1];rw[if_neg (by decide)];have bB:=x.ext aW;refine bS (KX (s.ext aW) bB.obj bB.lt x.ok x.held (by omega)) ?_;rintro _ g2 ⟨k,rfl,a',c8,ku,iW,a_⟩;have tI:=a_.next;simp only[fM,List.getElem?_cons_zero,List.getElem?_cons_succ,ak];refine b1 q0 λg3 b8 eH bw=> ?_
  have hl:=bU.ext (a_.trans bw) (by omega);refine cb (sX (cs:=eD T p k) b8 (by simp[eD]) (by simp[eD]) (by simp[eD,dT])) λg4 ⟨c5,bA,gb⟩=> ?_
  have c5:=dC c5 (by simp[eD]);have gR:=hl.aq bA (by omega) (by omega);have jS:aX h g4:=((aW.trans a_).trans bw).local bA (λi U e=>by have:=aW.next;omega);simp only[cQ,ak,a1,decide_eq_true_eq];by_cases aj:k<4
  ·rw[if_pos (by omega),px,ak,PE x.ok aj (iW aj)];refine cb (pe (cs:=ba.zero.vs) gR rfl (by simp[ba.vs]) rfl) λg5 ⟨cS,bZ,n5⟩=> ?_
   have cS:=dC cS rfl;rw[jG cS];exact aJ.pure ⟨rfl,jS.local bZ (λi U e=>by omega)⟩
  ·obtain rfl:k=4:=by omega
   have cL:=vJ (ku 3 (by omega));have lW:=x.ok.lvl _ _ _ cL;have aw:bF .i64 (((4:Nat) :Int) -1)=((3:Nat) :Int):=by decide
   have aL:((p:Int)).tmod 8=((p%8:Nat) :Int):=rfl;rw[if_neg (by omega)];simp only[e4,aw,ak,q3 (show 3<4 by omega),b6,c5.rd,wE (show 3<4 by omega) (Nat.le_refl 4),Nat.zero_add,ti .i64 (show(8:Int)≠0 by decide),aL];have p4:=x.ext jS;refine bS (y3 (s.ext jS) p4.obj p4.lt lW.2.2 (x.held _ ⟨_,_,cL⟩) (show p%8<8 by omega)) λv g5 ⟨cm,bZ⟩=> ?_
   subst cm
   have j3:eZ mem (nodeAt T p 3) (p%8)=T.ent p:=by have:=x.ok.leaf _ _ (p%8) cL (by omega);rw[this,qU];congr 1;omega
   rw[j3];refine b1 (h:=g5) sN λg6 di n6 b3=> ?_
   have tJ:=bZ.next;have pR:=gR.ext (bZ.trans b3) (by omega);refine cb (pe (cs:=(T.ent p).vs) di rfl (by simp[ba.vs]) rfl) λg7 ⟨dP,dM,n7⟩=> ?_
   have dP:=dC dP rfl;have vM:=pR.aq dM (by omega) (by omega);have s3:aX h g7:=((jS.trans bZ).trans b3).local dM (λi U e=>by have:=jS.next;omega);rw[jG dP];simp only[ak,px,Ga,a1,decide_eq_true_eq];by_cases aI:T.ent p=.zero
   ·rw[if_pos aI,if_pos aI,aI];refine cb (pe (cs:=ba.zero.vs) vM rfl (by simp[ba.vs]) rfl) λg8 ⟨hG,u8,n8⟩=> ?_
    have hG:=dC hG rfl;rw[jG hG];exact aJ.pure ⟨rfl,s3.local u8 (λi U e=>by omega)⟩
   ·rw[if_neg aI,if_neg aI];refine cb (pe (cs:=(T.ent p).vs) vM rfl (by simp[ba.vs]) rfl) λg8 ⟨hG,u8,n8⟩=> ?_
    have hG:=dC hG rfl;rw[jG hG];exact aJ.pure ⟨rfl,s3.local u8 (λi U e=>by omega)⟩
end
theorem afm{f:Nat}(aB:f<4096) :(qP f).may=true:=by show((true !=false) &&decide (0<=(f:Int)) &&decide ((f:Int)<=1048576) && !(false&&false))=true;rw[decide_eq_true (show 0<=(f:Int)by omega),decide_eq_true (show(f:Int)<=1048576 by omega)];rfl
theorem BU(T:c0) :T.dX<=585:=by
 unfold c0.dX;have h0:=m0 (λq=>(T.aZ 0 q).isSome) (8^0);have h1:=m0 (λq=>(T.aZ 1 q).isSome) (8^1);have aa:=m0 (λq=>(T.aZ 2 q).isSome) (8^2);have av:=m0 (λq=>(T.aZ 3 q).isSome) (8^3);simp only[de]at*
 omega
theorem fP.nodes{h:ag}{A:fB}{t r nn:Nat}(o:fP h A t r nn)(m:Nat) :∃g,dU ai h 3 (.ptr t 2) (.int .i64 m)=some g/\(fP g A t r m/\aF (λj=>j=t) h g/\g.next=h.next):=by obtain⟨g,h1,aa,av,aO⟩:=kC (k:=2) (v:=.int .i64 m) o (by simp) rfl rfl;exact⟨g,h1,aa,av,aO⟩
section
variable{h:ag}{A:fB}{mem held:Nat->Nat}{free:Nat}
theorem SA{t:Nat}{T:c0}(s:fh h A mem held free)(x:oC h A mem held t T.dX T)(h1:∀f,IsNode T f->held f=1)(mz:p_ T)(mj:free=b' (λf=>held f==0) A.n)(mA:¬hn A t/\t≠0)
  {p:Nat} (aD:p<4096) {hX:ba} (au:hX.may=true) (iB:3<=free\/T.aZ 3 (p/8)≠none) :
  bN (call ai PV (.func 109 [] []) [.ptr t 0,.int .i64 p,hX.dz] h) λv g=>v=.int .i64 0/\∃b7 cf b4 aK,wM A.n mem held free T p hX b7 cf b4 aK/\fh g A b7 cf b4/\oC g A b7 cf t aK.dX aK/\
   aF (λi=>hn A i\/i=t) h g/\free<=b4+3/\b4<=free/\(T.aZ 3 (p/8)≠none->b4=free/\aK.aZ=T.aZ):=by
 have qB:free<=4096:=by rw[mj];exact Nat.le_trans (m0 _ _) s.p.n
 refine cF ac0 rfl ?_;refine b1 (sP (cs:=hX.vs) rfl) λg1 bU dF aW=> ?_
 have bB:=x.ext aW;rw[Lv bB.obj];have u7:¬((p:Int) <0\/(4096:Int)<=p):=by omega
 simp only[c1,if_neg u7,dc,ak,a1];rw[if_neg (by decide),jG bU];simp only[ak];refine bS (bN.ex (Iq g1 hX)) λv g2 ⟨cm,a_⟩=> ?_
 subst cm;have tI:=a_.next;rw[au];simp only[fA,ak,a1,Bool.not_true,Bool.false_eq_true,if_false];have kG:=bB.ext a_;refine bS (KX ((s.ext aW).ext a_) kG.obj kG.lt x.ok x.held aD) ?_;rintro _ g3 ⟨k,rfl,a',c8,ku,iW,bw⟩;have r5:=bw.next;simp only[fM,List.getElem?_cons_zero,List.getElem?_cons_succ,ak];refine b1 q0 λg4 c5 gb bA=> ?_
 have hK:=(a_.trans bw).trans bA;have gR:=bU.ext hK (by omega);refine cb (sX (cs:=eD T p k) c5 (by simp[eD]) (by simp[eD]) (by simp[eD,dT])) λg5 ⟨cS,bZ,n5⟩=> ?_
 have cS:=dC cS (by simp[eD]);have jr:=gR.aq bZ (by omega) (by omega);have ph:aX h g5:=(aW.trans hK).local bZ (λi U e=>by have:=aW.next;omega);have yI:=x.ext ph;have jO:=s.ext ph;have aw:bF .i64 (4-(k:Int))=((4-k:Nat) :Int):=by rw[wrap_i64 (by omega) (by omega)];omega
 have r0:=Obj.get yI.obj (i:=0) rfl
 have al8:4-k<=free:=by
  rcases iB with ah|ah
  ·omega
  ·have:k=4:=by
    apply Classical.byContradiction;intro aj;have:=x.ok.own;have tS:=iW (by omega)
    have pS:∀d l,l+d=3->T.aZ l (pre p l)≠none:=by
     intro d;induction d with
     |zero=>intro l ar;obtain rfl:l=3:=by omega
            rw[qU];exact ah
     |succ d bI=>intro l ar;have:=x.ok.par l _ (bI (l+1) (by omega));rwa[nm p (by omega)]at this
    exact pS (3-k) k (by omega) tS
   omega
 have bc:¬(free:Int) <((4-k:Nat) :Int):=by omega
 simp only[e4,aw,ak,b2,A0,gK,r0,Gx jO.p,c1,hO,a1,decide_eq_true_eq,if_neg bc];refine bS (F0 g5 (p:=p) (by omega)) λv g6 ⟨cm,b3⟩=> ?_
 subst cm;have xu:=b3.next;refine b1 (h:=g6) q0 λg7 dP n7 dM=> ?_
 refine cb (sX (cs:=kO p) dP rfl (by simp[kO]) rfl) λg8 ⟨hG,u8,n8⟩=> ?_
 have hG:=dC hG rfl;have yB:=b3.trans dM;have DD:=(jr.ext yB (by omega)).aq u8 (by omega) (by omega);have IK:=(cS.ext yB (by omega)).aq u8 (by omega) (by omega);have Kz:aX h g8:=(ph.trans yB).local u8 (λi U e=>by have:=ph.next;omega);have ak3:=x.ext Kz;have sI:=s.ext Kz;have bK:=x.lt
 refine gW (I:=λj vs g=>∃b7 cf b4 aK,vs=[.int .i64 0,.int .i64 ((k+j:Nat) :Int)]/\oz A.n mem held free T p b7 cf b4 aK/\(∀l,l<k+j->aK.aZ l (pre p l)≠none)/\(k+j<4->aK.aZ (k+j) (pre p (k+j))=none)/\
   fh g A b7 cf b4/\fP g A t (nodeAt aK 0 0) aK.dX/\a6.Obj g h.next hX.vs/\a6.Obj g g3.next (eD aK p (k+j))/\a6.Obj g g6.next (kO p)/\aF (λi=>hn A i\/i=t) h g/\b4+j=free/\g8.next<=g.next) (4-k) (by omega)
  (P:=λx vs g=>x=.exit 0/\∃b7 cf b4 aK,vs=[.int .i64 0,.int .i64 4]/\oz A.n mem held free T p b7 cf b4 aK/\(∀l,l<4->aK.aZ l (pre p l)≠none)/\
    fh g A b7 cf b4/\fP g A t (nodeAt aK 0 0) aK.dX/\a6.Obj g h.next hX.vs/\a6.Obj g g3.next (eD aK p 4)/\a6.Obj g g6.next (kO p)/\aF (λi=>hn A i\/i=t) h g/\b4+(4-k)=free/\g8.next<=g.next)
  ⟨mem,held,free,T,rfl,oz.refl x.ok h1,ku,iW,sI,ak3.obj,DD,IK,hG,aF.ext Kz,rfl,Nat.le_refl _⟩ ?_ ?_
 ·rintro j vs g az ⟨b7,cf,b4,aK,rfl,M,oc,Iw,oo,fU,et,ni,gg,u,aB,xv⟩;by_cases CH:k+j=4
  ·simp only[bn,bd,cQ,ak,a1,decide_eq_true_eq];rw[if_neg (by omega)];refine aJ.pure (.inr ⟨by simp,rfl,b7,cf,b4,aK,by rw[CH];rfl,M,by rw[<-CH];exact oc,oo,fU,et,by rw[<-CH];exact ni,gg,u,by omega,xv⟩)
  ·have CL:k+j<4:=by omega
   have alV:=M.me mj;have zr:0<b' (λf=>cf f==0) A.n:=by omega
   obtain⟨f,f1,f2,f3⟩:=least zr;have MG:cf f=0:=by simpa using f2
   have r0:=Obj.get fU (i:=0) rfl;have e5:((k+j:Nat) :Int) <4:=by omega
   simp only[bn,bd,cQ,ak,a1,decide_eq_true_eq,if_pos e5,b2,A0,gK,r0];have af:∀i,hn A i->i<h.next:=λi U=>s.lt U
   refine bS (bN.ex (R3 oo.p (by omega) (by omega) f1 MG (λj az=>by simpa using f3 j az))) λv g9 ⟨cm,agM,e2⟩=> ?_
   subst cm;have od:∀i,h.next<=i->¬(i=A.b\/i=A.q\/i=A.p):=λi U e=>by have:=af i e;omega
   have afC:¬(t=A.b\/t=A.q\/t=A.p):=mA.1;have lu:=u.next;have al1:=e2.next;have sJ:fh g9 A (aq b7 f 0) (aq cf f 1) (b4-1):=⟨oo.wid e2 oo.I_,agM,oo.j_⟩;have Qr:fP g9 A t (nodeAt aK 0 0) aK.dX:=Obj.aq fU e2 (by omega) afC;have agG:=et.aq e2 (by omega) (od _ (by omega));have af5:=ni.aq e2 (by omega) (od _ (by omega));have af':=gg.aq e2 (by omega) (od _ (by omega));have rX:=BU aK;have aL:bF .i64 ((aK.dX:Int) +1)=((aK.dX+1:Nat) :Int):=by rw[wrap_i64 (by omega) (by omega)];simp
   have cK:=Obj.get Qr (i:=2) rfl;simp only[fM,List.getElem?_cons_zero,List.getElem?_cons_succ,ak,dc,a1];rw[if_neg (by decide)];simp only[b2,ak,J4,Nat.zero_add,b6,cK,cP,aL];refine cb (Qr.nodes (aK.dX+1)) λg10 ⟨agx,gV,n10⟩=> ?_
   have bC:aX g10 (g10.aV 12):=aF.aV _ _ _;have ah7:=(sJ.ca gV ⟨λe=>mA.1 (.inr (.inr e.symm)),λe=>mA.1 (.inl e.symm),λe=>mA.1 (.inr (.inl e.symm)),λe=>mA.2 e.symm⟩).ext bC;have Qo:fP (g10.aV 12) A t (nodeAt aK 0 0) (aK.dX+1):=Obj.ext agx bC (by omega);have agD:=(agG.aq gV (by omega) (by omega)).ext bC (by omega);have P1:=(af5.aq gV (by omega) (by omega)).ext bC (by omega);have P7:=(af'.aq gV (by omega) (by omega)).ext bC (by omega);have bo:bF .i64 (((k+j:Nat) :Int) -1)=((k+j-1:Nat) :Int):=by rw[wrap_i64 (by omega) (by omega)];omega
   have vc:bE (g10.aV 12) g6.next (k+j-1)=some (lg p (k+j-1)):=by rw[P7.rd];rcases(by omega:k+j=1\/k+j=2\/k+j=3)with e|e|e<;>rw[e]<;>rfl
   have vu:bE (g10.aV 12) g3.next (k+j-1)=some (.int .i64 (nodeAt aK p (k+j-1) :Nat)):=by rw[P1.rd];exact wE (by omega) (by omega)
   simp only[e4,bo,ak,q3 (show k+j-1<4 by omega),b6,Nat.zero_add,vc,vu,V3];have cL:=vJ (oc (k+j-1) (by omega));have lW:=M.ok.lvl _ _ _ cL;have lu:nodeAt aK p (k+j-1)≠f:=λe=>by have:=M.node _ ⟨_,_,cL⟩;rw[e]at this;omega
   have aaF:(qP f).may=true:=afm (Nat.lt_of_lt_of_le f1 s.p.n);rw[yZ,show k+j-1+1=k+j by omega];refine bS (B_ ah7 Qo (by show t<g10.next+12;omega) lW.2.2 (by rw[ed _ _ lu];have:=M.node _ ⟨_,_,cL⟩;omega) (show pre p (k+j) %8<8 by omega) (.inr aaF)) ?_;rintro _ g11 ⟨rfl,⟨fE,ys,AK⟩,hq⟩;have aaI:=hq.next;have N2:(g10.aV 12).next=g10.next+12:=rfl
   have mT:=af A.b (.inl rfl);have agE:=agD.aq hq (by omega) (by omega);have af3:=P1.aq hq (by omega) (by omega);have af8:=P7.aq hq (by omega) (by omega);have agy:fP g11 A t (nodeAt aK 0 0) (aK.dX+1):=Obj.aq Qo hq (by omega) (λe=>mA.1 (.inl e));simp only[dh,q3 (show k+j<4 by omega),ak,Nat.zero_add];refine cb (kC af3 (by simp[eD];omega) rfl rfl) λg12 ⟨DH,il,n12⟩=> ?_
   have eh:bF .i64 (((k+j:Nat) :Int) +1)=((k+(j+1) :Nat) :Int):=by rw[wrap_i64 (by omega) (by omega)];omega
   simp only[cP,eh,ak];rw[ed _ _ lu]at ys;have Lf:=M.step aD (l:=k+j-1) (g:=nodeAt aK p (k+j-1)) (f:=f) (m:=fE) (by omega) cL (by rw[show k+j-1+1=k+j by omega];exact Iw CL) f1 MG (by omega) (by rw[show k+j-1+1=k+j by omega];exact ys);rw[show k+j-1+1=k+j by omega]at Lf;have aaM:k+j≠0:=by omega
   have IB:∀l,l≠k+j->(cr aK.aZ (k+j) (pre p (k+j)) (some f)) l (pre p l)=aK.aZ l (pre p l):=λl ar=>by simp[cr,ar]
   have PA:(cr aK.aZ (k+j) (pre p (k+j)) (some f)) (k+j) (pre p (k+j))=some f:=by simp[cr]
   have vr:(eD aK p (k+j)).set (k+j) (.int .i64 (f:Nat))=eD {aK with aZ:=cr aK.aZ (k+j) (pre p (k+j)) (some f)} p (k+(j+1)):=by
    have ab:∀l,l<k+j->nodeAt {aK with aZ:=cr aK.aZ (k+j) (pre p (k+j)) (some f)} p l=nodeAt aK p l:=λl ar=>congrArg (λo=>Option.getD o 0) (IB l (by omega))
    have an:nodeAt {aK with aZ:=cr aK.aZ (k+j) (pre p (k+j)) (some f)} p (k+j)=f:=congrArg (λo=>Option.getD o 0) PA;have aI:=UR (T:={aK with aZ:=cr aK.aZ (k+j) (pre p (k+j)) (some f)}) (p:=p) (k:=k+j) CL;rw[an]at aI;rw[show k+(j+1)=k+j+1 by omega,<-aI];congr 1;unfold eD;refine List.map_congr_left λl _=> ?_
    by_cases ar:l<k+j
    ·rw[if_pos ar,if_pos ar,ab l ar]
    ·rw[if_neg ar,if_neg ar]
   rw[vr]at DH
   have Hp:nodeAt {aK with aZ:=cr aK.aZ (k+j) (pre p (k+j)) (some f)} 0 0=nodeAt aK 0 0:=by unfold nodeAt;show(cr aK.aZ (k+j) (pre p (k+j)) (some f) 0 (pre 0 0)).getD 0=_;simp[cr,Ne.symm aaM]
   have Nl:({aK with aZ:=cr aK.aZ (k+j) (pre p (k+j)) (some f)} :c0).dX=aK.dX+1:=by have:=BV aK (l:=k+j) (q:=pre p (k+j)) (by omega) (DR aD (by omega)) (some f) aK.ent;rw[Iw CL]at this;simpa using this
   refine aJ.pure (.inl ⟨rfl,by omega,_,_,_,_,rfl,Lf,?_,?_,AK.ca il ⟨?_,?_,?_,?_⟩,?_,agE.aq il (by omega) (by omega),DH,af8.aq il (by omega) (by omega),?_,by omega,by omega⟩)
   ·intro l ar;by_cases e:l=k+j
    ·subst e;show cr aK.aZ (k+j) (pre p (k+j)) (some f) (k+j) (pre p (k+j))≠none;rw[PA];simp
    ·show cr aK.aZ (k+j) (pre p (k+j)) (some f) l (pre p l)≠none;rw[IB l e];exact oc l (by omega)
   ·intro ar;show cr aK.aZ (k+j) (pre p (k+j)) (some f) (k+(j+1)) (pre p (k+(j+1)))=none;rw[IB _ (by omega)];cases aA:aK.aZ (k+(j+1)) (pre p (k+(j+1)))with
    |none=>rfl
    |some a=>
     have:=M.ok.par (k+j) _ (show aK.aZ (k+j+1) (pre p (k+j+1))≠none by rw[show k+j+1=k+(j+1)by omega,aA];simp);rw[nm p (by omega)]at this;exact absurd (Iw CL) this
   ·have:=af A.p (.inr (.inr rfl));omega
   ·omega
   ·have:=af A.q (.inr (.inl rfl));omega
   ·omega
   ·rw[Hp,Nl];exact Obj.aq agy il (by omega) (by omega)
   ·have KB:aF (λi=>hn A i\/i=t) h g9:=u.trans (e2.mono λi _ e=>.inl e);have nv:aF (λi=>hn A i\/i=t) h g10:=KB.trans (gV.mono λi _ e=>.inr e);have KC:aF (λi=>hn A i\/i=t) h g11:=(nv.trans (aF.ext bC)).trans (hq.mono λi _ e=>.inl (.inl e));exact KC.local il (λi U e=>by omega)
 ·rintro _ vs g ⟨rfl,b7,cf,b4,aK,rfl,M,oc,oo,fU,et,ni,gg,u,aB,xv⟩;have bC:aX g (g.aV 11):=aF.aV _ _ _;have af:∀i,hn A i->i<h.next:=λi U=>s.lt U
  have lu:=u.next;have bo:bF .i64 ((4:Int) -1)=((3:Nat) :Int):=by decide
  have vu:bE g g3.next 3=some (.int .i64 (nodeAt aK p 3:Nat)):=by rw[ni.rd];exact wE (by omega) (by omega)
  have vc:bE g g6.next 3=some (lg p 3):=by rw[gg.rd];rfl
  simp only[bn,bd,fZ,if_true,e4,bo,ak,q3 (show 3<4 by omega),b6,cT,Nat.zero_add,vu,vc,jG (et.ext bC (by omega))];rw[yZ];have cL:=vJ (oc 3 (by omega));have lW:=M.ok.lvl _ _ _ cL;have e6:pre p (3+1)=p:=by simp[pre]
  rw[e6];refine bS (B_ (oo.ext bC) (show fP (g.aV 11) A t _ _ from Obj.ext fU bC (by omega)) (by show t<g.next+11;omega) lW.2.2 (by have:=M.node _ ⟨_,_,cL⟩;omega) (show p%8<8 by omega) (.inr au)) ?_;rintro _ YO ⟨rfl,⟨fE,ys,AK⟩,hq⟩;simp only[dh];rw[qU]at cL;have R:=M.done mz aD cL au ys;have Aq:fP YO A t (nodeAt aK 0 0) aK.dX:=Obj.aq (Obj.ext fU bC (by omega)) hq (by show t<g.next+11;omega) (λe=>mA.1 (.inl e));refine aJ.pure ⟨rfl,_,_,_,_,R,AK,⟨Aq,?_,R.ok,λf aB=>by have:=R.node f aB;omega⟩,?_,by omega,by omega,λar=> ?_⟩
  ·have:=hq.next;have:(g.aV 11).next=g.next+11:=rfl;omega
  ·exact(u.trans (aF.ext bC)).trans (hq.mono λi _ e=>.inl (.inl e))
  ·have CH:k=4:=by
    apply Classical.byContradiction;intro aj
    have pS:∀d l,l+d=3->T.aZ l (pre p l)≠none:=by
     intro d;induction d with
     |zero=>intro l jl;obtain rfl:l=3:=by omega
            rw[qU];exact ar
     |succ d bI=>intro l jl;have:=x.ok.par l _ (bI (l+1) (by omega));rwa[nm p (by omega)]at this
    exact pS (3-k) k (by omega) (iW (by omega))
   refine⟨by omega,?_⟩;funext l q;show aK.aZ l q=T.aZ l q;cases aA:T.aZ l q with
   |some a=>exact M.ca _ _ _ aA
   |none=>
    cases qv:aK.aZ l q with
    |none=>rfl
    |some a=>
     rcases M.only l q (by rw[qv];simp)with e|e
     ·exact absurd aA e
     ·have al_:=(M.ok.lvl _ _ _ qv).1;have:=ku l (by omega);rw[<-e]at this;exact absurd aA this
end
end
section
variable{PV:cw} [db PV]
section
variable{h:ag}{A:fB}{mem held:Nat->Nat}{free:Nat}
theorem VN(s:fh h A mem held free){t r nn:Nat}(fU:fP h A t r nn)(aN:t<h.next){node:Nat}(al:node<A.n)(aC:held node≠0) :
  bN (call ai PV (.func 262 [] []) [.ptr t 0,.int .i64 node] h) λv g=>∃b,v=.bool b/\(b=true↔∀i,i<8->eZ mem node i=.zero)/\aX h g:=by
 refine cF ad4 rfl ?_
 refine gW (I:=λi vs g=>vs=[.bool false,.int .i64 (i:Nat)]/\(∀j,j<i->eZ mem node j=.zero)/\aX h g) 8 (by omega)
  (P:=λx vs g=>aX h g/\((x=.exit 0/\(∃a b,vs=[a,b])/\∀i,i<8->eZ mem node i=.zero)\/(x=.ret/\(∃b,vs=[.bool false,b])/\¬∀i,i<8->eZ mem node i=.zero)))
  ⟨rfl,by omega,aF.refl _ _⟩ ?_ ?_
 ·rintro i vs g U ⟨rfl,aI,u⟩;simp only[bn,bd,cQ,ak,a1,decide_eq_true_eq];by_cases dR:i=8
  ·rw[if_neg (by omega)];exact aJ.pure (.inr ⟨by simp,u,.inl ⟨rfl,⟨_,_,rfl⟩,λj az=>aI j (by omega)⟩⟩)
  ·rw[if_pos (by omega)];refine bS (y3 (s.ext u) (show fP g A t _ nn from Obj.ext fU u aN) (Nat.lt_of_lt_of_le aN u.next) al aC (show i<8 by omega)) λv bH ⟨cm,dD⟩=> ?_
   subst cm;have aw:bF .i64 ((i:Int) +1)=((i+1:Nat) :Int):=by rw[wrap_i64 (by omega) (by omega)];simp
   simp only[px,ak,afo,a1,decide_eq_true_eq];by_cases ao:eZ mem node i=.zero
   ·rw[if_neg (λe=>e ao)];simp only[cP,aw,ak];refine aJ.pure (.inl ⟨rfl,by omega,rfl,λj az=> ?_,u.trans dD⟩);by_cases e:j=i
    ·subst e;exact ao
    ·exact aI j (by omega)
   ·rw[if_pos ao];exact aJ.pure (.inr ⟨by simp,u.trans dD,.inr ⟨rfl,⟨_,rfl⟩,λaA=>ao (aA i (by omega))⟩⟩)
 ·rintro x vs g ⟨u,⟨rfl,⟨a,b,rfl⟩,aI⟩ |⟨rfl,⟨b,rfl⟩,aI⟩⟩
  ·simp only[bn,bd,fZ,if_true];exact aJ.pure ⟨true,rfl,by simpa using aI,u⟩
  ·simp only[bn,bd,qj];exact aJ.pure ⟨false,rfl,by simpa using aI,u⟩
theorem R6{t:Nat}{T:c0}(s:fh h A mem held free)(x:oC h A mem held t T.dX T)(h1:∀f,IsNode T f->held f=1)(mz:p_ T)(qB:free<=4096)(mA:¬hn A t/\t≠0)
  {p:Nat} (he:T.ent p≠.zero) :
  bN (call ai PV (.func 174 [] []) [.ptr t 0,.int .i64 p] h) λv g=>v=.tuple [(T.ent p).dz,.int .i64 0]/\∃b7 cf b4 aK,wM A.n mem held free T p .zero b7 cf b4 aK/\fh g A b7 cf b4/\oC g A b7 cf t aK.dX aK/\
   aF (λi=>hn A i\/i=t) h g/\free<=b4/\b4<=free+3:=by
 have aD:=x.ok.bq he
 have pS:∀l,l<4->T.aZ l (pre p l)≠none:=by
  have:∀d l,l+d=3->T.aZ l (pre p l)≠none:=by
   intro d;induction d with
   |zero=>intro l ar;obtain rfl:l=3:=by omega
          rw[qU];exact x.ok.own p he
   |succ d bI=>intro l ar;have:=x.ok.par l _ (bI (l+1) (by omega));rwa[nm p (by omega)]at this
  exact λl ar=>this (3-l) l (by omega)
 refine cF ado rfl ?_;refine b1 sN λg1 bU dF aW=> ?_
 have bU:a6.Obj g1 h.next ba.zero.vs:=bU;refine bS (Sd (s.ext aW) (x.ext aW) p) ?_;rintro _ g2 ⟨rfl,a_⟩;rw[if_neg (by omega),if_neg he];have tI:=a_.next;simp only[fM,List.getElem?_cons_zero,List.getElem?_cons_succ,ak];refine b1 sN λg3 b8 eH bw=> ?_
 have hl:=bU.ext (a_.trans bw) (by omega);refine cb (pe (cs:=(T.ent p).vs) b8 rfl (by simp[ba.vs]) rfl) λg4 ⟨c5,bA,gb⟩=> ?_
 have c5:=dC c5 rfl;have gR:=hl.aq bA (by omega) (by omega);have jS:aX h g4:=((aW.trans a_).trans bw).local bA (λi U e=>by have:=aW.next;omega);simp only[dc,ak,a1];rw[if_neg (by decide)];have p4:=x.ext jS;refine bS (KX (s.ext jS) p4.obj p4.lt x.ok x.held aD) ?_;rintro _ g5 ⟨k,rfl,a',c8,ku,iW,bZ⟩
 obtain rfl:k=4:=by apply Classical.byContradiction;intro aj;exact pS k (by omega) (iW (by omega))
 have tJ:=bZ.next;simp only[fM,List.getElem?_cons_zero,List.getElem?_cons_succ,ak];refine b1 (h:=g5) q0 λg6 di n6 b3=> ?_
 refine cb (sX (cs:=eD T p 4) di (by simp[eD]) (by simp[eD]) (by simp[eD,dT])) λg7 ⟨dP,dM,n7⟩=> ?_
 have dP:=dC dP (by simp[eD]);have Bc:=bZ.trans b3;have vM:=(gR.ext Bc (by omega)).aq dM (by omega) (by omega);have afY:=(c5.ext Bc (by omega)).aq dM (by omega) (by omega);have s3:aX h g7:=(jS.trans Bc).local dM (λi U e=>by have:=jS.next;omega);refine bS (F0 g7 (p:=p) (by omega)) λv g8 ⟨cm,u8⟩=> ?_
 subst cm;have NO:=u8.next;refine b1 (h:=g8) q0 λg9 su n9 e2=> ?_
 refine cb (sX (cs:=kO p) su rfl (by simp[kO]) rfl) λg10 ⟨mH,gV,n10⟩=> ?_
 have mH:=dC mH rfl;have EP:=u8.trans e2;have bC:aX g10 (g10.aV 11):=aF.aV _ _ _;have afL:=((vM.ext EP (by omega)).aq gV (by omega) (by omega)).ext bC (by omega);have afZ:=((afY.ext EP (by omega)).aq gV (by omega) (by omega)).ext bC (by omega);have PW:=((dP.ext EP (by omega)).aq gV (by omega) (by omega)).ext bC (by omega);have PN:=mH.ext bC (by omega);have EN:aX h (g10.aV 11):=((s3.trans EP).local gV (λi U e=>by have:=s3.next;omega)).trans bC;have sq:(g10.aV 11).next=g10.next+11:=rfl
 have bo:bF .i64 (((4:Nat) :Int) -1)=((3:Nat) :Int):=by decide
 have vu:bE (g10.aV 11) g5.next 3=some (.int .i64 (nodeAt T p 3:Nat)):=by rw[PW.rd];exact wE (by omega) (by omega)
 have vc:bE (g10.aV 11) g8.next 3=some (lg p 3):=by rw[PN.rd];rfl
 simp only[e4,bo,ak,q3 (show 3<4 by omega),b6,Nat.zero_add,vu,vc,px];rw[yZ,show pre p (3+1)=p by simp[pre]];have Hg:=vJ (pS 3 (by omega));have aay:=x.ok.lvl _ _ _ Hg;have E2:=x.ext EN;have bK:=x.lt;have af:∀i,hn A i->i<h.next:=λi U=>s.lt U
 refine bS (B_ (s.ext EN) E2.obj E2.lt aay.2.2 (x.held _ ⟨_,_,Hg⟩) (show p%8<8 by omega) (.inl rfl)) ?_;rintro _ g11 ⟨rfl,⟨fE,ys,AK⟩,hq⟩;have mT:=af A.b (.inl rfl);have aaI:=hq.next;have amu:=EN.next;have Vd:=nG.start (p:=p) (free:=free) x.ok h1 (by rw[<-qU];exact Hg) ys;simp only[dh,e4,bo,ak]
 refine gW (I:=λj vs g=>∃b7 cf b4 aK,vs=[.int .i64 ((3-j:Nat) :Int)]/\nG A.n mem held free T p (3-j) b7 cf b4 aK/\(∀l,l<=3-j->aK.aZ l (pre p l)=some (nodeAt T p l))/\
   fh g A b7 cf b4/\fP g A t (nodeAt aK 0 0) aK.dX/\a6.Obj g h.next ba.zero.vs/\a6.Obj g g2.next (T.ent p).vs/\a6.Obj g g5.next (eD T p 4)/\a6.Obj g g8.next (kO p)/\aF (λi=>hn A i\/i=t) h g/\free<=b4/\b4<=free+j/\g11.next<=g.next) 3 (by omega)
  (P:=λx vs g=>x=.exit 0/\(∃a,vs=[a])/\∃b7 cf b4 aK k,nG A.n mem held free T p k b7 cf b4 aK/\(k=0\/∃f,k<=3/\aK.aZ k (pre p k)=some f/\∃i,i<8/\pz (b7 f) i≠.zero)/\
    fh g A b7 cf b4/\fP g A t (nodeAt aK 0 0) aK.dX/\a6.Obj g h.next ba.zero.vs/\a6.Obj g g2.next (T.ent p).vs/\aF (λi=>hn A i\/i=t) h g/\free<=b4/\b4<=free+3/\g11.next<=g.next)
  ⟨_,_,_,_,rfl,Vd,λl ar=>vJ (pS l (by omega)),AK,Obj.aq E2.obj hq E2.lt (λe=>mA.1 (.inl e)),afL.aq hq (by omega) (by omega),afZ.aq hq (by omega) (by omega),PW.aq hq (by omega) (by omega),PN.aq hq (by omega) (by omega),
   (aF.ext EN).trans (hq.mono λi _ e=>.inl (.inl e)),Nat.le_refl _,by omega,Nat.le_refl _⟩ ?_ ?_
 ·rintro j vs g az ⟨b7,cf,b4,aK,rfl,G,gl,oo,fU,jK,xZ,ni,gg,u,qA,tF,xv⟩;simp only[bn,bd,hO,ak,cJ,decide_eq_true_eq];by_cases av:j=3
  ·subst av;have dI:¬(0:Int) <((3-3:Nat) :Int):=by omega
   rw[show decide ((0:Int) <((3-3:Nat) :Int))=false by decide];simp only[Bool.false_eq_true,if_false,cO,bn,bd,cB,ak,a1];exact aJ.pure (.inr ⟨by simp,rfl,⟨_,rfl⟩,b7,cf,b4,aK,0,G,.inl rfl,oo,fU,jK,xZ,u,qA,tF,xv⟩)
  ·have dI:(0:Int) <((3-j:Nat) :Int):=by omega
   rw[decide_eq_true dI,if_pos dI];have lu:=u.next;have vu:bE g g5.next (3-j)=some (.int .i64 (nodeAt T p (3-j) :Nat)):=by rw[ni.rd];exact wE (by omega) (by omega)
   simp only[q3 (show 3-j<4 by omega),ak,b6,Nat.zero_add,vu];have cL:=gl (3-j) (Nat.le_refl _);have lW:=G.ok.lvl _ _ _ cL;have r6:=G.node _ ⟨_,_,cL⟩;refine fV (P:=λy vs bH=>y=.normal/\∃b,vs=[.bool b]/\(b=true↔∀i,i<8->eZ b7 (nodeAt T p (3-j)) i=.zero)/\aX g bH) (bS (VN oo fU (by omega) lW.2.2 (by omega)) ?_) ?_
   ·rintro _ bH ⟨b,rfl,hi,dD⟩;exact aJ.pure ⟨rfl,b,rfl,hi,dD⟩
   ·rintro _ _ bH ⟨rfl,b,rfl,hi,dD⟩;have qG:=dD.next;have Qu:=jK.ext dD (by omega);have P9:=xZ.ext dD (by omega);have P0:=ni.ext dD (by omega);have DI:=gg.ext dD (by omega);have JJ:=oo.ext dD;have Aq:fP bH A t _ _:=Obj.ext fU dD (by omega);have UC:aF (λi=>hn A i\/i=t) h bH:=u.trans (aF.ext dD);simp only[bn,bd,cB,if_true,ak,a1];cases b with
    |false=>
     simp only[Bool.false_eq_true,if_false]
     have aaU:∃i,i<8/\pz (b7 (nodeAt T p (3-j))) i≠.zero:=by
      apply Classical.byContradiction;intro aA
      have:false=true:=hi.2 λi U=>by apply Classical.byContradiction;exact λaI=>aA ⟨i,U,aI⟩
      cases this
     exact aJ.pure (.inr ⟨by simp,rfl,⟨_,rfl⟩,b7,cf,b4,aK,3-j,G,.inr ⟨_,by omega,cL,aaU⟩,JJ,Aq,Qu,P9,UC,qA,by omega,by omega⟩)
    |true=>
     have aI:∀i,i<8->pz (b7 (nodeAt T p (3-j))) i=.zero:=hi.1 rfl;simp only[if_true];have ra:aX bH (bH.aV 8):=aF.aV _ _ _;have amQ:(bH.aV 8).next=bH.next+8:=rfl
     have r0:=Obj.get (show fP (bH.aV 8) A t _ _ from Obj.ext Aq ra (by omega)) (i:=0) rfl;have HA:bE (bH.aV 8) g5.next (3-j)=some (.int .i64 (nodeAt T p (3-j) :Nat)):=by rw[(P0.ext ra (by omega)).rd];exact wE (by omega) (by omega)
     simp only[b2,ak,A0,gK,r0,q3 (show 3-j<4 by omega),b6,Nat.zero_add,HA];refine bS (bN.ex (B4 (JJ.ext ra).p lW.2.2 (by omega) (by omega) (by omega))) ?_;rintro _ g12 ⟨rfl,DN,il⟩;rw[r6,if_pos rfl]at DN;have amg:=il.next
     have od:∀i,h.next<=i->¬(i=A.q\/i=A.p):=λi U e=>by
      rcases e with e|e
      ·have:=af i (.inr (.inl e));omega
      ·have:=af i (.inr (.inr e));omega
     have D4:fh g12 A b7 (aq cf (nodeAt T p (3-j)) (1-1)) (b4+1):=⟨(JJ.ext ra).wid il (by rintro(e|e);exact s.j_.2.2 e.symm;exact s.j_.1 e.symm),DN,s.j_⟩;have Qp:fP g12 A t (nodeAt aK 0 0) aK.dX:=Obj.aq (Obj.ext Aq ra (by omega)) il (by omega) (λe=>mA.1 (e.elim (λe=>.inr (.inl e)) λe=>.inr (.inr e)));have agJ:=(Qu.ext ra (by omega)).aq il (by omega) (od _ (by omega));have aga:=(P9.ext ra (by omega)).aq il (by omega) (od _ (by omega));have DH:=(P0.ext ra (by omega)).aq il (by omega) (od _ (by omega));have af9:=(DI.ext ra (by omega)).aq il (by omega) (od _ (by omega));have rX:=BU aK
     have Nl:({aK with aZ:=cr aK.aZ (3-j) (pre p (3-j)) none} :c0).dX+1=aK.dX:=by have:=BV aK (l:=3-j) (q:=pre p (3-j)) (by omega) (DR aD (by omega)) none aK.ent;rw[cL]at this;simpa using this
     have e6:bF .i64 ((aK.dX:Int) -1)=(({aK with aZ:=cr aK.aZ (3-j) (pre p (3-j)) none} :c0).dX:Int):=by rw[wrap_i64 (by omega) (by omega)];omega
     have cK:=Obj.get Qp (i:=2) rfl;simp only[dh,b2,ak,J4,Nat.zero_add,b6,cK,e4,e6];refine cb (Qp.nodes _) λg13 ⟨agz,kb,n13⟩=> ?_
     have wx:aX g13 (g13.aV 11):=aF.aV _ _ _;have amR:(g13.aV 11).next=g13.next+11:=rfl
     have Jz:=(D4.ca kb ⟨λe=>mA.1 (.inr (.inr e.symm)),λe=>mA.1 (.inl e.symm),λe=>mA.1 (.inr (.inl e.symm)),λe=>mA.2 e.symm⟩).ext wx;have Qq:fP (g13.aV 11) A t (nodeAt aK 0 0) _:=Obj.ext agz wx (by omega);have agK:=(agJ.aq kb (by omega) (by omega)).ext wx (by omega);have agb:=(aga.aq kb (by omega) (by omega)).ext wx (by omega);have P2:=(DH.aq kb (by omega) (by omega)).ext wx (by omega);have P8:=(af9.aq kb (by omega) (by omega)).ext wx (by omega);have jC:bF .i64 (((3-j:Nat) :Int) -1)=((3-(j+1) :Nat) :Int):=by rw[wrap_i64 (by omega) (by omega)];omega
     have abL:bE (g13.aV 11) g5.next (3-(j+1))=some (.int .i64 (nodeAt T p (3-(j+1)) :Nat)):=by rw[P2.rd];exact wE (by omega) (by omega)
     have ZQ:bE (g13.aV 11) g8.next (3-(j+1))=some (lg p (3-(j+1))):=by rw[P8.rd];rcases(by omega:j=0\/j=1\/j=2)with rfl|rfl|rfl<;>rfl
     simp only[e4,jC,ak,q3 (show 3-(j+1) <4 by omega),b6,Nat.zero_add,abL,ZQ,px];rw[yZ,show 3-(j+1) +1=3-j by omega];have zE:=gl (3-(j+1)) (by omega);have aaz:=G.ok.lvl _ _ _ zE;have aaN:nodeAt T p (3-(j+1))≠nodeAt T p (3-j):=λe=>by rw[e]at zE;have:=G.ok.inj _ _ _ _ _ zE cL;omega
     refine bS (B_ Jz Qq (by omega) aaz.2.2 (by rw[ed _ _ aaN];have:=G.node _ ⟨_,_,zE⟩;omega) (show pre p (3-j) %8<8 by omega) (.inl rfl)) ?_;rintro _ g14 ⟨rfl,⟨amI,ajS,ah8⟩,hK⟩;have amh:=hK.next;have Lb:=nG.step (l:=3-(j+1)) (Gw:=b4+1) (by rw[show 3-(j+1) +1=3-j by omega];exact G) aD (by omega) zE (by rw[show 3-(j+1) +1=3-j by omega];exact cL) aI (by rw[show 3-(j+1) +1=3-j by omega];exact ajS) rfl;rw[show 3-(j+1) +1=3-j by omega]at Lb
     have Hp:nodeAt {aK with aZ:=cr aK.aZ (3-j) (pre p (3-j)) none} 0 0=nodeAt aK 0 0:=by
      unfold nodeAt;show(cr aK.aZ (3-j) (pre p (3-j)) none 0 (pre 0 0)).getD 0=_
      have:¬(0=3-j):=by omega
      simp[cr,this]
     refine aJ.pure (.inl ⟨rfl,by omega,_,_,_,_,rfl,Lb,?_,ah8,?_,agK.aq hK (by omega) (by omega),agb.aq hK (by omega) (by omega),P2.aq hK (by omega) (by omega),P8.aq hK (by omega) (by omega),?_,by omega,by omega,by omega⟩)
     ·intro l ar;show(if l=3-j/\pre p l=pre p (3-j)then none else aK.aZ l (pre p l))=_;rw[if_neg (λe=>by omega)];exact gl l (by omega)
     ·rw[Hp];exact Obj.aq Qq hK (by omega) (λe=>mA.1 (.inl e))
     ·have KB:aF (λi=>hn A i\/i=t) h g12:=(UC.trans (aF.ext ra)).trans (il.mono λi _ e=>.inl (e.elim (λe=>.inr (.inl e)) λe=>.inr (.inr e)));have nv:aF (λi=>hn A i\/i=t) h g13:=KB.trans (kb.mono λi _ e=>.inr e);exact(nv.trans (aF.ext wx)).trans (hK.mono λi _ e=>.inl (.inl e))
 ·rintro _ vs g ⟨rfl,⟨a,rfl⟩,b7,cf,b4,aK,k,G,aj,oo,fU,jK,xZ,u,qA,tF,xv⟩;have lu:=u.next;simp only[bn,bd,fZ,if_true,jG xZ,ak];refine cb (pe (cs:=(T.ent p).vs) jK rfl (by simp[ba.vs]) rfl) λbH ⟨bL,dD,ga⟩=> ?_
  have bL:=dC bL rfl;rw[jG bL];have R:=G.done mz aD aj;have pa:=af A.p (.inr (.inr rfl));have amU:=af A.q (.inr (.inl rfl));have z0:=s.w.lt;refine aJ.pure ⟨rfl,b7,cf,b4,aK,R,oo.ca dD ⟨by omega,by omega,by omega,by omega⟩,⟨Obj.aq fU dD (by omega) (by omega),by omega,R.ok,λf aB=>by have:=R.node f aB;omega⟩,u.local dD (λi U e=>by omega),qA,tF⟩
end
end
section
variable{PV:cw} [db PV]
structure im where
 d:Nat
 b:Nat
 n:Nat
structure eX(h:ag)(D:im)(sec:Nat->Nat)(dH:Nat) :Prop where
 n:1<=D.n/\D.n<=16384
 s:dH<=16384
 lt:D.d<h.next/\D.b<h.next
 ne:D.d≠D.b
 str:∃ex r w,a6.Obj h D.d [.slice D.b 0 (64*D.n) (64*D.n) 1 ex,.int .i64 dH,.int .i64 r,.int .i64 w]
 bytes:∃st N,h.get D.b=.bytes (64*D.n) st N/\∀i,i<D.n->bT N (64*i) 64=sec i
section
variable{h g:ag}{D:im}{sec:Nat->Nat}{dH:Nat}
theorem eX.aq{S:Nat->Prop}(k:eX h D sec dH)(u:aF S h g)(au:¬S D.d/\¬S D.b) :eX g D sec dH where
 n:=k.n
 s:=k.s
 lt:=⟨Nat.lt_of_lt_of_le k.lt.1 u.next,Nat.lt_of_lt_of_le k.lt.2 u.next⟩
 ne:=k.ne
 str:=let⟨ex,r,w,o⟩:=k.str;⟨ex,r,w,o.aq u k.lt.1 au.1⟩
 bytes:=by rw[u.get _ k.lt.2 au.2];exact k.bytes
theorem eX.ext(k:eX h D sec dH)(u:aX h g) :eX g D sec dH:=k.aq u ⟨λe=>e,λe=>e⟩
theorem eX.aic(k:eX h D sec dH){i:Nat}(U:i<D.n) :sec i<2^512:=by obtain⟨st,N,_,gD⟩:=k.bytes;rw[<-gD i U];exact ky _ _ _
theorem ais(h:ag){id off len cap l r:Nat}{ex:Bool}(h1:l<=r)(aa:r<=cap) :
  ik ai h 135 (.slice id off len cap 1 ex) (some (.int .i64 l)) (some (.int .i64 r)) (some (.int .i64 r))=some (.slice id (off+l) (r-l) (r-l) 1 true):=by
 have aw:ai.ty 135=some pg:=by kernel_rfl
 have aL:ai.ty 5=some ow:=by kernel_rfl
 show jP ai h 135 (.slice id off len cap 1 ex) (some (l:Int)) (some (r:Int)) (some (r:Int))=_;simp only[jP,aw]
 show(match iv len cap ex (some (l:Int)) (some (r:Int)) (some (r:Int)),ai.ty 5 with
  |some (l,h,m,ex),some ie=>bif Nat.beq ie.size 1 then some (J.slice id (off+l*1) (h-l) (m-l) 1 ex)else none
  |_,_=>none)=_
 rw[aL];simp only[iv,mY h1,mY aa,mY (Nat.le_refl r)];show some (J.slice id (off+l*1) (r-l) (r-l) 1 true)=_;rw[Nat.mul_one]
theorem aie(k:eX h D sec dH) :call ai PV (.func 134 [] []) [.ptr D.d 0] h=some (.int .i64 (D.n:Nat),h):=by
 obtain⟨ex,r,w,o⟩:=k.str;have al:=k.n;refine ac7 (x:=.ret) (vs:=[.int .i64 (D.n:Nat)]) (first:=[]) (cap:=[]) ?_ rfl;have aw:((64*D.n:Nat) :Int).tdiv 64=((64*D.n/64:Nat) :Int):=rfl;have aL:64*D.n/64=D.n:=by omega
 have bo:bF .i64 ((D.n:Nat) :Int)=(D.n:Int):=wrap_i64 (by omega) (by omega);simp only[Sv,ak,a1,Bool.false_eq_true,if_false,b2,R8,Si,Obj.get o (i:=0) rfl,ajU,yP .i64 (show(64:Int)≠0 by decide),aw,aL,bo]
theorem aid(k:eX h D sec dH){i:Nat}(U:i<D.n) :call ai PV (.func 76 [] []) [.ptr D.d 0,.int .i64 i] h=some (.slice D.b (64*i) 64 64 1 true,h):=by
 obtain⟨ex,r,w,o⟩:=k.str;have al:=k.n;refine aet (x:=.ret) (vs:=[.slice D.b (64*i) 64 64 1 true]) (first:=[]) (cap:=[]) ?_ rfl;have aw:bF .i64 ((i:Int) *64)=((64*i:Nat) :Int):=by rw[wrap_i64 (by omega) (by omega)];omega
 have aL:bF .i64 (((64*i:Nat) :Int) +64)=((64*i+64:Nat) :Int):=by rw[wrap_i64 (by omega) (by omega)];omega
 simp only[k',aw,ak,b2,R8,Si,Obj.get o (i:=0) rfl,cP,aL];rw[ais h (by omega) (by omega)];simp only[ak,Nat.zero_add,show 64*i+64-64*i=64 by omega]
theorem UH(k:eX h D sec dH){i:Nat}(U:i<D.n){qb:J}{Q:J->ag->Prop}(aA:bN (call ai PV qb [.slice D.b (64*i) 64 64 1 true] h) Q) :bN (call ai PV (.func 141 [] []) [.ptr D.d 0,.int .i64 i,qb] h) Q:=by
 refine cF ac8 rfl ?_;have dI:¬(i:Int) <0:=by omega
 have bc:¬(D.n:Int)<=(i:Int):=by omega
 simp only[Sv,ak,a1,Bool.false_eq_true,if_false,cQ,decide_eq_false dI,cJ,if_true,aie k,c1,fk,decide_eq_false bc,cO,bn,bd,cB,aid k U];exact bS aA λv g ay=>aJ.pure ay
theorem eX.count(k:eX h D sec dH){j:Nat}(az:j=2\/j=3)(v:Int) :∃g,dU ai h 3 (.ptr D.d j) (.int .i64 v)=some g/\(eX g D sec dH/\aF (λi=>i=D.d) h g/\g.next=h.next):=by
 obtain⟨ex,r,w,o⟩:=k.str;obtain⟨g,e,bL,u,n⟩:=kC (k:=j) (v:=.int .i64 v) o (by simp;omega) rfl rfl;refine⟨g,e,⟨k.n,k.s,by rw[n];exact k.lt,k.ne,?_,by rw[u.get _ k.lt.2 (λe=>k.ne e.symm)];exact k.bytes⟩,u,n⟩;rcases az with rfl|rfl
 ·exact⟨ex,v,w,bL⟩
 ·exact⟨ex,r,v,bL⟩
theorem eX.field(k:eX h D sec dH){j:Nat}(az:j=2\/j=3) :∃v,bE h D.d j=some (.int .i64 v):=by
 obtain⟨ex,r,w,o⟩:=k.str;rcases az with rfl|rfl
 ·exact⟨r,o.rd 2⟩
 ·exact⟨w,o.rd 3⟩
theorem Mm(k:eX h D sec dH){i:Nat}(U:i<D.n) :bN (call ai PV (.func 131 [] []) [.ptr D.d 0,.int .i64 i] h) λv g=>v=.tuple [.str 64 (sec i),.int .i64 0]/\eX g D sec dH/\aF (λj=>j=D.d) h g:=by
 refine cF ac6 rfl ?_;refine b1 (R5 (cs:=[.ptr D.d 0]) rfl) λg1 bU dF aW=> ?_
 refine b1 R1 λg2 cc dS a_=> ?_
 refine cb (EI (v:=.str 0 0) cc (by simp) rfl rfl) λg3 ⟨b8,bw,eH⟩=> ?_
 have bK:=k.lt;have hl:=(bU.ext a_ (by omega)).aq bw (by omega) (by omega);have ej:aX h g3:=(aW.trans a_).local bw (λj az e=>by omega);simp only[wc,Obj.get hl (i:=0) rfl,ak];have bY:=k.ext ej;refine bS (UH bY U (Q:=λv g=>v=.int .i64 0/\eX g D sec dH/\aF (λj=>j=D.d\/j=g1.next) g3 g/\a6.Obj g g1.next [.str 64 (sec i)]) ?_) ?_
 ·refine cF adA rfl ?_;obtain⟨rv,ah⟩:=bY.field (.inl rfl);simp only[wc,Obj.get hl (i:=0) rfl,ak,b2,ajx,Nat.zero_add,b6,ah,cP];refine cb (bY.count (.inl rfl) _) λg4 ⟨c8,bA,gb⟩=> ?_
  obtain⟨st,N,af,gD⟩:=c8.bytes;have aA:=yY g4 (id:=D.b) (off:=64*i) (len:=64) (cap:=64) (ex:=true) af (by omega) (by omega);rw[gD i U]at aA;rw[aA];simp only[ak];have vN:=b8.aq bA (by omega) (by omega);refine cb (EI (v:=.str 64 (sec i)) vN (by simp) rfl rfl) λg5 ⟨cS,bZ,n5⟩=> ?_
  exact aJ.pure ⟨rfl,c8.aq bZ ⟨by omega,by omega⟩,(bA.mono λj _ e=>.inl e).trans (bZ.mono λj _ e=>.inr e),cS⟩
 ·rintro _ g4 ⟨rfl,c8,bA,c5⟩;simp only[EE,Obj.get c5 (i:=0) rfl,ak];exact aJ.pure ⟨rfl,c8,(aF.ext (S:=λj=>j=D.d) ej).local bA (λj az e=>by omega)⟩
theorem aih(k:eX h D sec dH){i m:Nat}(U:i<D.n)(hm:m<2^512){st:Bool}{N:Nat}(af:h.get D.b=.bytes (64*D.n) st N)(gD:∀i,i<D.n->bT N (64*i) 64=sec i) :
  eX (h.put D.b (.bytes (64*D.n) st (dq N (64*i) 64 m))) D (aq sec i m) dH where
 n:=k.n
 s:=k.s
 lt:=k.lt
 ne:=k.ne
 str:=let⟨ex,r,w,o⟩:=k.str;⟨ex,r,w,o.o6 (nM k.ne)⟩
 bytes:=by
  refine⟨st,_,kR _ _ _,λj az=> ?_⟩;have hU:m<2^(8*64):=hm;by_cases e:j=i
  ·subst e;rw[vL hU,e3]
  ·rw[DB hU (by omega),ed _ _ e];exact gD j az
theorem XF(k:eX h D sec dH){i m:Nat}(U:i<D.n)(au:dH<=i)(hm:m<2^512) :bN (call ai PV (.func 53 [] []) [.ptr D.d 0,.int .i64 i,.str 64 m] h) λv g=>v=.int .i64 0/\eX g D (aq sec i m) dH/\aF (λj=>j=D.d\/j=D.b) h g:=by
 refine cF aeq rfl ?_;refine b1 (R5 (cs:=[.ptr D.d 0]) rfl) λg1 bU dF aW=> ?_
 refine b1 (AY (cs:=[.int .i64 (i:Nat)]) rfl) λg2 cc dS a_=> ?_
 refine b1 (ajl (cs:=[.str 64 m]) rfl) λg3 b8 eH bw=> ?_
 have bK:=k.lt;have hl:=bU.ext (a_.trans bw) (by omega);have DF:=cc.ext bw (by omega);have ej:aX h g3:=(aW.trans a_).trans bw;simp only[wc,b6,Obj.get hl (i:=0) rfl,Obj.get DF (i:=0) rfl,ak];have bY:=k.ext ej;refine bS (UH bY U (Q:=λv g=>v=.int .i64 0/\eX g D (aq sec i m) dH/\aF (λj=>j=D.d\/j=D.b) g3 g) ?_) ?_
 ·refine cF ac9 rfl ?_;have bC:aX g3 (g3.aV 7):=aF.aV _ _ _;have tR:=bY.ext bC;have IF:(g3.aV 7).next=g3.next+7:=rfl
  obtain⟨am2,hw⟩:=tR.field (.inr rfl);have jm:bE (g3.aV 7) D.d 1=some (.int .i64 (dH:Nat)):=by obtain⟨ex,r,w,o⟩:=tR.str;exact o.rd 1
  have bc:¬(i:Int) <(dH:Int):=by omega
  rw[cT]at hw jm;simp only[EE,Obj.get b8 (i:=0) rfl,ak,xO,dc,a1];rw[if_neg (by decide)];simp only[wc,b6,Obj.get hl (i:=0) rfl,Obj.get DF (i:=0) rfl,cT,ak,b2,ajw,ajy,Nat.zero_add,jm,hw,cQ,a1,dh,decide_eq_true_eq,if_neg bc,cP];refine cb (tR.count (.inr rfl) _) λg4 ⟨c8,bA,gb⟩=> ?_
  have vN:=(b8.ext bC (by omega)).aq bA (by omega) (by omega);obtain⟨st,N,af,gD⟩:=c8.bytes;simp only[EE,Obj.get vN (i:=0) rfl,ak];rw[FW (id:=D.b) (off:=64*i) (l:=64) (len:=64) (cap:=64) (ex:=true) af (by omega) (Nat.le_refl _) (by omega)];have lx:m%2^(8*64)=m:=Nat.mod_eq_of_lt hm;rw[lx];exact aJ.pure ⟨rfl,aih c8 U hm af gD,((aF.ext bC).trans (bA.mono λj _ e=>.inl e)).trans (aF.put _ (.inr rfl))⟩
 ·rintro _ g4 ⟨rfl,c8,bA⟩;exact aJ.pure ⟨rfl,c8,(aF.ext ej).trans bA⟩
end
end
end Go.Proofs.YtkdjcmpgnkecfaaGreatDoor
namespace Go.a6
theorem xd{α:Type} :∀(l:List α) (i:Nat) (t:bj α) (k:Nat),(bj.oe l i t).get k=if i<=k/\k<i+l.length then l[k-i]? else t.get k
 |[],i,t,k=>by rw[if_neg (by simp only[List.length_nil];omega)];rfl
 |x::xs,i,t,k=>by
  unfold bj.oe;rw[xd xs (i+1) (t.set i x) k,bj.kq,List.length_cons];by_cases h:k=i
  ·subst h;rw[if_neg (by omega),if_pos rfl,if_pos (by omega),Nat.sub_self];rfl
  ·by_cases bg:i+1<=k/\k<i+1+xs.length
   ·rw[if_pos bg,if_pos (by omega),show k-i=(k-(i+1)) +1 by omega];rfl
   ·rw[if_neg bg,if_neg h,if_neg (by omega)]
section
variable{E:Env}{T e:TypeId}{si ie:bm}
theorem Fp(aN:E.ty T=some si)(ao:si.desc=.slice e)(he:E.ty e=some ie)(hu:hF ie.desc=false)(h1:1<=ie.size){h:ag}{b len:Nat}{old:List J}(o:Obj h b old)(hlen:old.length=len*ie.size)
  {xid xoff n xcap:Nat} {xex:Bool} {new:List J} (ab:jM h xid xoff ((n+1) *ie.size)=some new) (iS:new.length=(n+1) *ie.size) (au:new.all dT=true) (ah:roomy (len+(n+1)) ie.bytes=true) :
  ∃g,fJ E h T T (.slice b 0 len len ie.size false) (.slice xid xoff (n+1) xcap ie.size xex)=some (.slice h.next 0 (len+(n+1)) (len+(n+1)) ie.size false,g)/\(Obj g h.next (old++new)/\aF (λi=>i=b) h g/\g.next=h.next+1):=by
 obtain⟨z,t,af⟩:=o.live;let bP:bp:=.cells ((len+(n+1)) *ie.size) false z (bj.oe new (len*ie.size) t);refine⟨(h.put b .dead).new bP,?_,⟨⟨z,bj.oe new (len*ie.size) t,?_⟩,λi=> ?_⟩,?_,rfl⟩
 ·have hle:Nat.ble (len+(n+1)) len=false:=by rw[<-Bool.not_eq_true,dr];omega
  have rU:Nat.beq ie.size ie.size=true:=beq_true.2 rfl;have jk:Nat.ble 1 ie.size=true:=dr.2 h1;have ev:Nat.ble (len*ie.size) old.length=true:=dr.2 (by omega)
  have aE:pC h b false (λst=>.cells ((len+(n+1)) *ie.size) st z (bj.oe new (len*ie.size) t))=some ((h.put b .dead).new bP):=by unfold pC;rw[af];rfl
  simp only[fJ,aN,ao,he,kv,hu]
  show(bif Nat.beq ie.size ie.size&&Nat.ble 1 ie.size then match jM h xid xoff ((n+1) *ie.size)with
   |none=>none
   |some new=>bif Nat.beq ie.size ie.size&&new.all dT then
    bif Nat.ble (len+(n+1)) len then match jc h b (0+len*ie.size) new with
     |some h=>some (J.slice b 0 (len+(n+1)) len ie.size false,h)
     |none=>none
    else bif roomy (len+(n+1)) ie.bytes then
     match h.get b,Nat.beq 0 0 with
     | .cells size _ zero t,true=>bif Nat.ble (len*ie.size) size then
      match pC h b false (λst=>.cells ((len+(n+1)) *ie.size) st zero (bj.oe new (len*ie.size) t))with
      |some g=>some (.slice h.next 0 (len+(n+1)) (len+(n+1)) ie.size false,g)
      |none=>none
      else none
     |o,_=>match o.read 0 (len*ie.size)with
      |none=>none
      |some old=>match pC h b false (λst=>.cells ((len+(n+1)) *ie.size) st [] (bj.ofList (old++new)))with
       |some g=>some (.slice h.next 0 (len+(n+1)) (len+(n+1)) ie.size false,g)
       |none=>none
    else none else none else none)=_
  rw[ab];simp only[rU,jk,au,hle,ah,Bool.and_true,cond_true,cond_false,af]
  show(bif Nat.ble (len*ie.size) old.length then match pC h b false (λst=>.cells ((len+(n+1)) *ie.size) st z (bj.oe new (len*ie.size) t))with
   |some g=>some (J.slice h.next 0 (len+(n+1)) (len+(n+1)) ie.size false,g)
   |none=>none
   else none)=_
  rw[ev,aE];rfl
 ·show((h.put b .dead).new bP).get (h.put b .dead).next=_
  rw[mf,List.length_append,hlen,iS,<-Nat.add_mul]
 ·have h0:=o.rd i;unfold bE at h0|-;show(((h.put b .dead).new bP).get (h.put b .dead).next).cell i=_;rw[mf];rw[af]at h0;simp only[bP,bp.cell]at h0|-;rw[xd,<-hlen,iS];have CW:(len+(n+1)) *ie.size=old.length+(n+1) *ie.size:=by rw[Nat.add_mul,hlen]
  by_cases U:i<old.length
  ·rw[if_neg (by omega),c4.2 (by omega),List.getElem?_append_left U];rw[c4.2 U]at h0;exact h0
  ·rw[List.getElem?_append_right (by omega)];by_cases r3:i<old.length+(n+1) *ie.size
   ·rw[if_pos ⟨by omega,r3⟩,c4.2 (by omega)];rw[List.getElem?_eq_getElem (by omega)];rfl
   ·rw[show Nat.blt i ((len+(n+1)) *ie.size)=false by rw[<-Bool.not_eq_true,c4];omega,List.getElem?_eq_none (by omega)];rfl
 ·exact(aF.put (S:=λi=>i=b) .dead rfl).trans (aF.new _ _ _)
theorem BE(aN:E.ty T=some si)(ao:si.desc=.slice e)(he:E.ty e=some ie)(hu:hF ie.desc=false)(h1:1<=ie.size){h:ag}
  {xid xoff n xcap:Nat} {xex:Bool} {new:List J} (ab:jM h xid xoff ((n+1) *ie.size)=some new) (iS:new.length=(n+1) *ie.size) (ah:roomy (n+1) ie.bytes=true) :
  ∃g,fJ E h T T .bh (.slice xid xoff (n+1) xcap ie.size xex)=some (.slice h.next 0 (n+1) (n+1) ie.size false,g)/\(Obj g h.next new/\aX h g/\g.next=h.next+1):=by
 refine⟨h.new (.cells new.length false [] (bj.ofList new)),?_,Obj.new h new false [],aF.new _ _ _,rfl⟩;have rU:Nat.beq ie.size ie.size=true:=beq_true.2 rfl;have jk:Nat.ble 1 ie.size=true:=dr.2 h1;simp only[fJ,aN,ao,he,kv,hu,ab,rU,jk,ah,Bool.and_true,cond_true,iS]
theorem Fq(aN:E.ty T=some si)(ao:si.desc=.slice e)(he:E.ty e=some ie){h:ag}{s:J}(au:s=.bh\/∃a b c d e f,s=.slice a b c d e f){x:J}(ab:kv x=some 0) :
  fJ E h T T s x=some (s,h):=by
 rcases au with rfl|⟨a,b,c,d,cR,f,rfl⟩<;>simp only[fJ,aN,ao,he,ab]
end
def Row(h:ag)(sz lo:Nat)(v:J)(rows:List (List J)) :Prop:=
 (∀r,r∈rows->r.length=sz)/\((v=.bh/\rows=[])\/∃b,v=.slice b 0 rows.length rows.length sz false/\lo<=b/\b<h.next/\Obj h b rows.flatten)
theorem rM{sz:Nat} :∀{rows:List (List J)},(∀r,r∈rows->r.length=sz)->rows.flatten.length=rows.length*sz
 |[],_=>by simp
 |r::rows,h=>by rw[List.flatten_cons,List.length_append,h r (by simp),rM (λx ab=>h x (by simp[ab])),List.length_cons,Nat.succ_mul];omega
theorem Row.nil(h:ag)(sz lo:Nat) :Row h sz lo .bh []:=⟨by simp,.inl ⟨rfl,rfl⟩⟩
theorem Row.aq{h g:ag}{sz lo:Nat}{v:J}{rows:List (List J)}(r:Row h sz lo v rows){S:Nat->Prop}(u:aF S h g)(au:∀i,lo<=i->i<h.next->¬S i) :Row g sz lo v rows:=by
 refine⟨r.1,?_⟩;rcases r.2 with h1|⟨b,h1,aa,av,aO⟩
 ·exact .inl h1
 ·exact .inr ⟨b,h1,aa,Nat.lt_of_lt_of_le av u.next,aO.aq u av (au b aa av)⟩
theorem Row.ext{h g:ag}{sz lo:Nat}{v:J}{rows:List (List J)}(r:Row h sz lo v rows)(u:aX h g) :Row g sz lo v rows:=r.aq u λ_ _ _ e=>e
theorem Row.push{E:Env}{T e:TypeId}{si ie:bm}(aN:E.ty T=some si)(ao:si.desc=.slice e)(he:E.ty e=some ie)(hu:hF ie.desc=false)(h1:1<=ie.size){h:ag}{lo:Nat}{v:J}{rows:List (List J)}(r:Row h ie.size lo v rows)
  {xid xcap:Nat} {xex:Bool} {new:List J} (et:Obj h xid new) (iS:new.length=ie.size) (au:new.all dT=true) (ah:roomy (rows.length+1) ie.bytes=true) (eU:lo<=h.next) :
  ∃w g,fJ E h T T v (.slice xid 0 1 xcap ie.size xex)=some (w,g)/\(Row g ie.size lo w (rows++[new])/\aF (λi=>lo<=i) h g/\g.next=h.next+1):=by
 have ab:jM h xid 0 ((0+1) *ie.size)=some new:=by have:=et.here;rw[iS]at this;simpa using this
 rcases r.2 with⟨rfl,rfl⟩ |⟨b,rfl,aa,av,o⟩
 ·obtain⟨g,g1,g2,g3,g4⟩:=BE aN ao he hu h1 (n:=0) (xcap:=xcap) (xex:=xex) ab (by omega) (by simpa using ah);exact⟨_,g,g1,⟨by simpa using iS,.inr ⟨h.next,rfl,eU,by omega,by simpa using g2⟩⟩,g3.mono λ_ _ e=>e.elim,g4⟩
 ·obtain⟨g,g1,g2,g3,g4⟩:=Fp aN ao he hu h1 (n:=0) (xcap:=xcap) (xex:=xex) (len:=rows.length) o (rM r.1) ab (by omega) au ah;refine⟨_,g,g1,⟨?_,.inr ⟨h.next,by simp,eU,by omega,by simpa using g2⟩⟩,g3.mono λi _ e=>by subst e;exact aa,g4⟩;intro y an;rcases List.mem_append.1 an with an|an
  ·exact r.1 y an
  ·rw[List.mem_singleton]at an;subst an;exact iS
theorem Cf{sz:Nat} :∀{rows:List (List J)} {i:Nat} {r:List J},(∀r,r∈rows->r.length=sz)->rows[i]? =some r->(rows.flatten.drop (i*sz)).take sz=r
 |[],i,r,_,U=>by simp at U
 |x::rows,0,r,h,U=>by simp at U;subst U;rw[Nat.zero_mul,List.drop_zero,List.flatten_cons,List.take_append_of_le_length (by rw[h x (by simp)];exact Nat.le_refl _)];exact List.take_of_length_le (by rw[h x (by simp)];exact Nat.le_refl _)
 |x::rows,i+1,r,h,U=>by rw[List.flatten_cons,List.drop_append,h x (by simp),show(i+1) *sz-sz=i*sz by rw[Nat.succ_mul];omega];rw[List.drop_of_length_le (by rw[h x (by simp),Nat.succ_mul];omega),List.nil_append];exact Cf (λy an=>h y (by simp[an])) (by simpa using U)
theorem Row.len{h:ag}{sz lo:Nat}{v:J}{rows:List (List J)}(r:Row h sz lo v rows){E:Env}{T e:TypeId}{si:bm}(aN:E.ty T=some si)(ao:si.desc=.slice e) :eW E h T v=some (.int .i64 (rows.length:Nat)):=by
 rcases r.2 with⟨rfl,rfl⟩ |⟨b,rfl,_⟩
 ·exact H7 aN ao h
 ·exact H8 aN ao h _ _ _ _ _ _
theorem Row.at{h:ag}{sz lo:Nat}{v:J}{rows:List (List J)}(r:Row h sz lo v rows){i:Nat}{x:List J}(U:rows[i]? =some x) :
  ∃b,v=.slice b 0 rows.length rows.length sz false/\lo<=b/\b<h.next/\Obj h b rows.flatten/\i<rows.length/\(i+1) *sz<=rows.flatten.length/\(rows.flatten.drop (i*sz)).take sz=x:=by
 obtain⟨bK,_⟩:=List.getElem?_eq_some_iff.1 U;rcases r.2 with⟨rfl,rfl⟩ |⟨b,rfl,aa,av,o⟩
 ·simp at bK
 ·exact⟨b,rfl,aa,av,o,bK,by rw[rM r.1];exact Nat.mul_le_mul_right _ bK,Cf r.1 U⟩
end Go.a6
namespace Go.Proofs.YtkdjcmpgnkecfaaGreatDoor
open Go.a6
section
variable{PV:cw} [db PV]
def aH.vs(r:aH) :List J:=[.int .i64 r.lo,.int .i64 r.U,.int .i64 r.perm,.int .i64 r.kind,.int .i64 r.file,.int .i64 r.bq]
def mS(r:aH) :Prop:= -1099511627776<=r.lo/\r.lo<=1099511627776/\ -1099511627776<=r.U/\r.U<=1099511627776/\ -1099511627776<=r.bq/\r.bq<=1099511627776
theorem tW{r:aH}(h:r.may=true) :mS r:=by
 have k:=lB h;unfold mS;by_cases aj:r.kind=1
 ·simp only[aj,if_true]at k;omega
 ·simp only[aj,if_false]at k;omega
theorem ahT(h:ag)(r:aH) :bN (call ai PV (.func 160 [] []) [.agg r.vs] h) λv g=>v=.bool r.may/\aX h g:=by
 refine cF ade rfl ?_;refine b1 (o_ (cs:=r.vs) rfl) λg o n u=> ?_
 have r0:=Obj.get o (i:=0) rfl;have cg:=Obj.get o (i:=1) rfl;have cK:=Obj.get o (i:=2) rfl;have dG:=Obj.get o (i:=3) rfl;have eu:=Obj.get o (i:=4) rfl;have gS:=Obj.get o (i:=5) rfl;have fin:∀b:Bool,b=r.may->aJ (some (.ret,[J.bool b],g)) λ_ vs bH=>iY vs=.bool r.may/\aX h bH:=λb af=>aJ.pure ⟨by rw[af];rfl,u⟩
 have no:(¬(0<=r.lo/\r.lo<r.U/\r.U<=4096/\0<=r.perm/\r.perm<=7))->false=r.may:=λaA=>by
  cases hm:r.may with
  |false=>rfl
  |true=>have:=lB hm;exact absurd ⟨this.1,this.2.1,this.2.2.1,this.2.2.2.1,this.2.2.2.2.1⟩ aA
 simp only[uw,sR,Ew,o',J8,Ex,Nat.zero_add,b6,r0,cg,cK,dG,eu,gS,ak,cQ,h2,hO,fk,c2];by_cases bc:r.lo<0
 ·simp only[r0,cg,cK,dG,eu,gS,cQ,h2,hO,fk,c2,decide_eq_true bc,cJ,Bool.true_eq_false,if_false,cO,bn,bd,cB,if_true,ak,a1];exact fin _ (no (by omega))
 simp only[r0,cg,cK,dG,eu,gS,cQ,h2,hO,fk,c2,decide_eq_false bc,cJ,if_true,cO,bn,bd,cB,Bool.false_eq_true,if_false,ak];by_cases bW:r.U<=r.lo
 ·simp only[r0,cg,cK,dG,eu,gS,cQ,h2,hO,fk,c2,decide_eq_true bW,cJ,Bool.true_eq_false,if_false,cO,bn,bd,cB,if_true,ak,a1];exact fin _ (no (by omega))
 simp only[r0,cg,cK,dG,eu,gS,cQ,h2,hO,fk,c2,decide_eq_false bW,cJ,if_true,cO,bn,bd,cB,Bool.false_eq_true,if_false,ak];by_cases dA:(4096:Int) <r.U
 ·simp only[r0,cg,cK,dG,eu,gS,cQ,h2,hO,fk,c2,decide_eq_true dA,cJ,Bool.true_eq_false,if_false,cO,bn,bd,cB,if_true,ak,a1];exact fin _ (no (by omega))
 simp only[r0,cg,cK,dG,eu,gS,cQ,h2,hO,fk,c2,decide_eq_false dA,cJ,if_true,cO,bn,bd,cB,Bool.false_eq_true,if_false,ak];by_cases e5:r.perm<0
 ·simp only[r0,cg,cK,dG,eu,gS,cQ,h2,hO,fk,c2,decide_eq_true e5,cJ,Bool.true_eq_false,if_false,cO,bn,bd,cB,if_true,ak,a1];exact fin _ (no (by omega))
 simp only[r0,cg,cK,dG,eu,gS,cQ,h2,hO,fk,c2,decide_eq_false e5,cJ,if_true,cO,bn,bd,cB,Bool.false_eq_true,if_false,ak];by_cases kk:(7:Int) <r.perm
 ·simp only[r0,cg,cK,dG,eu,gS,cQ,h2,hO,fk,c2,decide_eq_true kk,a1,if_true];exact fin _ (no (by omega))
 simp only[r0,cg,cK,dG,eu,gS,cQ,h2,hO,fk,c2,decide_eq_false kk,a1,Bool.false_eq_true,if_false]
 have mq:r.may=decide (if r.kind=1 then 0<=r.file/\0<=r.bq/\r.bq<=1073741824-(r.U-r.lo)else 1<r.kind/\r.kind<=4/\r.file= -1/\r.bq=0):=by
  unfold aH.may;rw[decide_eq_decide];constructor
  ·rintro⟨_,_,_,_,_,aC⟩;exact aC
  ·intro aC;exact⟨by omega,by omega,by omega,by omega,by omega,aC⟩
 have aw:bF .i64 (r.U-r.lo)=r.U-r.lo:=wrap_i64 (by omega) (by omega);have aL:bF .i64 (1073741824-(r.U-r.lo))=1073741824-(r.U-r.lo):=wrap_i64 (by omega) (by omega);by_cases lP:r.kind=1
 ·simp only[r0,cg,cK,dG,eu,gS,cQ,h2,hO,fk,c2,decide_eq_true lP,if_true,e4,aw,aL]
  by_cases d1:(0:Int)<=r.file<;>by_cases d2:(0:Int)<=r.bq<;>by_cases d3:r.bq<=1073741824-(r.U-r.lo)<;>
   simp only[r0,cg,cK,dG,eu,gS,cQ,h2,hO,fk,c2,e4,aw,aL,d1,d2,d3,decide_true,decide_false,cJ,if_true,if_false,Bool.false_eq_true,Bool.true_eq_false,cO,bn,bd,cB,ak,h2]<;>
   exact fin _ (by rw[mq];simp[lP,d1,d2,d3])
 ·simp only[r0,cg,cK,dG,eu,gS,cQ,h2,hO,fk,c2,decide_eq_false lP,Bool.false_eq_true,if_false]
  by_cases d1:(1:Int) <r.kind<;>by_cases d2:r.kind<=4<;>by_cases d3:r.file= -1<;>by_cases d4:r.bq=0<;>
   simp only[r0,cg,cK,dG,eu,gS,cQ,h2,hO,fk,c2,e4,aw,aL,d1,d2,d3,d4,decide_true,decide_false,cJ,if_true,if_false,Bool.false_eq_true,Bool.true_eq_false,cO,bn,bd,cB,ak]<;>
   exact fin _ (by rw[mq];simp[lP,d1,d2,d3,d4])
theorem agj(h:ag){a b:aH}(aU:mS a)(af:mS b) :bN (call ai PV (.func 243 [] []) [.agg a.vs,.agg b.vs] h) λv g=>v=.bool (a.one b)/\aX h g:=by
 refine cF adR rfl ?_;refine b1 (o_ (cs:=a.vs) rfl) λg1 bU dF aW=> ?_
 refine b1 (o_ (cs:=b.vs) rfl) λg o n u=> ?_
 have bU:=bU.ext u (by omega);have u:=aW.trans u;have a0:=Obj.get bU (i:=0) rfl;have aQ:=Obj.get bU (i:=1) rfl;have a2:=Obj.get bU (i:=2) rfl;have a3:=Obj.get bU (i:=3) rfl;have a4:=Obj.get bU (i:=4) rfl;have a5:=Obj.get bU (i:=5) rfl;have k_:=Obj.get o (i:=0) rfl;have eS:=Obj.get o (i:=2) rfl;have fY:=Obj.get o (i:=3) rfl;have iN:=Obj.get o (i:=4) rfl;have kM:=Obj.get o (i:=5) rfl;unfold mS at aU af;have aw:bF .i64 (a.bq+a.U)=a.bq+a.U:=wrap_i64 (by omega) (by omega);have aL:bF .i64 (a.bq+a.U-a.lo)=a.bq+a.U-a.lo:=wrap_i64 (by omega) (by omega);have fin:∀c:Bool,c=a.one b->aJ (some (.ret,[J.bool c],g)) λ_ vs bH=>iY vs=.bool (a.one b)/\aX h bH:=λc aA=>aJ.pure ⟨by rw[aA];rfl,u⟩
 have no:(¬(a.U=b.lo/\a.perm=b.perm/\a.kind=b.kind/\a.file=b.file/\(a.kind=1->b.bq=a.bq+a.U-a.lo)))->false=a.one b:=λaA=>by unfold aH.one;rw[decide_eq_false aA]
 simp only[uw,sR,Ew,o',J8,Ex,Nat.zero_add,b6,a0,aQ,a2,a3,a4,a5,k_,eS,fY,iN,kM,ak,dc,c2,cP,e4,aw,aL];by_cases d1:a.U≠b.lo
 ·simp only[a0,aQ,a2,a3,a4,a5,k_,eS,fY,iN,kM,dc,c2,cP,e4,aw,aL,decide_eq_true d1,cJ,Bool.true_eq_false,if_true,if_false,Bool.false_eq_true,cO,bn,bd,cB,ak,a1];exact fin _ (no (λaA=>d1 aA.1))
 simp only[a0,aQ,a2,a3,a4,a5,k_,eS,fY,iN,kM,dc,c2,cP,e4,aw,aL,decide_eq_false d1,cJ,Bool.true_eq_false,if_true,if_false,Bool.false_eq_true,cO,bn,bd,cB,ak];by_cases d2:a.perm≠b.perm
 ·simp only[a0,aQ,a2,a3,a4,a5,k_,eS,fY,iN,kM,dc,c2,cP,e4,aw,aL,decide_eq_true d2,cJ,Bool.true_eq_false,if_true,if_false,Bool.false_eq_true,cO,bn,bd,cB,ak,a1];exact fin _ (no (λaA=>d2 aA.2.1))
 simp only[a0,aQ,a2,a3,a4,a5,k_,eS,fY,iN,kM,dc,c2,cP,e4,aw,aL,decide_eq_false d2,cJ,Bool.true_eq_false,if_true,if_false,Bool.false_eq_true,cO,bn,bd,cB,ak];by_cases d3:a.kind≠b.kind
 ·simp only[a0,aQ,a2,a3,a4,a5,k_,eS,fY,iN,kM,dc,c2,cP,e4,aw,aL,decide_eq_true d3,cJ,Bool.true_eq_false,if_true,if_false,Bool.false_eq_true,cO,bn,bd,cB,ak,a1];exact fin _ (no (λaA=>d3 aA.2.2.1))
 simp only[a0,aQ,a2,a3,a4,a5,k_,eS,fY,iN,kM,dc,c2,cP,e4,aw,aL,decide_eq_false d3,cJ,Bool.true_eq_false,if_true,if_false,Bool.false_eq_true,cO,bn,bd,cB,ak];by_cases d4:a.file≠b.file
 ·simp only[a0,aQ,a2,a3,a4,a5,k_,eS,fY,iN,kM,dc,c2,cP,e4,aw,aL,decide_eq_true d4,cJ,Bool.true_eq_false,if_true,if_false,Bool.false_eq_true,cO,bn,bd,cB,ak,a1];exact fin _ (no (λaA=>d4 aA.2.2.2.1))
 simp only[a0,aQ,a2,a3,a4,a5,k_,eS,fY,iN,kM,dc,c2,cP,e4,aw,aL,decide_eq_false d4,cJ,Bool.true_eq_false,if_true,if_false,Bool.false_eq_true,cO,bn,bd,cB,ak,a1];by_cases d5:a.kind≠1
 ·simp only[a0,aQ,a2,a3,a4,a5,k_,eS,fY,iN,kM,dc,c2,cP,e4,aw,aL,decide_eq_true d5,cJ,Bool.true_eq_false,if_true,if_false,Bool.false_eq_true,cO,bn,bd,cB,ak];exact fin _ (by unfold aH.one;rw[eq_comm,decide_eq_true_eq];exact⟨by omega,by omega,by omega,by omega,λh=>absurd h d5⟩)
 simp only[a0,aQ,a2,a3,a4,a5,k_,eS,fY,iN,kM,dc,c2,cP,e4,aw,aL,decide_eq_false d5,cJ,Bool.true_eq_false,if_true,if_false,Bool.false_eq_true,cO,bn,bd,cB,ak]
 exact fin _ (by
  unfold aH.one;rw[decide_eq_decide];constructor
  ·intro h;exact⟨by omega,by omega,by omega,by omega,λ_=>h⟩
  ·rintro⟨_,_,_,_,h⟩;exact h (by omega))
end
end Go.Proofs.YtkdjcmpgnkecfaaGreatDoor
end
