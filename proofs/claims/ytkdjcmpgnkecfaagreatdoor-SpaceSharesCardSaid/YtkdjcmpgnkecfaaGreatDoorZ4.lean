/-
  Texts J2 T1 L6 N0 R0 C0 C1 C2 B0 L7 L8 L9 C3 G0 D0 D1 D2 D3 D4 D5 L10 W1 W2 W3, joined; own names made short.
-/
import Derived.Test.YtkdjcmpgnkecfaaGreatDoorZ3
set_option linter.unusedVariables false
set_option linter.unusedSimpArgs false
set_option linter.unusedSectionVars false
set_option exponentiation.threshold 600
noncomputable section
namespace Go.Proofs.YtkdjcmpgnkecfaaGreatDoor
open Go
theorem alP:Tryz.prog.funcs.any Func.goes=false:=by kernel_rfl
theorem FD{c:OpenClaim}(aA:c.start=.entering) :false=c.goesBy Tryz.prog:=by
 have h:=alP
 have bC:∀g:Nat,(Tryz.prog.funcs[g]?).any Func.goes=false:=by
  intro g;cases aN:Tryz.prog.funcs[g]? with
  |none=>rfl
  |some fn=>
   have:=Array.any_eq_false.1 h g (Array.getElem?_eq_some_iff.1 aN).1;rw[(Array.getElem?_eq_some_iff.1 aN).2]at this;simpa using this
 have ab:∀f:FuncId,Tryz.prog.goes f=false:=by intro f;unfold Program.goes;rw[h,Bool.and_false,Bool.or_false,List.any_eq_false];intro g _;rw[bC g];simp
 unfold OpenClaim.goesBy Program.goesAt Program.goesFrom;rw[aA];cases Tryz.prog.funcNamed c.func with
 |none=>rfl
 |some f=>simp[ab f]
section
open Go.a8 Go.ChangeShapes Go.WideShapes Go.ChangeAt Go.RowKit Go.Deep
theorem GL{p:cn}{fs:List Fact}{σ:Nat->Int}(afV:∀f,f∈fs->f.ok Tryz.prog σ)(yn:dL Tryz.prog (env fs) σ->vB Tryz.prog (env fs) σ p){N:Nat}{f:FuncId}{fn:Func}(iD:(env fs).fn f=some fn)(aj:fn.body=some (fn.body.getD .skip)){args:List aa}{v:aa}{bC:ae}
  (he:(fns (env fs) p N).call (.func f [] []) args dB=some (v,bC)) {us:Array Value} (hu:∀μ,cy σ μ args us.toList) {W:World} (dB:laidMetH Tryz.prog lR W) :
  Calls Tryz.prog f us W λe j'=>(∃μ q,e=.returned q/\bL σ μ v q)/\Below W.heap.size W j':=by
 obtain⟨c,t,aH,hw⟩:=amt dB;have ok:=S0 fs σ afV;have rel:=anY (σ:=σ) aH hw;refine(Sl ok (Fw ok (yn ok) N) iD aj he (μ:=qN c.size) (w:=W) (us:=us) (λg aN=> ?_) rel (hu _)).mono λe j' ⟨q,bS,h1,ab,al,aE⟩=>⟨⟨bS,q,h1,ab⟩,RX al aE ?_⟩
 ·have:g=0:=by
   have:g<1:=aN;omega
  subst this;exact⟨c.size,rfl⟩
 ·rintro b ⟨id,loc,o,hm,bg,ay,_⟩;obtain⟨rfl,rfl⟩:=A7 id o bg;cases ay
def HU(t:bu aa) :Nat->List Int->Bool
 |_,[]=>true
 |i,n::l=>(match t.get i with
  |some (.int k m)=>lH k .i64&&jW m n
  |_=>false) &&HU t (i+1) l
theorem Yj{t:bu aa} :∀{l:List Int} {i:Nat},HU t i l=true->∀(j:Nat) (n:Int),l[j]? =some n->t.get (i+j)=some (.int .i64 n)
 |[],_,_,j,n,h=>by cases h
 |m::l,i,aW,j,n,h=>by
  simp only[HU,Bool.and_eq_true]at aW;obtain⟨h1,ab⟩:=aW;cases j with
  |zero=>
   cases h;split at h1
   ·rename_i k fB aN;simp only[Bool.and_eq_true]at h1;rw[Nat.add_zero,aN,l'.1 h1.1,J_.1 h1.2]
   ·cases h1
  |succ j=>
   have:=Yj ab j n (by simpa using h);rw[<-this];congr 1;omega
def DR:List aa->ae->Option (aa×ae)
 |[],h=>match h.get 0 with
  | .ro n t=>bif Nat.beq n 10&&HU t 0 kG then some (.bool true,h)else none
  |_=>none
 |_,_=>none
theorem anZ{W:World}{c:Array Value}{t:TypeId}{fr:Nat×Nat}{σ:Nat->Int}(aH:W.heap[0]? =some (.cells c t fr))(fw:∀i,i<c.size->¬(fr.1<=i/\i<fr.2))(hw:∀(i:Nat) (n:Int),kG[i]? =some n->c[i]? =some (.int .i64 n)) :dU σ (qN c.size) dB W.heap where
 obj:=λid loc o hm bg=>by
  obtain⟨rfl,rfl⟩:=A7 id o bg;simp only[qN,if_true,Option.some.injEq]at hm;subst hm;have c6:=hw 9 8 rfl;have eR:9<c.size:=(Array.getElem?_eq_some_iff.1 c6).1;refine⟨rfl,c,t,fr,aH,by simp,by show 10<=c.size;omega,(λe=>by cases e),fw,λi af=> ?_⟩;have fh:i<kG.length:=af;refine⟨.int .i64 kG[i],.int .i64 kG[i],?_,?_,rfl⟩
  ·show(bif Nat.blt i 10 then bu.get (bu.ofList (kG.map (aa.int .i64))) i else none)=_;rw[dM.2 af,bu.xu,List.getElem?_map,List.getElem?_eq_getElem fh];rfl
  ·have:=hw i kG[i] (List.getElem?_eq_getElem fh);simpa using this
 inj:=λi j l bQ af aO _ _ _=>by
  unfold qN at af aO;by_cases h1:i=0
  ·by_cases ab:j=0
   ·rw[h1,ab]
   ·rw[if_neg ab]at aO;cases aO
  ·rw[if_neg h1]at af;cases af
 lt:=λid loc hm=>by
  unfold qN at hm;by_cases h1:id=0
  ·rw[if_pos h1]at hm;cases hm;exact(Array.getElem?_eq_some_iff.1 aH).1
  ·rw[if_neg h1]at hm;cases hm
 hW:=λid hid=>by unfold qN;rw[if_neg];have:1<=id:=hid;omega
 k8:=λid hid=>by
  cases h:dB.dS.get id with
  |none=>rfl
  |some o=>
   obtain⟨rfl,_⟩:=A7 id o h;have:1<=0:=hid;omega
theorem aqu{f:FuncId}{fn:Func}(iD:∀fs,(env fs).fn f=some fn)(aj:fn.body=some (fn.body.getD .skip)){N:Nat}
  (he:((fns (env []) qh N).call (.func f [] []) [] dB).map (·.1)=some (.bool true)) {fs:List Fact} {σ:Nat->Int} (ok:dL Tryz.prog (env fs) σ) :y6 Tryz.prog (env fs) σ f DR:=by
 intro args h v bC aI μ w us aN rel hu;cases an:(fns (env []) qh N).call (.func f [] []) [] dB with
 |none=>rw[an]at he;cases he
 |some r=>
  obtain⟨v0,h0⟩:=r;rw[an]at he;simp only[Option.map_some,Option.some.injEq]at he;subst he;unfold DR at aI;split at aI
  ·rename_i ag;split at aI
   ·rename_i n t me;replace aI:=dV aI;obtain⟨pt,aI⟩:=aI;cases aI;simp only[Bool.and_eq_true]at pt;have aw:=a8.beq_true.1 pt.1;subst aw;obtain⟨room,hm⟩:=aN 0 (by show 0<1;omega);have bg:=ae.nk (h:=h) (id:=0) (by rw[me];exact λe=>by cases e);rw[me]at bg;obtain⟨_,c,E,fr,aH,eR,iG,_,fw,mR⟩:=rel.obj 0 _ _ hm bg
    have hw:∀(i:Nat) (n:Int),kG[i]? =some n->c[i]? =some (.int .i64 n):=by
     intro i n af
     have FW:i<10:=by have:=(List.getElem?_eq_some_iff.1 af).1;simpa [kG]using this
     obtain⟨a,y,h1,ab,al⟩:=mR i FW;have sL:(bif Nat.blt i 10 then bu.get t i else none)=some a:=h1;have aW:=Yj pt.2 i n af;rw[Nat.zero_add]at aW;rw[dM.2 FW,cond_true,aW]at sL;cases sL;rw[show(0:Nat) +i=i by omega]at ab;rw[ab,show y=_ from al]
    have bw:us= #[]:=by apply Array.ext';exact hu
    subst bw;have M1:=S0 [] (λ_=>0) (λf aJ=>by cases aJ);have anX:=anZ (σ:=λ_=>0) aH fw hw;refine JA ok (iD fs) aj rel ((Sl M1 (Fw M1 (WX M1) N) (iD []) aj an (μ:=qN c.size) (w:=w) (us:= #[]) (λg aN=> ?_) anX rfl).mono λe j' ⟨q,bS,h1,ab,al,aE⟩=>⟨q,h1,ab,RX al aE ?_⟩)
    ·have:g=0:=by
      have:g<1:=aN;omega
     subst this;exact⟨c.size,rfl⟩
    ·rintro b ⟨id,loc,o,hm,bg,ay,_⟩;obtain⟨rfl,rfl⟩:=A7 id o bg;cases ay
   ·cases aI
  ·cases aI
end
end Go.Proofs.YtkdjcmpgnkecfaaGreatDoor
namespace Go.a8
section
@[simp] theorem ar {α:Type} (a:α) (k:α->Option a1) :U (some a) k=k a:=rfl
@[simp] theorem asA {α:Type} (k:α->Option a1) :U none k=none:=rfl
@[simp] theorem c3 (v:aa) (h:ae) (k:aa->ae->Option a1) :a7 (some (v,h)) k=k v h:=rfl
@[simp] theorem asB (k:aa->ae->Option a1) :a7 none k=none:=rfl
@[simp] theorem oG (f:Nat->aa) (ob:bT) (h:ae) (k:aa->ae->Option a1) :ca (some (f,ob)) h k=k (f h.next) (h.new ob):=rfl
@[simp] theorem Je (f:Nat->aa) (ob:bT) (id:Nat) (h:ae) (k:aa->ae->Option a1) :qi (some (f,ob)) id h k=k (f id) (h.put id ob):=rfl
@[simp] theorem c4 (x:eb) (vs:List aa) (h:ae) (k:eb->List aa->ae->Option a1) :bG (some (x,vs,h)) k=k x vs h:=rfl
@[simp] theorem asC (k:eb->List aa->ae->Option a1) :bG none k=none:=rfl
@[simp] theorem bz (v:aa) (vs:List aa) (k:aa->List aa->Option a1) :a_ (v::vs) k=k v vs:=rfl
@[simp] theorem bp (k:Option a1) :br [] k=k:=rfl
@[simp] theorem ba (b:Bool) (x y:Option a1) :bq (.bool b) x y=if b=true then x else y:=by cases b<;>rfl
@[simp] theorem cP (x w:Bool) (a b:Option a1) :b7 (.bool x) w a b=if x=w then a else b:=by cases x<;>cases w<;>rfl
@[simp] theorem Hh (w:Bool) (a b:Option a1) :b7 .undef w a b=b:=rfl
@[simp] theorem cF (b:Bool) (x y:aa) :bZ (.bool b) x y=some (if b=true then x else y):=by cases b<;>rfl
@[simp] theorem jd (a b:Option a1) (c:Nat->Option a1) :jF .normal a b c=a:=rfl
@[simp] theorem J7 (a b:Option a1) (c:Nat->Option a1) :jF .ret a b c=b:=rfl
@[simp] theorem asJ (i:Nat) (a b:Option a1) (c:Nat->Option a1) :jF (.exit i) a b c=c i:=rfl
@[simp] theorem pj (id:Nat) (a b:Option a1) (c:Nat->Option a1) :gD id .ret a b c=b:=rfl
@[simp] theorem hs (id i:Nat) (a b:Option a1) (c:Nat->Option a1) :gD id (.exit i) a b c=if i=id then a else c i:=by
 show(bif Nat.beq i id then a else c i)=_;by_cases h:i=id
 ·rw[if_pos h,beq_true.2 h];rfl
 ·rw[if_neg h,beq_false.2 h];rfl
@[simp] theorem eh (f:ae->Option aa) (v:aa) (k:Option a1) :bx [] f v k=k:=rfl
theorem ze{g:ae}{gs:List ae}{f:ae->Option aa}{v:aa}{k:Option a1}(h:f g=some v) :bx (g::gs) f v k=bx gs f v k:=by show(match f g with|some w=>bif aa.beq w v then bx gs f v k else none|none=>none)=_;rw[h];show(bif aa.beq v v then bx gs f v k else none)=_;rw[aa.beq_refl];rfl
end
section
variable{E:Env}{h:ae}{t:TypeId}
theorem wrap_i64{n:Int}(h1: -9223372036854775808<=n)(ab:n<9223372036854775808) :b0 .i64 n=n:=by rw[m_];simp only[IntKind.wrap,IntKind.bits,IntKind.signed];simp[Int.bmod];omega
theorem wrap_u64{n:Int}(h1:0<=n)(ab:n<18446744073709551616) :b0 .u64 n=n:=by rw[m_];simp only[IntKind.wrap,IntKind.bits,IntKind.signed];simp;omega
theorem wrap_u8{n:Int}(h1:0<=n)(ab:n<256) :b0 .u8 n=n:=by rw[m_];simp only[IntKind.wrap,IntKind.bits,IntKind.signed];simp;omega
@[simp] theorem du (k:IntKind) (a b:Int) :ax E h .add t (.int k a) (.int k b)=some (.int k (b0 k (a+b))):=by simp[ax,kZ,ni,nz]
@[simp] theorem fT (k:IntKind) (a b:Int) :ax E h .sub t (.int k a) (.int k b)=some (.int k (b0 k (a-b))):=by simp[ax,kZ,ni,nz]
@[simp] theorem nh (k:IntKind) (a b:Int) :ax E h .mul t (.int k a) (.int k b)=some (.int k (b0 k (a*b))):=by simp[ax,kZ,ni,nz]
theorem vF(k:IntKind){a b:Int}(aj:b≠0) :ax E h .quo t (.int k a) (.int k b)=some (.int k (b0 k (a.tdiv b))):=by
 have:jW b 0=false:=by rw[rn];simpa using aj
 simp[ax,kZ,ni,nz,this]
theorem tR(k:IntKind){a b:Int}(aj:b≠0) :ax E h .rem t (.int k a) (.int k b)=some (.int k (a.tmod b)):=by
 have:jW b 0=false:=by rw[rn];simpa using aj
 simp[ax,kZ,ni,nz,this]
@[simp] theorem xd (k:IntKind) (a b:Int) :ax E h .and t (.int k a) (.int k b)=some (.int k (jb k a b)):=by simp[ax,kZ,ni,nz,RJ]
@[simp] theorem RY (k:IntKind) (a b:Int) :ax E h .or t (.int k a) (.int k b)=some (.int k (r4 k a b)):=by simp[ax,kZ,ni,nz,WG]
@[simp] theorem dn (k:IntKind) (a b:Int) :ax E h .eql t (.int k a) (.int k b)=some (.bool (decide (a=b))):=by simp[ax,kZ,ni,nz,rn];rw[Bool.eq_iff_iff];simp
@[simp] theorem dP (k:IntKind) (a b:Int) :ax E h .neq t (.int k a) (.int k b)=some (.bool (decide (a≠b))):=by simp[ax,kZ,ni,nz,rn];rw[Bool.eq_iff_iff];simp
@[simp] theorem dk (k:IntKind) (a b:Int) :ax E h .lss t (.int k a) (.int k b)=some (.bool (decide (a<b))):=by simp[ax,kZ,ni,nz,oi]
@[simp] theorem jr (k:IntKind) (a b:Int) :ax E h .leq t (.int k a) (.int k b)=some (.bool (decide (a<=b))):=by simp[ax,kZ,ni,nz,wv]
@[simp] theorem iT (k:IntKind) (a b:Int) :ax E h .gtr t (.int k a) (.int k b)=some (.bool (decide (b<a))):=by simp[ax,kZ,ni,nz,oi]
@[simp] theorem gA (k:IntKind) (a b:Int) :ax E h .geq t (.int k a) (.int k b)=some (.bool (decide (b<=a))):=by simp[ax,kZ,ni,nz,wv]
theorem RZ(k j:IntKind)(a:Int)(n:Nat) :ax E h .shl t (.int k a) (.int j (.ofNat n))=some (.int k (b0 k (a*2^(min n k.bits)))):=by simp[ax,kZ,Dw]
theorem R0(k j:IntKind)(a:Int)(n:Nat) :ax E h .shr t (.int k a) (.int j (.ofNat n))=some (.int k (a.fdiv (2^(min n k.bits)))):=by simp[ax,kZ,Dw]
@[simp] theorem fD (b:Bool) :gQ .not (.bool b)=some (.bool !b):=rfl
@[simp] theorem auc (k:IntKind) (n:Int) :gQ .neg (.int k n)=some (.int k (b0 k (0-n))):=rfl
@[simp] theorem cl (a b:Nat) :bB (.ptr a b)=some (.ptr a b):=rfl
@[simp] theorem at3 (f:FuncId) (a b:List aa) :bB (.func f a b)=some (.func f a b):=rfl
@[simp] theorem dA (vs:List aa) (i:Nat) :cm (.tuple vs) i=vs[i]? :=rfl
@[simp] theorem asD (l a bQ b:Nat) :ax E h .eql t (.str l a) (.str bQ b)=some (.bool (Nat.beq l bQ&&Nat.beq a b)):=rfl
@[simp] theorem asE (l a bQ b:Nat) :ax E h .neq t (.str l a) (.str bQ b)=some (.bool (!(Nat.beq l bQ&&Nat.beq a b))):=rfl
@[simp] theorem Jk (l a bQ b:Nat) :ax E h .add t (.str l a) (.str bQ b)=AT l a bQ b:=rfl
end
section
theorem Tz(h:ae)(i j:Nat)(o:bT) :(h.put i o).get j=if j=i then o else h.get j:=by unfold ae.get;rw[nJ];by_cases e:j=i<;>simp[e]
theorem Ty(h:ae)(j:Nat)(o:bT) :(h.new o).get j=if j=h.next then o else h.get j:=by unfold ae.get;rw[oy];by_cases e:j=h.next<;>simp[e]
@[simp] theorem ln (h:ae) (i:Nat) (o:bT) :(h.put i o).get i=o:=by rw[Tz,if_pos rfl]
theorem ke{h:ae}{i j:Nat}{o:bT}(e:j≠i) :(h.put i o).get j=h.get j:=by rw[Tz,if_neg e]
@[simp] theorem ks (h:ae) (o:bT) :(h.new o).get h.next=o:=by rw[Ty,if_pos rfl]
theorem ug{h:ae}{j:Nat}{o:bT}(e:j<h.next) :(h.new o).get j=h.get j:=by rw[Ty,if_neg (by omega)]
@[simp] theorem TA (h:ae) (k j:Nat) :(h.aB k).get j=h.get j:=rfl
@[simp] theorem at0 (h:ae) (i:Nat) (o:bT) :(h.put i o).next=h.next:=rfl
@[simp] theorem Am (h:ae) (o:bT) :(h.new o).next=h.next+1:=rfl
@[simp] theorem at1 (h:ae) (k:Nat) :(h.aB k).next=h.next+k:=rfl
structure aM(S:Nat->Prop)(h bC:ae) :Prop where
 next:h.next<=bC.next
 get:∀i,i<h.next->¬S i->bC.get i=h.get i
abbrev bf(h bC:ae) :Prop:=aM (λ_=>False) h bC
theorem aM.refl(S:Nat->Prop)(h:ae) :aM S h h:=⟨Nat.le_refl _,λ_ _ _=>rfl⟩
theorem aM.trans{S:Nat->Prop}{a b c:ae}(x:aM S a b)(y:aM S b c) :aM S a c:=
 ⟨Nat.le_trans x.next y.next,λi af aA=>(y.get i (Nat.lt_of_lt_of_le af x.next) aA).trans (x.get i af aA)⟩
theorem aM.mono{S T:Nat->Prop}{a b:ae}(x:aM S a b)(ae0:∀i,i<a.next->S i->T i) :aM T a b:=⟨x.next,λi af aA=>x.get i af λh=>aA (ae0 i af h)⟩
theorem aM.new(S:Nat->Prop)(h:ae)(o:bT) :aM S h (h.new o):=⟨by simp,λi af _=>ug af⟩
theorem aM.put{S:Nat->Prop}{h:ae}{i:Nat}(o:bT)(aA:S i) :aM S h (h.put i o):=⟨by simp,λj _ aO=>ke λe=>aO (e▸aA)⟩
theorem aM.uW{S:Nat->Prop}{h g:ae}{i:Nat}(o:bT)(x:aM S h g)(af:h.next<=i) :aM S h (g.put i o):=⟨x.next,λj aO aA=>by rw[ke (by omega)];exact x.get j aO aA⟩
theorem aM.aB(S:Nat->Prop)(h:ae)(k:Nat) :aM S h (h.aB k):=⟨by simp,λ_ _ _=>rfl⟩
structure Obj(h:ae)(id:Nat)(l:List aa) :Prop where
 live:∃z t,h.get id=.cells l.length false z t
 rd:∀i,bP h id i=l[i]?
theorem W8{h bC:ae}{id:Nat}(e:bC.get id=h.get id)(i:Nat) :bP bC id i=bP h id i:=by unfold bP;rw[e]
theorem Obj.pV{h bC:ae}{id:Nat}{l:List aa}(o:Obj h id l)(e:bC.get id=h.get id) :Obj bC id l:=⟨by rw[e];exact o.live,λi=>by rw[W8 e];exact o.rd i⟩
theorem Obj.az{S:Nat->Prop}{h bC:ae}{id:Nat}{l:List aa}(o:Obj h id l)(u:aM S h bC)(af:id<h.next)(aA:¬S id) :Obj bC id l:=o.pV (u.get id af aA)
theorem Obj.new(h:ae)(l:List aa)(st:Bool)(z:List aa) :Obj (h.new (.cells l.length false z (bu.ofList l))) h.next l:=by
 refine⟨⟨z,_,ks h _⟩,λi=> ?_⟩;unfold bP;rw[ks];show(bif Nat.blt i l.length then _ else none)=_;rw[bu.xu];by_cases af:i<l.length
 ·rw[dM.2 af,List.getElem?_eq_getElem af];rfl
 ·rw[show Nat.blt i l.length=false by rw[<-Bool.not_eq_true,dM];exact af,List.getElem?_eq_none (by omega)];rfl
theorem Obj.write{h:ae}{id:Nat}{l:List aa}(o:Obj h id l){i:Nat}(af:i<l.length){v:aa}(ai:dH v=true) :
  ∃ob,j9 h id i [v]=some (h.put id ob)/\Obj (h.put id ob) id (l.set i v):=by
 obtain⟨z,t,e⟩:=o.live;refine⟨.cells l.length false z (t.set i v),?_,⟨⟨z,_,by rw[ln,List.length_set]⟩,λj=> ?_⟩⟩
 ·unfold j9;rw[e];simp only[bT.writes,bT.write,dM.2 af,ai,Bool.true_and,cond_true]
 ·have h0:=o.rd j;unfold bP at h0|-;rw[e]at h0;rw[ln];simp only[bT.cell]at h0|-;rw[bu.lL,List.getElem?_set];by_cases aO:j=i
  ·subst aO;simp[dM.2 af,af]
  ·rw[if_neg aO,h0];have:¬i=j:=λe=>aO e.symm
   rw[if_neg this]
end
end Go.a8
namespace Go.Proofs.YtkdjcmpgnkecfaaGreatDoor
open Go.a8
def LT(PV:cn)(i:Nat)(l:List aa)(F:bW->ae->Option a1) :Prop:=∀ ⦃h g:ae⦄ ⦃x:eb⦄ ⦃vs first mid cap:List aa⦄,F (call J PV) h=some (x,vs,g)->first++mid++cap=l->call J PV (.func i first cap) mid h=some (kE vs,g)
theorem cc{PV:cn}{i:Nat}{f:Func}{l:List aa}{F:bW->ae->Option a1}(a:m')(aJ:J.fn i=some f)(h0:PV i=none)(aC:∀C h,Kf J C f a l h=F C h) :LT PV i l F:=
 λ_ _ _ _ _ _ _ aD he=>aed aJ h0 ((aC _ _).trans aD) he
section
set_option maxRecDepth 100000
variable{PV:cn} [cN PV]
def Q4(a0 ao:aa)(C:bW)(h:ae) :Option a1:=U (gQ .not a0) λv1=>bq v1 (some (.ret,[(.int .u64 0)],h)) (some (.ret,[ao],h))
theorem aka{a0 ao:aa} :LT PV 325 [a0,ao] (Q4 a0 ao):=
 cc (f:=Tryz.f325) (.seq (.ah []) (.seq (.seq (.ah []) (.cond (.seq (.ah []) .leaf) .leaf)) (.seq (.ah []) .leaf))) (by kernel_rfl) (b' rfl (by kernel_rfl)) λ_ _=>by kernel_rfl
def QS(a0:aa)(C:bW)(h:ae) :Option a1:=ca (c9 J 169 a0) h λv1 h1=>U (ak J h1 169 v1) λv2=>a7 (C (.func 179 [] []) [v2] h1) λv3 ab=>U (gQ .not v3) λv4=>bq v4 (some (.ret,[(.int .u64 0)],ab)) (U (aQ J 169 v1 4) λv5=>U (ak J (ae.aB ab 21) 3 v5) λv6=>U (gB J (ae.aB ab 21) 3 67 v6) λbl=>U (ax J (ae.aB ab 21) .mul 67 bl (.int .u64 16)) λbA=>U (aQ J 169 v1 0) λv9=>U (ak J (ae.aB ab 21) 4 v9) λv10=>a7 (C (.func 325 [] []) [v10,(.int .u64 1)] (ae.aB ab 21)) λv11 al=>U (ax J al .or 67 bA v11) λv12=>U (aQ J 169 v1 1) λcd=>U (ak J al 4 cd) λb9=>a7 (C (.func 325 [] []) [b9,(.int .u64 2)] al) λch aE=>U (ax J aE .or 67 v12 ch) λcj=>U (aQ J 169 v1 2) λcC=>U (ak J aE 4 cC) λcx=>a7 (C (.func 325 [] []) [cx,(.int .u64 4)] aE) λcL aL=>U (ax J aL .or 67 cj cL) λv20=>U (aQ J 169 v1 3) λv21=>U (ak J aL 4 v21) λv22=>a7 (C (.func 325 [] []) [v22,(.int .u64 8)] aL) λv23 bm=>U (ax J bm .or 67 v20 v23) λv24=>bx [(ae.aB ab 21),al,aE] (λg=>ak J g 4 v21) v22 (bx [(ae.aB ab 21),al] (λg=>ak J g 4 cC) cx (bx [(ae.aB ab 21)] (λg=>ak J g 4 cd) b9 (bx [] (λg=>ak J g 4 v9) v10 (bx [al,aE,aL,bm] (λg=>ak J g 3 v5) v6 (some (.ret,[v24],bm)))))))
theorem ajZ{a0:aa} :LT PV 265 [a0] (QS a0):=
 cc (f:=Tryz.f265) (.seq (.ah []) (.seq (.seq (.ah []) (.cond (.seq (.ah []) .leaf) .leaf)) (.seq .drawn .leaf))) (by kernel_rfl) (b' rfl (by kernel_rfl)) λ_ _=>by kernel_rfl
def Qk(a0 ao a2 a3:aa)(C:bW)(h:ae) :Option a1:=ca (c9 J 169 a3) h λv1 h1=>U (bB a0) λv2=>U (aQ J 272 v2 0) λv3=>U (ak J (ae.aB h1 10) 152 v3) λv4=>U (ax J (ae.aB h1 10) .mul 3 a2 (.int .i64 8)) λv5=>U (ak J (ae.aB h1 10) 169 v1) λv6=>a7 (C (.func 265 [] []) [v6] (ae.aB h1 10)) λbl ab=>a7 (C (.func 167 [] []) [v4,ao,v5,(.int .i64 4),bl] ab) λbA al=>bx [] (λg=>ak J g 169 v1) v6 (bx [ab] (λg=>ak J g 152 v3) v4 (some (.ret,[],al)))
theorem ajq{a0 ao a2 a3:aa} :LT PV 182 [a0,ao,a2,a3] (Qk a0 ao a2 a3):=
 cc (f:=Tryz.f182) (.seq (.ah []) .drawn) (by kernel_rfl) (b' rfl (by kernel_rfl)) λ_ _=>by kernel_rfl
def Qj(a0:aa)(C:bW)(h:ae) :Option a1:=ca (dz J 22) h λv1 h1=>ca (dz J 22) h1 λv2 ab=>bG (eM 14 (λaK al=>a_ aK λv3 eJ=>a_ eJ λv4 fq=>br fq (U (ax J al .geq 3 v4 (.int .i64 0)) λv5=>bq v5 (U (ax J al .rem 3 v3 (.int .i64 8)) λv6=>U (cZ J 22 v2 v4) λbl=>U (bN J al 3 bl v6) λaL=>U (ax J aL .quo 3 v3 (.int .i64 8)) λbA=>U (ax J aL .sub 3 v4 (.int .i64 1)) λv9=>some (.normal,[bA,v9],aL)) (some ((.exit 0),[v3,v4],al)))) [a0,(.int .i64 3)] ab) λmD aK aE=>a_ aK λv10 fN=>a_ fN λv11 mC=>br mC (gD 0 mD (U (ak J aE 22 v2) λv12=>U (bN J aE 22 v1 v12) λbm=>U (ak J bm 22 v1) λcd=>some (.ret,[cd],bm)) (U (ak J aE 22 v1) λb9=>some (.ret,[b9],aE)) λi=>none)
theorem ajp{a0:aa} :LT PV 181 [a0] (Qj a0):=
 cc (f:=Tryz.f181) (.seq (.ah []) (.seq (.ah []) (.seq (.seq (.ah []) (.loop [0,4] [] (.seq (.seq (.ah []) (.cond .leaf .leaf)) (.seq (.dW (.seq (.ah []) (.ah []))) (.ah []))))) (.seq (.ah []) .leaf)))) (by kernel_rfl) (b' rfl (by kernel_rfl)) λ_ _=>by kernel_rfl
def Qi(a0 ao:aa)(C:bW)(h:ae) :Option a1:=ca (dz J 22) h λv1 h1=>U (bB a0) λv2=>U (aQ J 272 v2 1) λv3=>U (ak J h1 3 v3) λv4=>a7 (C (.func 181 [] []) [ao] h1) λv5 ab=>ca (dz J 22) ab λv6 al=>U (bN J al 22 v6 v5) λaE=>bG (eM 14 (λaK aL=>a_ aK λbl jn=>a_ jn λbA hL=>a_ hL λv9 iz=>br iz (U (ax J aL .lss 3 v9 (.int .i64 4)) λv10=>bq v10 (U (cZ J 22 v1 v9) λv11=>U (bN J aL 3 v11 bA) λcr=>U (ax J cr .add 3 bl (.int .i64 1)) λv12=>U (cZ J 22 v6 v9) λcd=>U (ak J cr 3 cd) λb9=>a7 (C (.func 245 [] []) [a0,bA,b9] cr) λch cz=>ca (dz J 169) cz λcj c6=>U (bN J c6 169 cj ch) λdF=>U (aQ J 169 cj 0) λcC=>U (ak J dF 4 cC) λcx=>U (gQ .not cx) λcL=>bG (b7 cL false (U (ax J dF .eql 3 v9 (.int .i64 3)) λv20=>some (.normal,[v20],dF)) (some (.normal,[.undef],dF))) λ_ aK dZ=>a_ aK λv21 O7=>br O7 (U (bZ cL (.bool true) v21) λv22=>bq v22 (some ((.exit 0),[v12,bA,v9],dZ)) (U (aQ J 169 cj 4) λv23=>U (ak J dZ 3 v23) λv24=>U (ax J dZ .add 3 v9 (.int .i64 1)) λv25=>some (.normal,[v12,v24,v25],dZ)))) (some ((.exit 0),[bl,bA,v9],aL)))) [(.int .i64 0),v4,(.int .i64 0)] aE) λsm aK bm=>a_ aK λv26 yX=>a_ yX λv27 Ef=>a_ Ef λv28 Eg=>br Eg (gD 0 sm (U (ak J bm 22 v1) λv29=>U (bN J bm 22 v1 v29) λdv=>U (ak J dv 22 v1) λv30=>some (.ret,[v30,v26],dv)) (U (ak J bm 22 v1) λv31=>some (.ret,[v31,v26],bm)) λi=>none)
theorem ajo{a0 ao:aa} :LT PV 180 [a0,ao] (Qi a0 ao):=
 cc (f:=Tryz.f180) (.seq (.ah []) (.wT (.seq (.ah []) (.seq (.ah []) (.seq .leaf (.seq (.seq (.ah []) (.loop [5,6,16] [] (.seq (.ah []) (.seq (.cond .leaf .leaf) (.seq (.dW (.seq (.ah []) (.seq (.ah []) (.seq (.ah []) (.seq (.ah []) (.seq (.seq (.ah [[35]]) (.cond .leaf .leaf)) (.ah []))))))) (.ah [])))))) (.seq (.ah []) .leaf))))))) (by kernel_rfl) (b' rfl (by kernel_rfl)) λ_ _=>by kernel_rfl
def P8(a0 ao:aa)(C:bW)(h:ae) :Option a1:=ca (dz J 169) h λv1 h1=>a7 (C (.func 178 [] []) [a0,ao] h1) λv2 ab=>U (ax J ab .neq 29 v2 (.int .i64 0)) λv3=>bq v3 (U (dY J 169 []) λv4=>U (bN J ab 169 v1 v4) λal=>U (ak J al 169 v1) λv5=>some (.ret,[v5,v2],al)) (a7 (C (.func 180 [] []) [a0,ao] ab) λv6 aE=>U (cm v6 0) λbl=>U (cm v6 1) λbA=>ca (dz J 22) aE λv9 aL=>U (bN J aL 22 v9 bl) λbm=>U (ax J bm .lss 3 bA (.int .i64 4)) λv10=>bq v10 (U (dY J 169 []) λv11=>U (bN J bm 169 v1 v11) λcr=>U (ak J cr 169 v1) λv12=>some (.ret,[v12,(.int .i64 12)],cr)) (U (ax J bm .sub 3 bA (.int .i64 1)) λcd=>U (cZ J 22 v9 cd) λb9=>U (ak J bm 3 b9) λch=>U (ax J bm .rem 3 ao (.int .i64 8)) λcj=>a7 (C (.func 245 [] []) [a0,ch,cj] bm) λcC cz=>ca (dz J 169) cz λcx c6=>U (bN J c6 169 cx cC) λdF=>U (ak J dF 169 cx) λcL=>U (dY J 169 []) λv20=>U (ax J dF .eql 169 cL v20) λv21=>bq v21 (U (dY J 169 []) λv22=>U (bN J dF 169 v1 v22) λdZ=>U (ak J dZ 169 v1) λv23=>some (.ret,[v23,(.int .i64 12)],dZ)) (U (ak J dF 169 cx) λv24=>U (bN J dF 169 v1 v24) λdv=>U (ak J dv 169 v1) λv25=>some (.ret,[v25,(.int .i64 0)],dv))))
theorem ajb{a0 ao:aa} :LT PV 163 [a0,ao] (P8 a0 ao):=
 cc (f:=Tryz.f163) (.seq (.ah []) (.seq (.ah []) (.seq (.seq (.ah []) (.cond (.seq (.ah []) .leaf) .leaf)) (.seq (.ah []) (.seq (.seq (.ah []) (.cond (.seq (.ah []) .leaf) .leaf)) (.seq (.ah []) (.seq (.seq (.ah []) (.cond (.seq (.ah []) .leaf) .leaf)) (.seq (.ah []) .leaf)))))))) (by kernel_rfl) (b' rfl (by kernel_rfl)) λ_ _=>by kernel_rfl
def PQ(a0 ao a2:aa)(C:bW)(h:ae) :Option a1:=ca (c9 J 169 a2) h λv1 h1=>a7 (C (.func 178 [] []) [a0,ao] h1) λv2 ab=>U (ax J ab .neq 29 v2 (.int .i64 0)) λv3=>bq v3 (some (.ret,[v2],ab)) (U (ak J ab 169 v1) λv4=>a7 (C (.func 179 [] []) [v4] ab) λv5 al=>U (gQ .not v5) λv6=>bq v6 (some (.ret,[(.int .i64 1)],al)) (a7 (C (.func 180 [] []) [a0,ao] al) λbl aE=>U (cm bl 0) λbA=>U (cm bl 1) λv9=>ca (dz J 22) aE λv10 aL=>U (bN J aL 22 v10 bA) λbm=>U (ax J bm .sub 3 (.int .i64 4) v9) λv11=>U (bB a0) λv12=>U (aQ J 272 v12 0) λcd=>U (ak J bm 152 cd) λb9=>a7 (C (.func 80 [] []) [b9] bm) λch cr=>U (ax J cr .gtr 3 v11 ch) λcj=>bq cj (some (.ret,[(.int .i64 18)],cr)) (a7 (C (.func 181 [] []) [ao] cr) λcC cz=>ca (dz J 22) cz λcx c6=>U (bN J c6 22 cx cC) λdF=>bG (eM 14 (λaK dZ=>a_ aK λcL qb=>a_ qb λv20 qc=>br qc (U (ax J dZ .lss 3 v20 (.int .i64 4)) λv21=>bq v21 (U (bB a0) λv22=>U (aQ J 272 v22 0) λv23=>U (ak J dZ 152 v23) λv24=>a7 (C (.func 159 [] []) [v24] dZ) λv25 e5=>U (cm v25 0) λv26=>U (cm v25 1) λv27=>U (ax J e5 .neq 29 v27 (.int .i64 0)) λv28=>bq v28 (some (.ret,[v27,v20],e5)) (U (bB a0) λv29=>U (aQ J 272 v29 2) λv30=>U (ak J e5 3 v30) λv31=>U (ax J e5 .add 3 v31 (.int .i64 1)) λv32=>U (bB a0) λv33=>U (aQ J 272 v33 2) λeP=>U (bN J e5 3 eP v32) λeX=>U (ax J (ae.aB eX 12) .sub 3 v20 (.int .i64 1)) λv35=>U (cZ J 22 v10 v35) λv36=>U (ak J (ae.aB eX 12) 3 v36) λv37=>U (ax J (ae.aB eX 12) .sub 3 v20 (.int .i64 1)) λfE=>U (cZ J 22 cx fE) λfy=>U (ak J (ae.aB eX 12) 3 fy) λv40=>U (dY J 169 [(0,(.bool true)),(4,v26)]) λv41=>a7 (C (.func 182 [] []) [a0,v37,v40,v41] (ae.aB eX 12)) λgv hd=>bx [] (λg=>ak J g 3 fy) v40 (bx [] (λg=>ak J g 3 v36) v37 (U (cZ J 22 v10 v20) λfF=>U (bN J hd 3 fF v26) λhC=>U (ax J hC .add 3 v20 (.int .i64 1)) λv44=>some (.normal,[cL,v44],hC))))) (some ((.exit 0),[cL,v20],dZ)))) [(.int .i64 0),v9] dF) λBn aK dv=>a_ aK λgI Em=>a_ Em λv46 Pb=>br Pb (gD 0 Bn (U (ax J (ae.aB dv 11) .sub 3 v46 (.int .i64 1)) λgR=>U (cZ J 22 v10 gR) λhb=>U (ak J (ae.aB dv 11) 3 hb) λv49=>U (ax J (ae.aB dv 11) .sub 3 v46 (.int .i64 1)) λix=>U (cZ J 22 cx ix) λv51=>U (ak J (ae.aB dv 11) 3 v51) λiy=>U (ak J (ae.aB dv 11) 169 v1) λv53=>a7 (C (.func 182 [] []) [a0,v49,iy,v53] (ae.aB dv 11)) λic hv=>bx [] (λg=>ak J g 169 v1) v53 (bx [] (λg=>ak J g 3 v51) iy (bx [] (λg=>ak J g 3 hb) v49 (some (.ret,[(.int .i64 0)],hv))))) (some (.ret,[gI],dv)) λi=>none))))
theorem aiW{a0 ao a2:aa} :LT PV 109 [a0,ao,a2] (PQ a0 ao a2):=
 cc (f:=Tryz.f109) (.seq (.ah []) (.seq (.ah []) (.seq (.seq (.ah []) (.cond (.seq (.ah []) .leaf) .leaf)) (.seq (.seq (.ah []) (.cond (.seq (.ah []) .leaf) .leaf)) (.seq (.ah []) (.seq (.seq (.ah []) (.cond (.seq (.ah []) .leaf) .leaf)) (.seq (.ah []) (.seq (.loop [6,9] [] (.seq (.seq (.ah []) (.cond .leaf .leaf)) (.seq (.dW (.seq (.ah []) (.seq (.seq (.ah []) (.cond (.seq (.ah []) .leaf) .leaf)) (.seq (.ah []) (.seq .drawn (.ah [])))))) (.ah [])))) (.seq .drawn (.seq (.ah []) .leaf)))))))))) (by kernel_rfl) (b' rfl (by kernel_rfl)) λ_ _=>by kernel_rfl
def QQ(a0 ao:aa)(C:bW)(h:ae) :Option a1:=bG (eM 14 (λaK h1=>a_ aK λv1 ck=>a_ ck λv2 dT=>br dT (U (ax J h1 .lss 3 v2 (.int .i64 8)) λv3=>bq v3 (a7 (C (.func 245 [] []) [a0,ao,v2] h1) λv4 al=>U (dY J 169 []) λv5=>U (ax J al .neq 169 v4 v5) λv6=>bq v6 (some (.ret,[(.bool false),v2],al)) (U (ax J al .add 3 v2 (.int .i64 1)) λbl=>some (.normal,[v1,bl],al))) (some ((.exit 0),[v1,v2],h1)))) [(.bool false),(.int .i64 0)] h) λeY aK ab=>a_ aK λbA hL=>a_ hL λv9 iz=>br iz (gD 0 eY (some (.ret,[(.bool true)],ab)) (some (.ret,[bA],ab)) λi=>none)
theorem ajX{a0 ao:aa} :LT PV 262 [a0,ao] (QQ a0 ao):=
 cc (f:=Tryz.f262) (.seq (.ah []) (.seq (.seq (.ah []) (.loop [4,6] [] (.seq (.ah []) (.seq (.cond .leaf .leaf) (.seq (.dW (.seq (.ah []) (.seq (.ah []) (.cond (.seq (.ah []) .leaf) .leaf)))) (.ah [])))))) (.seq (.ah []) .leaf))) (by kernel_rfl) (b' rfl (by kernel_rfl)) λ_ _=>by kernel_rfl
def Qe(a0 ao:aa)(C:bW)(h:ae) :Option a1:=ca (dz J 169) h λv1 h1=>a7 (C (.func 163 [] []) [a0,ao] h1) λv2 ab=>U (cm v2 0) λv3=>U (cm v2 1) λv4=>ca (dz J 169) ab λv5 al=>U (bN J al 169 v5 v3) λaE=>U (ax J aE .neq 29 v4 (.int .i64 0)) λv6=>bq v6 (U (dY J 169 []) λbl=>U (bN J aE 169 v1 bl) λaL=>U (ak J aL 169 v1) λbA=>some (.ret,[bA,v4],aL)) (a7 (C (.func 180 [] []) [a0,ao] aE) λv9 bm=>U (cm v9 0) λv10=>U (cm v9 1) λv11=>ca (dz J 22) bm λv12 cr=>U (bN J cr 22 v12 v10) λcz=>a7 (C (.func 181 [] []) [ao] cz) λcd c6=>ca (dz J 22) c6 λb9 dF=>U (bN J dF 22 b9 cd) λdZ=>U (ax J (ae.aB dZ 11) .sub 3 v11 (.int .i64 1)) λch=>U (cZ J 22 v12 ch) λcj=>U (ak J (ae.aB dZ 11) 3 cj) λcC=>U (ax J (ae.aB dZ 11) .sub 3 v11 (.int .i64 1)) λcx=>U (cZ J 22 b9 cx) λcL=>U (ak J (ae.aB dZ 11) 3 cL) λv20=>U (dY J 169 []) λv21=>a7 (C (.func 182 [] []) [a0,cC,v20,v21] (ae.aB dZ 11)) λv22 dv=>bx [] (λg=>ak J g 3 cL) v20 (bx [] (λg=>ak J g 3 cj) cC (U (ax J dv .sub 3 v11 (.int .i64 1)) λv23=>bG (eM 14 (λaK e5=>a_ aK λv24 O9=>br O9 (U (ax J e5 .gtr 3 v24 (.int .i64 0)) λv25=>bG (b7 v25 true (U (cZ J 22 v12 v24) λv26=>U (ak J e5 3 v26) λv27=>a7 (C (.func 262 [] []) [a0,v27] e5) λv28 hd=>some (.normal,[v28],hd)) (some (.normal,[.undef],e5))) λ_ aK hC=>a_ aK λv29 sl=>br sl (U (bZ v25 v29 (.bool false)) λv30=>bq v30 (U (bB a0) λv31=>U (aQ J 272 v31 0) λv32=>U (ak J (ae.aB hC 8) 152 v32) λv33=>U (cZ J 22 v12 v24) λeP=>U (ak J (ae.aB hC 8) 3 eP) λv35=>a7 (C (.func 175 [] []) [v33,v35] (ae.aB hC 8)) λv36 hv=>bx [] (λg=>ak J g 3 eP) v35 (bx [] (λg=>ak J g 152 v32) v33 (U (bB a0) λv37=>U (aQ J 272 v37 2) λfE=>U (ak J hv 3 fE) λfy=>U (ax J hv .sub 3 fy (.int .i64 1)) λv40=>U (bB a0) λv41=>U (aQ J 272 v41 2) λgv=>U (bN J hv 3 gv v40) λhx=>U (ax J (ae.aB hx 11) .sub 3 v24 (.int .i64 1)) λfF=>U (cZ J 22 v12 fF) λv44=>U (ak J (ae.aB hx 11) 3 v44) λgI=>U (ax J (ae.aB hx 11) .sub 3 v24 (.int .i64 1)) λv46=>U (cZ J 22 b9 v46) λgR=>U (ak J (ae.aB hx 11) 3 gR) λhb=>U (dY J 169 []) λv49=>a7 (C (.func 182 [] []) [a0,gI,hb,v49] (ae.aB hx 11)) λix kt=>bx [] (λg=>ak J g 3 gR) hb (bx [] (λg=>ak J g 3 v44) gI (U (ax J kt .sub 3 v24 (.int .i64 1)) λv51=>some (.normal,[v51],kt)))))) (some ((.exit 0),[v24],hC))))) [v23] dv) λvq aK eX=>a_ aK λiy Eo=>br Eo (gD 0 vq (U (ak J eX 169 v5) λv53=>U (bN J eX 169 v1 v53) λkV=>U (ak J kV 169 v1) λic=>some (.ret,[ic,(.int .i64 0)],kV)) (U (ak J eX 169 v1) λig=>some (.ret,[ig,(.int .i64 0)],eX)) λi=>none))))
theorem ajj{a0 ao:aa} :LT PV 174 [a0,ao] (Qe a0 ao):=
 cc (f:=Tryz.f174) (.seq (.ah []) (.seq (.ah []) (.seq (.seq (.ah []) (.cond (.seq (.ah []) .leaf) .leaf)) (.seq (.ah []) (.seq (.ah []) (.seq .drawn (.seq (.seq (.ah []) (.loop [11] [] (.seq (.seq (.ah [[50]]) (.cond .leaf .leaf)) (.seq (.dW (.seq .drawn (.seq (.ah []) .drawn))) (.ah []))))) (.seq (.ah []) .leaf)))))))) (by kernel_rfl) (b' rfl (by kernel_rfl)) λ_ _=>by kernel_rfl
def Rj(a0:aa)(C:bW)(h:ae) :Option a1:=a7 (C (.func 159 [] []) [a0] h) λv1 h1=>U (cm v1 0) λv2=>U (cm v1 1) λv3=>U (ax J h1 .neq 29 v3 (.int .i64 0)) λv4=>bq v4 (some (.ret,[.nilPtr,v3],h1)) (U (dY J 272 [(0,a0),(1,v2),(2,(.int .i64 1))]) λv5=>ca (c9 J 272 v5) h1 λv6 ab=>some (.ret,[v6,(.int .i64 0)],ab))
theorem akq{a0:aa} :LT PV 82 [a0] (Rj a0):=
 cc (f:=Tryz.f82) (.seq (.ah []) (.seq (.ah []) (.seq (.seq (.ah []) (.cond (.seq (.ah []) .leaf) .leaf)) (.seq (.ah []) .leaf)))) (by kernel_rfl) (b' rfl (by kernel_rfl)) λ_ _=>by kernel_rfl
def EA(a0 ao:aa)(C:bW)(h:ae) :Option a1:=U (ax J h .eql 157 a0 .nilPtr) λv1=>bq v1 (some (.ret,[(.int .i64 1)],h)) (U (ax J h .lss 3 ao (.int .i64 0)) λv2=>bG (b7 v2 false (U (ax J h .geq 3 ao (.int .i64 4096)) λv3=>some (.normal,[v3],h)) (some (.normal,[.undef],h))) λ_ aK h1=>a_ aK λv4 fq=>br fq (U (bZ v2 (.bool true) v4) λv5=>bq v5 (some (.ret,[(.int .i64 14)],h1)) (U (bB a0) λv6=>U (aQ J 272 v6 0) λbl=>U (ak J h1 152 bl) λbA=>U (ax J h1 .eql 152 bA .nilPtr) λv9=>bq v9 (some (.ret,[(.int .i64 13)],h1)) (some (.ret,[(.int .i64 0)],h1)))))
theorem ajm{a0 ao:aa} :LT PV 178 [a0,ao] (EA a0 ao):=
 cc (f:=Tryz.f178) (.seq (.ah []) (.seq (.dW (.seq (.ah []) (.cond (.seq (.ah []) .leaf) (.seq (.ah [[13]]) (.cond (.seq (.ah []) .leaf) (.seq (.ah []) (.cond (.seq (.ah []) .leaf) .leaf))))))) (.seq (.ah []) .leaf))) (by kernel_rfl) (b' rfl (by kernel_rfl)) λ_ _=>by kernel_rfl
def Ru(a0:aa)(C:bW)(h:ae) :Option a1:=U (ax J h .eql 157 a0 .nilPtr) λv1=>bq v1 (some (.ret,[(.int .i64 0)],h)) (U (bB a0) λv2=>U (aQ J 272 v2 2) λv3=>U (ak J h 3 v3) λv4=>some (.ret,[v4],h))
theorem akB{a0:aa} :LT PV 94 [a0] (Ru a0):=
 cc (f:=Tryz.f94) (.seq (.ah []) (.seq (.seq (.ah []) (.cond (.seq (.ah []) .leaf) .leaf)) (.seq (.ah []) .leaf))) (by kernel_rfl) (b' rfl (by kernel_rfl)) λ_ _=>by kernel_rfl
def IL(a0 ao a2 a3 a4 a5 hZ:aa)(C:bW)(h:ae) :Option a1:=bG (eM 14 (λaK h1=>a_ aK λv1 ck=>a_ ck λv2 dT=>br dT (U (ax J h1 .lss 3 v2 (.int .i64 8)) λv3=>bq v3 (bG (U (ax J h1 .mul 3 a2 (.int .i64 8)) λv4=>U (ax J h1 .add 3 v4 v2) λv5=>U (ak J h1 157 a3) λv6=>a7 (C (.func 245 [] []) [v6,a0,v2] h1) λbl al=>ca (dz J 169) al λbA aE=>U (bN J aE 169 bA bl) λaL=>U (ak J aL 169 bA) λv9=>U (dY J 169 []) λv10=>U (ax J aL .eql 169 v9 v10) λv11=>bq v11 (some (.normal,[v1],aL)) (U (ax J aL .lss 3 ao (.int .i64 3)) λv12=>bq v12 (U (ak J aL 59 a4) λcd=>U (aQ J 169 bA 4) λb9=>U (ak J aL 3 b9) λch=>U (ax J aL .add 3 ao (.int .i64 1)) λcj=>a7 (C cd [ch,cj,v5] aL) λcC bm=>U (gQ .not cC) λcx=>bq cx (some (.ret,[(.bool false)],bm)) (some (.normal,[v1],bm))) (U (ak J aL 3 a5) λcL=>U (ax J aL .geq 3 v5 cL) λv20=>bG (b7 v20 true (U (ak J aL 366 hZ) λv21=>U (ak J aL 169 bA) λv22=>U (dY J 178 [(0,v5),(1,v22)]) λv23=>a7 (C v21 [v23] aL) λv24 cr=>U (gQ .not v24) λv25=>some (.normal,[v25],cr)) (some (.normal,[.undef],aL))) λ_ aK cz=>a_ aK λv26 yX=>br yX (U (bZ v20 v26 (.bool false)) λv27=>bq v27 (some (.ret,[(.bool false)],cz)) (some (.normal,[v1],cz)))))) λPy aK c6=>a_ aK λv28 Eg=>br Eg (jF Py (U (ax J c6 .add 3 v2 (.int .i64 1)) λv29=>some (.normal,[v28,v29],c6)) (some (.ret,[v28,v2],c6)) λi=>none)) (some ((.exit 0),[v1,v2],h1)))) [(.bool false),(.int .i64 0)] h) λeY aK ab=>a_ aK λv30 vm=>a_ vm λv31 vn=>br vn (gD 0 eY (some (.ret,[(.bool true)],ab)) (some (.ret,[v30],ab)) λi=>none)
theorem Vo{a0 ao a2 a3 a4 a5 hZ:aa} :LT PV 258 [a0,ao,a2,a3,a4,a5,hZ] (IL a0 ao a2 a3 a4 a5 hZ):=
 cc (f:=Tryz.f258) (.seq (.ah []) (.seq (.seq (.ah []) (.loop [10,14] [] (.seq (.ah []) (.seq (.cond .leaf .leaf) (.seq (.cut [10] [] (.dW (.seq (.ah []) (.seq (.ah []) (.seq (.ah []) (.dW (.seq (.ah []) (.cond .leaf (.seq (.ah []) (.cond (.seq (.ah []) (.cond (.seq (.ah []) .leaf) .leaf)) (.seq (.ah [[50]]) (.cond (.seq (.ah []) .leaf) .leaf)))))))))))) (.ah [])))))) (.seq (.ah []) .leaf))) (by kernel_rfl) (b' rfl (by kernel_rfl)) λ_ _=>by kernel_rfl
def QP(a0 ao a2:aa)(C:bW)(h:ae) :Option a1:=ca (c9 J 366 a0) h λv1 h1=>U (ak J h1 157 ao) λv2=>U (ax J h1 .eql 157 v2 .nilPtr) λv3=>bG (b7 v3 false (U (ak J h1 157 ao) λv4=>U (bB v4) λv5=>U (aQ J 272 v5 0) λv6=>U (ak J h1 152 v6) λbl=>U (ax J h1 .eql 152 bl .nilPtr) λbA=>some (.normal,[bA],h1)) (some (.normal,[.undef],h1))) λ_ aK ab=>a_ aK λv9 iz=>br iz (U (bZ v3 (.bool true) v9) λv10=>bq v10 (some (.ret,[],ab)) (ca (dz J 59) ab λv11 al=>U (bN J al 59 v11 (.func 258 [] [ao,v11,a2,v1])) λaE=>U (ak J (ae.aB aE 6) 59 v11) λv12=>U (ak J (ae.aB aE 6) 157 ao) λcd=>U (bB cd) λb9=>U (aQ J 272 b9 1) λch=>U (ak J (ae.aB aE 6) 3 ch) λcj=>a7 (C v12 [cj,(.int .i64 0),(.int .i64 0)] (ae.aB aE 6)) λcC aL=>bx [] (λg=>ak J g 3 ch) cj (bx [] (λg=>ak J g 157 ao) cd (bx [] (λg=>ak J g 59 v11) v12 (some (.ret,[],aL))))))
theorem ajW{a0 ao a2:aa} :LT PV 257 [a0,ao,a2] (QP a0 ao a2):=
 cc (f:=Tryz.f257) (.seq (.ah []) (.seq (.seq (.ah [[12]]) (.cond .leaf .leaf)) (.seq (.ah []) (.seq (.ah []) .drawn)))) (by kernel_rfl) (b' rfl (by kernel_rfl)) λ_ _=>by kernel_rfl
def Qd(a0 ao:aa)(C:bW)(h:ae) :Option a1:=ca (c9 J 157 a0) h λv1 h1=>ca (c9 J 3 ao) h1 λv2 ab=>some (.ret,[(.func 257 [] [v1,v2])],ab)
theorem aji{a0 ao:aa} :LT PV 171 [a0,ao] (Qd a0 ao):=
 cc (f:=Tryz.f171) (.seq (.ah []) (.seq (.ah []) .leaf)) (by kernel_rfl) (b' rfl (by kernel_rfl)) λ_ _=>by kernel_rfl
def PK(a0:aa)(C:bW)(h:ae) :Option a1:=a7 (C (.func 95 [] []) [a0] h) λv1 h1=>U (dw J h1 175 v1) λv2=>bG (eM 14 (λaK ab=>a_ aK λv3 eJ=>br eJ (U (ax J ab .lss 3 v3 v2) λv4=>bq v4 (U (cZ J 175 v1 v3) λv5=>U (ak J ab 178 v5) λv6=>ca (dz J 178) ab λbl aE=>U (bN J aE 178 bl v6) λaL=>U (aQ J 178 bl 0) λbA=>U (ak J aL 3 bA) λv9=>a7 (C (.func 174 [] []) [a0,v9] aL) λv10 bm=>U (ax J bm .add 3 v3 (.int .i64 1)) λv11=>some (.normal,[v11],bm)) (some ((.exit 0),[v3],ab)))) [(.int .i64 0)] h1) λjS aK al=>a_ aK λv12 q9=>br q9 (gD 0 jS (U (ax J al .neq 157 a0 .nilPtr) λcd=>bG (b7 cd true (U (bB a0) λb9=>U (aQ J 272 b9 0) λch=>U (ak J al 152 ch) λcj=>U (ax J al .neq 152 cj .nilPtr) λcC=>some (.normal,[cC],al)) (some (.normal,[.undef],al))) λ_ aK cr=>a_ aK λcx qa=>br qa (U (bZ cd cx (.bool false)) λcL=>bG (bq cL (U (bB a0) λv20=>U (aQ J 272 v20 0) λv21=>U (ak J (ae.aB cr 9) 152 v21) λv22=>U (bB a0) λv23=>U (aQ J 272 v23 1) λv24=>U (ak J (ae.aB cr 9) 3 v24) λv25=>a7 (C (.func 175 [] []) [v22,v25] (ae.aB cr 9)) λv26 cz=>bx [] (λg=>ak J g 3 v24) v25 (bx [] (λg=>ak J g 152 v21) v22 (U (bB a0) λv27=>U (aQ J 272 v27 0) λv28=>U (bN J cz 152 v28 .nilPtr) λc6=>U (bB a0) λv29=>U (aQ J 272 v29 2) λv30=>U (bN J c6 3 v30 (.int .i64 0)) λdF=>some (.normal,[],dF)))) (some (.normal,[],cr))) λPv aK dZ=>br aK (jF Pv (some (.ret,[v1],dZ)) (some (.ret,[.bI],dZ)) λi=>none))) (some (.ret,[.bI],al)) λi=>none)
theorem aiR{a0:aa} :LT PV 103 [a0] (PK a0):=
 cc (f:=Tryz.f103) (.seq (.ah []) (.seq (.ah []) (.seq (.seq (.ah []) (.loop [10] [] (.seq (.ah []) (.seq (.cond .leaf .leaf) (.seq (.dW (.seq (.ah []) (.ah []))) (.ah [])))))) (.seq (.seq (.ah [[26]]) (.cut [] [] (.cond (.seq .drawn (.ah [])) .leaf))) (.seq (.ah []) .leaf))))) (by kernel_rfl) (b' rfl (by kernel_rfl)) λ_ _=>by kernel_rfl
end
section
set_option maxRecDepth 100000
variable{PV:cn} [cN PV]
def QN(a0:aa)(C:bW)(h:ae) :Option a1:=U (ax J h .lss 3 a0 (.int .i64 0)) λv1=>bG (b7 v1 false (U (ax J h .geq 3 a0 (.int .i64 10)) λv2=>some (.normal,[v2],h)) (some (.normal,[.undef],h))) λ_ aK h1=>a_ aK λv3 eJ=>br eJ (U (bZ v1 (.bool true) v3) λv4=>bq v4 (some (.ret,[(.int .i64 0)],h1)) (U (cZ J 255 (.ptr 0 0) a0) λv5=>U (ak J h1 3 v5) λv6=>some (.ret,[v6],h1)))
theorem ajT{a0:aa} :LT PV 254 [a0] (QN a0):=
 cc (f:=Tryz.f254) (.seq (.ah []) (.seq (.seq (.ah [[7]]) (.cond (.seq (.ah []) .leaf) .leaf)) (.seq (.ah []) .leaf))) (by kernel_rfl) (b' rfl (by kernel_rfl)) λ_ _=>by kernel_rfl
def Bq(a0 ao a2:aa)(C:bW)(h:ae) :Option a1:=U (ax J h .geq 3 a0 (.int .i64 0)) λv1=>bG (b7 v1 true (U (ax J h .geq 3 ao (.int .i64 0)) λv2=>some (.normal,[v2],h)) (some (.normal,[.undef],h))) λ_ aK h1=>a_ aK λv3 eJ=>br eJ (U (bZ v1 v3 (.bool false)) λv4=>bG (b7 v4 true (U (ax J h1 .leq 3 a0 a2) λv5=>some (.normal,[v5],h1)) (some (.normal,[.undef],h1))) λ_ aK ab=>a_ aK λv6 gS=>br gS (U (bZ v4 v6 (.bool false)) λbl=>bG (b7 bl true (U (ax J ab .sub 3 a2 a0) λbA=>U (ax J ab .leq 3 ao bA) λv9=>some (.normal,[v9],ab)) (some (.normal,[.undef],ab))) λ_ aK al=>a_ aK λv10 fN=>br fN (U (bZ bl v10 (.bool false)) λv11=>some (.ret,[v11],al))))
theorem ajU{a0 ao a2:aa} :LT PV 255 [a0,ao,a2] (Bq a0 ao a2):=
 cc (f:=Tryz.f255) (.seq (.ah []) (.seq (.ah [[11],[16],[23]]) .leaf)) (by kernel_rfl) (b' rfl (by kernel_rfl)) λ_ _=>by kernel_rfl
def Q3(a0:aa)(C:bW)(h:ae) :Option a1:=U (ax J h .geq 3 a0 (.int .i64 5)) λv1=>bG (b7 v1 true (U (ax J h .leq 3 a0 (.int .i64 8)) λv2=>some (.normal,[v2],h)) (some (.normal,[.undef],h))) λ_ aK h1=>a_ aK λv3 eJ=>br eJ (U (bZ v1 v3 (.bool false)) λv4=>some (.ret,[v4],h1))
theorem aj'{a0:aa} :LT PV 321 [a0] (Q3 a0):=
 cc (f:=Tryz.f321) (.seq (.ah []) (.seq (.ah [[7]]) .leaf)) (by kernel_rfl) (b' rfl (by kernel_rfl)) λ_ _=>by kernel_rfl
def EB(a0 ao a2:aa)(C:bW)(h:ae) :Option a1:=U (ax J h .geq 3 a2 (.int .i64 1)) λv1=>bG (b7 v1 true (U (ax J h .leq 3 a2 (.int .i64 8)) λv2=>some (.normal,[v2],h)) (some (.normal,[.undef],h))) λ_ aK h1=>a_ aK λv3 eJ=>br eJ (U (bZ v1 v3 (.bool false)) λv4=>bG (b7 v4 true (U (dw J h1 9 a0) λv5=>a7 (C (.func 255 [] []) [ao,a2,v5] h1) λv6 ab=>some (.normal,[v6],ab)) (some (.normal,[.undef],h1))) λ_ aK al=>a_ aK λbl jn=>br jn (U (bZ v4 bl (.bool false)) λbA=>some (.ret,[bA],al)))
theorem aj1{a0 ao a2:aa} :LT PV 295 [a0,ao,a2] (EB a0 ao a2):=
 cc (f:=Tryz.f295) (.seq (.ah []) (.seq (.ah [[11],[18]]) .leaf)) (by kernel_rfl) (b' rfl (by kernel_rfl)) λ_ _=>by kernel_rfl
def Qq(a0 ao a2:aa)(C:bW)(h:ae) :Option a1:=a7 (C (.func 295 [] []) [a0,ao,a2] h) λv1 h1=>U (gQ .not v1) λv2=>bq v2 (some (.ret,[(.int .u64 0),(.bool false)],h1)) (bG (eM 14 (λaK ab=>a_ aK λv3 eJ=>a_ eJ λv4 fq=>br fq (U (ax J ab .lss 3 v4 a2) λv5=>bq v5 (U (ax J ab .add 3 ao v4) λv6=>U (o2 J 9 a0 v6) λbl=>U (gB J ab 5 67 bl) λbA=>U (ax J ab .mul 3 (.int .i64 8) v4) λv9=>U (ax J ab .shl 67 bA v9) λv10=>U (ax J ab .or 67 v3 v10) λv11=>U (ax J ab .add 3 v4 (.int .i64 1)) λv12=>some (.normal,[v11,v12],ab)) (some ((.exit 0),[v3,v4],ab)))) [(.int .u64 0),(.int .i64 0)] h1) λjS aK al=>a_ aK λcd p_=>a_ p_ λb9 kp=>br kp (gD 0 jS (some (.ret,[cd,(.bool true)],al)) (some (.ret,[(.int .u64 0),(.bool false)],al)) λi=>none))
theorem ajw{a0 ao a2:aa} :LT PV 212 [a0,ao,a2] (Qq a0 ao a2):=
 cc (f:=Tryz.f212) (.seq (.ah []) (.seq (.seq (.ah []) (.cond (.seq (.ah []) .leaf) .leaf)) (.seq (.ah []) (.seq (.seq (.ah []) (.loop [8,16] [] (.seq (.ah []) (.seq (.cond .leaf .leaf) (.seq (.dW (.seq (.ah []) (.ah []))) (.ah [])))))) (.seq (.ah []) .leaf))))) (by kernel_rfl) (b' rfl (by kernel_rfl)) λ_ _=>by kernel_rfl
def QO(a0 ao:aa)(C:bW)(h:ae) :Option a1:=a7 (C (.func 254 [] []) [a0] h) λv1 h1=>U (ax J h1 .eql 3 v1 (.int .i64 0)) λv2=>bq v2 (some (.ret,[(.int .u64 0)],h1)) (U (ax J h1 .mul 3 (.int .i64 8) v1) λv3=>U (ax J h1 .sub 3 (.int .i64 64) v3) λv4=>a7 (C (.func 321 [] []) [a0] h1) λv5 ab=>bq v5 (U (ax J ab .shl 67 ao v4) λv6=>U (gB J ab 67 2 v6) λbl=>U (ax J ab .shr 2 bl v4) λbA=>U (gB J ab 2 67 bA) λv9=>some (.ret,[v9],ab)) (U (ax J ab .shl 67 ao v4) λv10=>U (ax J ab .shr 67 v10 v4) λv11=>some (.ret,[v11],ab)))
theorem ajV{a0 ao:aa} :LT PV 256 [a0,ao] (QO a0 ao):=
 cc (f:=Tryz.f256) (.seq (.ah []) (.seq (.ah []) (.seq (.seq (.ah []) (.cond (.seq (.ah []) .leaf) .leaf)) (.seq (.ah []) (.seq (.seq (.ah []) (.cond (.seq (.ah []) .leaf) .leaf)) (.seq (.ah []) .leaf)))))) (by kernel_rfl) (b' rfl (by kernel_rfl)) λ_ _=>by kernel_rfl
def Qc(a0 ao:aa)(C:bW)(h:ae) :Option a1:=a7 (C (.func 254 [] []) [a0] h) λv1 h1=>U (ax J h1 .eql 3 v1 (.int .i64 0)) λv2=>bq v2 (some (.ret,[(.int .u64 0),(.int .i64 1)],h1)) (U (dw J h1 9 ao) λv3=>U (ax J h1 .neq 3 v3 v1) λv4=>bq v4 (some (.ret,[(.int .u64 0),(.int .i64 10)],h1)) (a7 (C (.func 212 [] []) [ao,(.int .i64 0),v1] h1) λv5 ab=>U (cm v5 0) λv6=>U (cm v5 1) λbl=>a7 (C (.func 256 [] []) [a0,v6] ab) λbA al=>some (.ret,[bA,(.int .i64 0)],al)))
theorem ajh{a0 ao:aa} :LT PV 170 [a0,ao] (Qc a0 ao):=
 cc (f:=Tryz.f170) (.seq (.ah []) (.seq (.ah []) (.seq (.dW (.seq (.ah []) (.cond (.seq (.ah []) .leaf) (.seq (.ah []) (.cond (.seq (.ah []) .leaf) .leaf))))) (.seq (.ah []) (.seq (.ah []) .leaf))))) (by kernel_rfl) (b' rfl (by kernel_rfl)) λ_ _=>by kernel_rfl
def QC(a0 ao:aa)(C:bW)(h:ae) :Option a1:=U (bB a0) λv1=>U (aQ J 268 v1 0) λv2=>U (ak J h 135 v2) λv3=>U (ax J h .mul 3 ao (.int .i64 64)) λv4=>U (ax J h .add 3 ao (.int .i64 1)) λv5=>U (ax J h .mul 3 v5 (.int .i64 64)) λv6=>U (iv J h 135 v3 (some v4) (some v6) none) λbl=>some (.ret,[bl],h)
theorem ajI{a0 ao:aa} :LT PV 241 [a0,ao] (QC a0 ao):=
 cc (f:=Tryz.f241) (.seq (.ah []) (.seq (.ah []) .leaf)) (by kernel_rfl) (b' rfl (by kernel_rfl)) λ_ _=>by kernel_rfl
def Ql(a0 ao a2:aa)(C:bW)(h:ae) :Option a1:=U (ax J h .eql 152 a0 .nilPtr) λv1=>bq v1 (some (.ret,[(.int .i64 1)],h)) (U (ax J h .lss 3 ao (.int .i64 0)) λv2=>bG (b7 v2 false (U (bB a0) λv3=>U (aQ J 268 v3 1) λv4=>U (ak J h 64 v4) λv5=>U (dw J h 64 v5) λv6=>U (ax J h .geq 3 ao v6) λbl=>some (.normal,[bl],h)) (some (.normal,[.undef],h))) λ_ aK h1=>a_ aK λbA hL=>br hL (U (bZ v2 (.bool true) bA) λv9=>bq v9 (some (.ret,[(.int .i64 14)],h1)) (U (bB a0) λv10=>U (aQ J 268 v10 1) λv11=>U (ak J h1 64 v11) λv12=>U (cZ J 64 v12 ao) λcd=>U (ak J h1 3 cd) λb9=>U (ax J h1 .eql 3 b9 (.int .i64 0)) λch=>bq ch (some (.ret,[(.int .i64 13)],h1)) (a7 (C (.func 241 [] []) [a0,ao] h1) λcj ab=>a7 (C a2 [cj] ab) λcC al=>some (.ret,[cC],al)))))
theorem ajr{a0 ao a2:aa} :LT PV 183 [a0,ao,a2] (Ql a0 ao a2):=
 cc (f:=Tryz.f183) (.seq (.ah []) (.seq (.dW (.seq (.ah []) (.cond (.seq (.ah []) .leaf) (.seq (.ah [[20]]) (.cond (.seq (.ah []) .leaf) (.seq (.ah []) (.cond (.seq (.ah []) .leaf) .leaf))))))) (.seq (.ah []) .leaf))) (by kernel_rfl) (b' rfl (by kernel_rfl)) λ_ _=>by kernel_rfl
def Qb(a0 ao a2:aa)(C:bW)(h:ae) :Option a1:=U (ak J h 3 ao) λv1=>U (gB J h 135 9 a0) λv2=>a7 (C (.func 170 [] []) [v1,v2] h) λv3 h1=>U (cm v3 0) λv4=>U (cm v3 1) λv5=>U (bN J h1 67 a2 v4) λab=>some (.ret,[],ab)
theorem ajg{a0 ao a2:aa} :LT PV 169 [a0,ao,a2] (Qb a0 ao a2):=
 cc (f:=Tryz.f169) (.ah []) (by kernel_rfl) (b' rfl (by kernel_rfl)) λ_ _=>by kernel_rfl
def QM(a0 ao a2 a3:aa)(C:bW)(h:ae) :Option a1:=U (ak J h 3 ao) λv1=>a7 (C (.func 254 [] []) [v1] h) λv2 h1=>U (ax J h1 .eql 3 v2 (.int .i64 0)) λv3=>bq v3 (some (.ret,[(.int .i64 1)],h1)) (U (ak J h1 3 a2) λv4=>a7 (C (.func 255 [] []) [v4,v2,(.int .i64 64)] h1) λv5 ab=>U (gQ .not v5) λv6=>bq v6 (some (.ret,[(.int .i64 14)],ab)) (U (ak J (ae.aB ab 8) 286 a3) λbl=>U (ak J (ae.aB ab 8) 3 a2) λbA=>U (ak J (ae.aB ab 8) 3 a2) λv9=>U (ax J (ae.aB ab 8) .add 3 v9 v2) λv10=>U (iv J (ae.aB ab 8) 135 a0 (some bA) (some v10) none) λv11=>a7 (C bl [v11] (ae.aB ab 8)) λv12 al=>bx [] (λg=>ak J g 3 a2) v9 (bx [] (λg=>ak J g 3 a2) bA (bx [] (λg=>ak J g 286 a3) bl (some (.ret,[(.int .i64 0)],al))))))
theorem ajS{a0 ao a2 a3:aa} :LT PV 253 [a0,ao,a2,a3] (QM a0 ao a2 a3):=
 cc (f:=Tryz.f253) (.seq (.ah []) (.seq (.ah []) (.seq (.dW (.seq (.ah []) (.cond (.seq (.ah []) .leaf) (.seq (.ah []) (.cond (.seq (.ah []) .leaf) .leaf))))) (.seq .drawn (.seq (.ah []) .leaf))))) (by kernel_rfl) (b' rfl (by kernel_rfl)) λ_ _=>by kernel_rfl
def IG(a0 ao a2 a3 a4:aa)(C:bW)(h:ae) :Option a1:=ca (c9 J 3 a2) h λv1 h1=>ca (c9 J 3 a3) h1 λv2 ab=>ca (c9 J 286 a4) ab λv3 al=>a7 (C (.func 183 [] []) [a0,ao,(.func 253 [] [v2,v1,v3])] al) λv4 aE=>some (.ret,[v4],aE)
theorem Vj{a0 ao a2 a3 a4:aa} :LT PV 168 [a0,ao,a2,a3,a4] (IG a0 ao a2 a3 a4):=
 cc (f:=Tryz.f168) (.seq (.ah []) (.seq (.ah []) .leaf)) (by kernel_rfl) (b' rfl (by kernel_rfl)) λ_ _=>by kernel_rfl
def Rr(a0 ao a2 a3:aa)(C:bW)(h:ae) :Option a1:=ca (c9 J 3 a3) h λv1 h1=>ca (dz J 67) h1 λv2 ab=>U (bN J ab 67 v2 (.int .u64 0)) λal=>U (ak J al 3 v1) λv3=>a7 (C (.func 168 [] []) [a0,ao,a2,v3,(.func 169 [] [v1,v2])] al) λv4 aE=>U (ak J aE 67 v2) λv5=>some (.ret,[v5,v4],aE)
theorem aky{a0 ao a2 a3:aa} :LT PV 91 [a0,ao,a2,a3] (Rr a0 ao a2 a3):=
 cc (f:=Tryz.f91) (.seq (.ah []) (.seq (.ah []) (.seq (.ah []) (.seq (.ah []) .leaf)))) (by kernel_rfl) (b' rfl (by kernel_rfl)) λ_ _=>by kernel_rfl
def Qh(a0:aa)(C:bW)(h:ae) :Option a1:=ca (c9 J 169 a0) h λv1 h1=>U (aQ J 169 v1 0) λv2=>U (ak J h1 4 v2) λv3=>U (aQ J 169 v1 3) λv4=>U (ak J h1 4 v4) λv5=>U (ax J h1 .neq 4 v3 v5) λv6=>bG (b7 v6 true (U (aQ J 169 v1 4) λbl=>U (ak J h1 3 bl) λbA=>U (ax J h1 .geq 3 bA (.int .i64 0)) λv9=>some (.normal,[v9],h1)) (some (.normal,[.undef],h1))) λ_ aK ab=>a_ aK λv10 fN=>br fN (U (bZ v6 v10 (.bool false)) λv11=>bG (b7 v11 true (U (aQ J 169 v1 4) λv12=>U (ak J ab 3 v12) λcd=>U (ax J ab .leq 3 cd (.int .i64 1048576)) λb9=>some (.normal,[b9],ab)) (some (.normal,[.undef],ab))) λ_ aK al=>a_ aK λch oA=>br oA (U (bZ v11 ch (.bool false)) λcj=>bG (b7 cj true (U (aQ J 169 v1 1) λcC=>U (ak J al 4 cC) λcx=>some (.normal,[cx],al)) (some (.normal,[.undef],al))) λ_ aK aE=>a_ aK λcL qb=>br qb (bG (b7 cL true (U (aQ J 169 v1 2) λv20=>U (ak J aE 4 v20) λv21=>some (.normal,[v21],aE)) (some (.normal,[.undef],aE))) λ_ aK aL=>a_ aK λv22 O8=>br O8 (bG (b7 cj true (U (bZ cL v22 (.bool false)) λv23=>U (gQ .not v23) λv24=>some (.normal,[v24],aL)) (some (.normal,[.undef],aL))) λ_ aK bm=>a_ aK λv25 Ee=>br Ee (U (bZ cj v25 (.bool false)) λv26=>some (.ret,[v26],bm))))))
theorem ajn{a0:aa} :LT PV 179 [a0] (Qh a0):=
 cc (f:=Tryz.f179) (.seq (.ah []) (.seq (.ah [[11],[16],[21],[23],[25]]) .leaf)) (by kernel_rfl) (b' rfl (by kernel_rfl)) λ_ _=>by kernel_rfl
def IP(a0:aa)(C:bW)(h:ae) :Option a1:=ca (dz J 169) h λv1 h1=>U (ax J h1 .quo 67 a0 (.int .u64 16)) λv2=>U (ax J h1 .gtr 67 v2 (.int .u64 1048576)) λv3=>bq v3 (U (dY J 169 []) λv4=>U (bN J h1 169 v1 v4) λab=>U (ak J ab 169 v1) λv5=>some (.ret,[v5],ab)) (U (ax J h1 .and 67 a0 (.int .u64 1)) λv6=>U (ax J h1 .neq 67 v6 (.int .u64 0)) λbl=>U (ax J h1 .and 67 a0 (.int .u64 2)) λbA=>U (ax J h1 .neq 67 bA (.int .u64 0)) λv9=>U (ax J h1 .and 67 a0 (.int .u64 4)) λv10=>U (ax J h1 .neq 67 v10 (.int .u64 0)) λv11=>U (ax J h1 .and 67 a0 (.int .u64 8)) λv12=>U (ax J h1 .neq 67 v12 (.int .u64 0)) λcd=>U (ax J h1 .quo 67 a0 (.int .u64 16)) λb9=>U (gB J h1 67 3 b9) λch=>U (dY J 169 [(0,bl),(1,v9),(2,v11),(3,cd),(4,ch)]) λcj=>ca (dz J 169) h1 λcC al=>U (bN J al 169 cC cj) λaE=>U (ak J aE 169 cC) λcx=>a7 (C (.func 179 [] []) [cx] aE) λcL aL=>U (gQ .not cL) λv20=>bq v20 (U (dY J 169 []) λv21=>U (bN J aL 169 v1 v21) λbm=>U (ak J bm 169 v1) λv22=>some (.ret,[v22],bm)) (U (ak J aL 169 cC) λv23=>U (bN J aL 169 v1 v23) λcr=>U (ak J cr 169 v1) λv24=>some (.ret,[v24],cr)))
theorem Vr{a0:aa} :LT PV 318 [a0] (IP a0):=
 cc (f:=Tryz.f318) (.seq (.ah []) (.seq (.seq (.ah []) (.cond (.seq (.ah []) .leaf) .leaf)) (.seq (.ah []) (.seq (.seq (.ah []) (.cond (.seq (.ah []) .leaf) .leaf)) (.seq (.ah []) .leaf))))) (by kernel_rfl) (b' rfl (by kernel_rfl)) λ_ _=>by kernel_rfl
def QF(a0 ao a2:aa)(C:bW)(h:ae) :Option a1:=ca (dz J 169) h λv1 h1=>U (bB a0) λv2=>U (aQ J 272 v2 0) λv3=>U (ak J h1 152 v3) λv4=>U (ax J h1 .mul 3 a2 (.int .i64 8)) λv5=>a7 (C (.func 91 [] []) [v4,ao,v5,(.int .i64 4)] h1) λv6 ab=>U (cm v6 0) λbl=>U (cm v6 1) λbA=>a7 (C (.func 318 [] []) [bl] ab) λv9 al=>U (bN J al 169 v1 v9) λaE=>U (ak J aE 169 v1) λv10=>some (.ret,[v10],aE)
theorem ajL{a0 ao a2:aa} :LT PV 245 [a0,ao,a2] (QF a0 ao a2):=
 cc (f:=Tryz.f245) (.seq (.ah []) (.seq (.ah []) (.seq (.ah []) .leaf))) (by kernel_rfl) (b' rfl (by kernel_rfl)) λ_ _=>by kernel_rfl
end
section
variable{PV:cn} [cN PV]
theorem hS{E:Env}{t:TypeId}{i:bK}(aW:E.ty t=some i)(aC:qF i.desc=false)(h:ae)(id off:Nat) :ak E h t (.ptr id off)=bP h id off:=by simp[ak,loadT,aW,aC]
theorem jM(h:ae)(id off:Nat) :ak J h 3 (.ptr id off)=bP h id off:=hS (i:=lA) (by kernel_rfl) rfl h id off
def Er:List Int:=[0,1,2,4,8,1,2,4,8,8]
structure lE(h:ae) :Prop where
 rd:∀k:Nat,k<10->bP h 0 k=some (.int .i64 (Er.getD k 0))
 lt:0<h.next
theorem aie(n:Nat)(aw:n<10) :cZ J 255 (.ptr 0 0) (.int .i64 n)=some (.ptr 0 n):=by
 have aG:J.ty 255=some OH:=by kernel_rfl
 have aT:J.ty 3=some lA:=by kernel_rfl
 have:oe (n:Int) 10=some n:=by show(bif Nat.blt n 10 then some n else none)=some n;rw[dM.2 aw];rfl
 simp only[cZ,aG];show(match J.ty 3,oe (n:Int) 10 with|some ie,some j=>some (aa.ptr 0 (0+j*ie.size)) |_,_=>none)=_;rw[aT,this];show some (aa.ptr 0 (0+n*1))=_;rw[Nat.zero_add,Nat.mul_one]
theorem Iq{h:ae}(hw:lE h)(k:Nat)(av:k<10) :call J PV (.func 254 [] []) [.int .i64 k] h=some (.int .i64 (Er.getD k 0),h):=by
 refine ajT (x:=.ret) (vs:=[.int .i64 (Er.getD k 0)]) (first:=[]) (cap:=[]) ?_ rfl;have h0:¬(k:Int) <0:=by omega
 have h1:¬(10:Int)<=k:=by omega
 simp[QN,h0,h1,aie k av,jM,hw.rd k av]
theorem Mj{f:List aa->ae->Option a1}{st:Nat->List aa×ae}{m:Nat}{x:eb}{vs:List aa}{g:ae}(ag:x≠.normal)
  (aw:∀i,i<m->f (st i).1 (st i).2=some (.normal,(st (i+1)).1,(st (i+1)).2)) (he:f (st m).1 (st m).2=some (x,vs,g)) :
  ∀(k i:Nat),i<=m->eM k f (st i).1 (st i).2=if i+2^k<=m then some (.normal,(st (i+2^k)).1,(st (i+2^k)).2)else some (x,vs,g)
 |0,i,af=>by
  show f _ _=_;by_cases h:i=m
  ·subst h;rw[he,if_neg (by omega)]
  ·rw[aw i (by omega),if_pos (show i+1<=m by omega)]
 |k+1,i,af=>by
  have gO:2^(k+1)=2^k+2^k:=by omega
  unfold eM;rw[Mj ag aw he k i af];by_cases h:i+2^k<=m
  ·rw[if_pos h];show eM k f _ _=_;rw[Mj ag aw he k _ h];by_cases ab:i+2^(k+1)<=m
   ·rw[if_pos ab,if_pos (by omega),show i+2^k+2^k=i+2^(k+1)by omega]
   ·rw[if_neg ab,if_neg (by omega)]
  ·rw[if_neg h,if_neg (by omega)];cases x<;>first|rfl|exact absurd rfl ag
theorem akP{f:List aa->ae->Option a1}(st:Nat->List aa×ae)(m:Nat){k:Nat}{x:eb}{vs:List aa}{g:ae}(ag:x≠.normal)(hm:m<2^k)
  (aw:∀i,i<m->f (st i).1 (st i).2=some (.normal,(st (i+1)).1,(st (i+1)).2)) (he:f (st m).1 (st m).2=some (x,vs,g)) :eM k f (st 0).1 (st 0).2=some (x,vs,g):=by
 rw[Mj ag aw he k 0 (by omega),if_neg (by omega)]
theorem VF{f:List aa->ae->Option a1}(st:Nat->List aa×ae)(m:Nat){k:Nat}{x:eb}{vs vs0:List aa}{g h0:ae}(ag:x≠.normal)(hm:m<2^k)(h1:vs0=(st 0).1)(ab:h0=(st 0).2)
  (aw:∀i,i<m->f (st i).1 (st i).2=some (.normal,(st (i+1)).1,(st (i+1)).2)) (he:f (st m).1 (st m).2=some (x,vs,g)) :eM k f vs0 h0=some (x,vs,g):=by
 rw[h1,ab];exact akP st m ag hm aw he
theorem aoY(h:ae)(k:Int) :call J PV (.func 321 [] []) [.int .i64 k] h=some (.bool (decide (5<=k/\k<=8)),h):=by refine aj' (x:=.ret) (vs:=[.bool (decide (5<=k/\k<=8))]) (first:=[]) (cap:=[]) ?_ rfl;by_cases aL:5<=k<;>by_cases cz:k<=8<;>simp[Q3,aL,cz]
theorem aaK(h:ae)(at' n:Int)(all:Nat)(hD:all<2^62) :
  call J PV (.func 255 [] []) [.int .i64 at',.int .i64 n,.int .i64 all] h=some (.bool (decide (0<=at'/\0<=n/\at'<=all/\n<=all-at')),h):=by
 refine ajU (x:=.ret) (vs:=[.bool (decide (0<=at'/\0<=n/\at'<=all/\n<=all-at'))]) (first:=[]) (cap:=[]) ?_ rfl;by_cases h1:0<=at'
 ·by_cases ab:0<=n
  ·by_cases al:at'<=all
   ·have e:b0 .i64 ((all:Int) -at')=all-at':=wrap_i64 (by omega) (by omega);simp[Bq,h1,ab,al,e]
   ·simp[Bq,h1,ab,al]
  ·simp[Bq,h1,ab]
 ·simp[Bq,h1]
theorem Af(h:ae)(l n:Nat) :dw J h 9 (.str l n)=some (.int .i64 l):=by
 have e:J.ty 9=some oz:=by kernel_rfl
 simp only[dw,e];rfl
theorem alZ(h:ae)(l n:Nat)(ay:l<2^62)(at' w:Int) :
  call J PV (.func 295 [] []) [.str l n,.int .i64 at',.int .i64 w] h=some (.bool (decide (1<=w/\w<=8/\0<=at'/\at'<=l/\w<=l-at')),h):=by
 refine aj1 (x:=.ret) (vs:=[.bool (decide (1<=w/\w<=8/\0<=at'/\at'<=l/\w<=l-at'))]) (first:=[]) (cap:=[]) ?_ rfl;by_cases h1:1<=w
 ·by_cases ab:w<=8
  ·have al:0<=w:=by omega
   simp[EB,h1,ab,al,Af,aaK h at' w l ay]
  ·simp[EB,h1,ab]
 ·simp[EB,h1]
theorem amG{a c i:Nat}(bc:a<2^(8*i))(aA:a+c*2^(8*i) <2^64) :r4 .u64 (a:Int) ((c*2^(8*i) :Nat) :Int)=((a+c*2^(8*i) :Nat) :Int):=by
 have aH:c*2^(8*i) <2^64:=by omega
 have ae2:a<2^64:=by omega
 unfold r4
 have e:(BitVec.ofInt IntKind.u64.bits (a:Int) |||BitVec.ofInt IntKind.u64.bits ((c*2^(8*i) :Nat) :Int)).toNat=a+c*2^(8*i):=by rw[BitVec.toNat_or,BitVec.ofInt_natCast,BitVec.ofInt_natCast,BitVec.toNat_ofNat,BitVec.toNat_ofNat];show a%2^64|||c*2^(8*i) %2^64=_;rw[Nat.mod_eq_of_lt ae2,Nat.mod_eq_of_lt aH,Nat.or_comm,<-Nat.shiftLeft_eq,<-Nat.shiftLeft_add_eq_or_of_lt bc,Nat.add_comm]
 rw[e,<-m_];exact wrap_u64 (by omega) (by omega)
theorem acR(h:ae)(n:Int) :gB J h 5 67 (.int .u8 n)=some (.int .u64 (b0 .u64 n)):=by
 have aG:J.ty 5=some m6:=by kernel_rfl
 have aT:J.ty 67=some w2:=by kernel_rfl
 simp only[gB,aG,aT];rfl
theorem UL(l n i:Nat)(af:i<l) :o2 J 9 (.str l n) (.int .i64 i)=some (.int .u8 (dN n i:Nat)):=by
 have aG:J.ty 9=some oz:=by kernel_rfl
 have:oe (i:Int) l=some i:=by show(bif Nat.blt i l then some i else none)=some i;rw[dM.2 af];rfl
 simp only[o2,aG];show(match oe (i:Int) l with|some j=>some (aa.int .u8 (.ofNat (dN n j))) |none=>none)=_;rw[this];rfl
def cB(n at' w:Nat) :Nat:=n/2^(8*at') %2^(8*w)
theorem V4(n at' w:Nat) :cB n at' (w+1)=cB n at' w+dN n (at'+w) *2^(8*w):=by unfold cB;rw[jE,Nat.mul_add,Nat.mul_add,Nat.pow_add 2 (8*at'),<-Nat.div_div_eq_div_mul];generalize n/2^(8*at')=m;rw[Nat.mul_one,Nat.pow_add,Nat.mod_mul,Nat.mul_comm (2^(8*w)) (m/_%_)]
theorem uO(n at' w:Nat) :cB n at' w<2^(8*w):=Nat.mod_lt _ (Nat.two_pow_pos _)
theorem aeQ(h:ae)(l n:Nat)(ay:l<2^62)(at' w:Nat)(h1:1<=w)(cz:w<=8)(fZ:at'+w<=l) :
  call J PV (.func 212 [] []) [.str l n,.int .i64 at',.int .i64 w] h=some (.tuple [.int .u64 (cB n at' w:Nat),.bool true],h):=by
 refine ajw (x:=.ret) (vs:=[.int .u64 (cB n at' w:Nat),.bool true]) (first:=[]) (cap:=[]) ?_ rfl
 have aC:decide ((1:Int)<=w/\(w:Int)<=8/\(0:Int)<=at'/\(at':Int)<=l/\(w:Int)<=l-at')=true:=by rw[decide_eq_true_eq];omega
 unfold Qq;rw[alZ h l n ay,aC];simp only[c3,fD,ar,ba,Bool.not_true,Bool.false_eq_true,if_false];have z:cB n at' 0=0:=by simp[cB,Nat.mod_one]
 rw[VF (λi=>([aa.int .u64 (cB n at' i:Nat),.int .i64 (i:Nat)],h)) w (x:=.exit 0) (vs:=[.int .u64 (cB n at' w:Nat),.int .i64 (w:Nat)]) (g:=h) (by simp) (by omega) (by simp[z]) rfl]
 ·simp
 ·intro i af;have aG:(i:Int) <w:=by omega
  have aT:b0 .i64 ((at':Int) +i)=((at'+i:Nat) :Int):=by rw[wrap_i64 (by omega) (by omega)];simp
  have aj:=vI n (at'+i);have bJ:b0 .u64 (dN n (at'+i) :Nat)=(dN n (at'+i) :Nat):=wrap_u64 (by omega) (by omega);have e0:b0 .i64 (8*(i:Int))=Int.ofNat (8*i):=by rw[wrap_i64 (by omega) (by omega)];simp
  have fJ:b0 .i64 ((i:Int) +1)=((i+1:Nat) :Int):=by rw[wrap_i64 (by omega) (by omega)];simp
  have aI:dN n (at'+i) *2^(8*i) <2^64:=by
   have:dN n (at'+i) *2^(8*i) <256*2^(8*i):=Nat.mul_lt_mul_of_pos_right aj (Nat.two_pow_pos _)
   have ab:256*2^(8*i)<=2^64:=by rw[show 256=2^8 by rfl,<-Nat.pow_add];exact Nat.pow_le_pow_right (by omega) (by omega)
   omega
  have hm:min (8*i) IntKind.u64.bits=8*i:=Nat.min_eq_left (by show 8*i<=64;omega)
  have kc:b0 .u64 (((dN n (at'+i) :Nat) :Int) *2^(8*i))=((dN n (at'+i) *2^(8*i) :Nat) :Int):=by rw[show((dN n (at'+i) :Nat) :Int) *2^(8*i)=((dN n (at'+i) *2^(8*i) :Nat) :Int)by simp];exact wrap_u64 (by omega) (by omega)
  have vQ:r4 .u64 (cB n at' i:Nat) ((dN n (at'+i) *2^(8*i) :Nat) :Int)=(cB n at' (i+1) :Nat):=by rw[amG (uO _ _ _),V4];rw[<-V4];refine Nat.lt_of_lt_of_le (uO _ _ _) (Nat.pow_le_pow_right (by omega) (by omega))
  simp only[bz,bp,dk,ar,ba,decide_eq_true_eq,if_pos aG,du,aT,UL l n (at'+i) (by omega),acR,bJ,nh,e0,RZ,hm,kc,RY,vQ,fJ]
 ·have aG:¬(w:Int) <w:=by omega
  simp only[bz,bp,dk,ar,ba,decide_eq_true_eq,if_neg aG]
end
section
variable{PV:cn} [cN PV]
theorem wu(h:ae)(id off:Nat) :ak J h 64 (.ptr id off)=bP h id off:=hS (i:=vc) (by kernel_rfl) rfl h id off
theorem Vc(h:ae)(id off:Nat) :ak J h 67 (.ptr id off)=bP h id off:=hS (i:=w2) (by kernel_rfl) rfl h id off
theorem aiH(h:ae)(id off:Nat) :ak J h 135 (.ptr id off)=bP h id off:=hS (i:=nK) (by kernel_rfl) rfl h id off
theorem yc(h:ae)(id off:Nat) :ak J h 152 (.ptr id off)=bP h id off:=hS (i:=w0) (by kernel_rfl) rfl h id off
theorem aiI(h:ae)(id off:Nat) :ak J h 286 (.ptr id off)=bP h id off:=hS (i:=OK) (by kernel_rfl) rfl h id off
theorem adW(id off:Nat) :aQ J 268 (.ptr id off) 0=some (.ptr id off):=by kernel_rfl
theorem vS(id off:Nat) :aQ J 268 (.ptr id off) 1=some (.ptr id (off+1)):=by kernel_rfl
theorem zw(id off:Nat) :aQ J 268 (.ptr id off) 2=some (.ptr id (off+2)):=by kernel_rfl
theorem nQ{x n:Nat}(h:x<=n) :ql (x:Int) n=some x:=by show(bif Nat.ble x n then some x else none)=_;rw[ec.2 h];rfl
theorem XS(h:ae){id off len cap l r:Nat}{ex:Bool}(h1:l<=r)(ab:r<=cap) :
  iv J h 135 (.slice id off len cap 1 ex) (some (.int .i64 l)) (some (.int .i64 r)) none=some (.slice id (off+l) (r-l) (cap-l) 1 ex):=by
 have aG:J.ty 135=some nK:=by kernel_rfl
 have aT:J.ty 5=some m6:=by kernel_rfl
 show kl J h 135 (.slice id off len cap 1 ex) (some (l:Int)) (some (r:Int)) none=_;simp only[kl,aG]
 show(match js len cap ex (some (l:Int)) (some (r:Int)) none,J.ty 5 with
  |some (l,h,m,ex),some ie=>bif Nat.beq ie.size 1 then some (aa.slice id (off+l*1) (h-l) (m-l) 1 ex)else none
  |_,_=>none)=_
 rw[aT];simp only[js,nQ h1,nQ ab];show some (aa.slice id (off+l*1) (r-l) (cap-l) 1 ex)=_;rw[Nat.mul_one]
theorem zn(h:ae){id off len cap N size:Nat}{ex st:Bool}(aN:h.get id=.bytes size st N)(h0:0<len)(aA:off+len<=size) :
  gB J h 135 9 (.slice id off len cap 1 ex)=some (.str len (cB N off len)):=by
 have aG:J.ty 135=some nK:=by kernel_rfl
 have aT:J.ty 9=some oz:=by kernel_rfl
 have bJ:J.ty 5=some m6:=by kernel_rfl
 have an:oo h id off len=some (cB N off len):=by unfold oo;rw[aN];show(bif Nat.ble (off+len) size then some (N>>> (8*off) %2^(8*len))else none)=_;rw[ec.2 aA,Nat.shiftRight_eq_div_pow];rfl
 have aj:Nat.beq len 0=false:=by rw[a8.beq_false];omega
 simp only[gB,aG,aT]
 show(match J.ty 5 with
  |some ie=>bif jh ie.desc then(bif Nat.beq len 0 then some (aa.str 0 0)else match oo h id off len with
   |some m=>some (aa.str len m)
   |none=>none)else none
  |none=>none)=_
 rw[bJ]
 show(bif Nat.beq len 0 then some (aa.str 0 0)else match oo h id off len with
      |some m=>some (aa.str len m)
      |none=>none)=_
 rw[aj,an];rfl
theorem wo{id off len cap:Nat}{ex:Bool}(n:Nat)(aw:n<len) :cZ J 64 (.slice id off len cap 1 ex) (.int .i64 n)=some (.ptr id (off+n)):=by
 have aG:J.ty 64=some vc:=by kernel_rfl
 have aT:J.ty 3=some lA:=by kernel_rfl
 have:oe (n:Int) len=some n:=by show(bif Nat.blt n len then some n else none)=some n;rw[dM.2 aw];rfl
 simp only[cZ,aG];show(match J.ty 3,oe (n:Int) len with|some ie,some j=>bif Nat.beq ie.size 1 then some (aa.ptr id (off+j*1))else none|_,_=>none)=_;rw[aT,this];show some (aa.ptr id (off+n*1))=_;rw[Nat.mul_one]
theorem GM(h:ae)(id off len cap cT:Nat)(ex:Bool) :dw J h 64 (.slice id off len cap cT ex)=some (.int .i64 len):=by
 have e:J.ty 64=some vc:=by kernel_rfl
 simp only[dw,e];rfl
structure gw where
 p:Nat
 b:Nat
 q:Nat
 n:Nat
structure er(h:ae)(A:gw)(mem held:Nat->Nat)(free:Nat) :Prop where
 n:A.n<=4096
 lt:A.p<h.next/\A.b<h.next/\A.q<h.next
 ne:A.p≠A.b/\A.p≠A.q/\A.b≠A.q
 str:∃aG aT,a8.Obj h A.p [.slice A.b 0 (64*A.n) (64*A.n) 1 aG,.slice A.q 0 A.n A.n 1 aT,.int .i64 free]
 bytes:∃st N,h.get A.b=.bytes (64*A.n) st N/\∀f,f<A.n->cB N (64*f) 64=mem f
 arr:a8.Obj h A.q ((List.range A.n).map λf=>aa.int .i64 (held f))
section
variable{h:ae}{A:gw}{mem held:Nat->Nat}{free:Nat}
theorem er.f0(aI:er h A mem held free) :∃ex,bP h A.p 0=some (.slice A.b 0 (64*A.n) (64*A.n) 1 ex):=by obtain⟨aG,aT,o⟩:=aI.str;exact⟨aG,o.rd 0⟩
theorem er.f1(aI:er h A mem held free) :∃ex,bP h A.p 1=some (.slice A.q 0 A.n A.n 1 ex):=by obtain⟨aG,aT,o⟩:=aI.str;exact⟨aT,o.rd 1⟩
theorem er.f2(aI:er h A mem held free) :bP h A.p 2=some (.int .i64 free):=by obtain⟨aG,aT,o⟩:=aI.str;exact o.rd 2
theorem er.hold(aI:er h A mem held free)(f:Nat)(aJ:f<A.n) :bP h A.q f=some (.int .i64 (held f)):=by rw[aI.arr.rd f];simp[aJ]
end
section
variable{h:ae}{A:gw}{mem held:Nat->Nat}{free:Nat}
theorem Aw(h:ae)(a b:Nat) :ax J h .eql 152 (.ptr a b) .nilPtr=some (.bool false):=by kernel_rfl
theorem Kj(aI:er h A mem held free){f:Nat}(aJ:f<A.n) :∃ex,call J PV (.func 241 [] []) [.ptr A.p 0,.int .i64 f] h=some (.slice A.b (64*f) 64 (64*A.n-64*f) 1 ex,h):=by
 obtain⟨ex,aj⟩:=aI.f0;have aw:=aI.n;refine⟨ex,ajI (x:=.ret) (vs:=[.slice A.b (64*f) 64 (64*A.n-64*f) 1 ex]) (first:=[]) (cap:=[]) ?_ rfl⟩;have aG:b0 .i64 ((f:Int) *64)=((64*f:Nat) :Int):=by rw[wrap_i64 (by omega) (by omega)];omega
 have aT:b0 .i64 ((f:Int) +1)=((f+1:Nat) :Int):=by rw[wrap_i64 (by omega) (by omega)];simp
 have bJ:b0 .i64 (((f+1:Nat) :Int) *64)=((64*(f+1) :Nat) :Int):=by rw[wrap_i64 (by omega) (by omega)];omega
 simp only[QC,cl,ar,adW,aiH,aj,nh,du,aG,aT,bJ];rw[XS h (by omega) (by omega)];simp only[ar,Nat.zero_add,show 64*(f+1) -64*f=64 by omega]
theorem w8(aI:er h A mem held free){f:Nat}(aJ:f<A.n)(aD:held f≠0){sA v:aa}{g:ae}
  (aH:∀ex,call J PV sA [.slice A.b (64*f) 64 (64*A.n-64*f) 1 ex] h=some (v,g)) :call J PV (.func 183 [] []) [.ptr A.p 0,.int .i64 f,sA] h=some (v,g):=by
 obtain⟨ex,aF⟩:=aI.f1;obtain⟨gi,fw⟩:=Kj aI aJ;have aw:=aI.n;refine ajr (x:=.ret) (vs:=[v]) (first:=[]) (cap:=[]) ?_ rfl;have h0:¬(f:Int) <0:=by omega
 have h1:¬(A.n:Int)<=f:=by omega
 have ab:¬(held f:Int)=0:=by omega
 simp[Ql,Aw,h0,h1,aD,vS,wu,jM,aF,GM,wo f aJ,aI.hold f aJ,fw,aH gi]
end
def wF(k:Nat) :Prop:=k=1\/k=2\/k=3\/k=4
def di(k:Nat) :Nat:=if k=1 then 1 else if k=2 then 2 else if k=3 then 4 else 8
theorem Ip{k:Nat}(av:wF k) :Er.getD k 0=(di k:Int):=by rcases av with rfl|rfl|rfl|rfl<;>rfl
theorem y0{k:Nat} :1<=di k/\di k<=8:=by unfold di;split<;>(try split)<;>(try split)<;>omega
theorem acC{h:ae}(hw:lE h){k:Nat}(av:wF k){m:Nat}(hm:m<2^(8*di k)) :call J PV (.func 256 [] []) [.int .i64 k,.int .u64 m] h=some (.int .u64 m,h):=by
 refine ajV (x:=.ret) (vs:=[.int .u64 m]) (first:=[]) (cap:=[]) ?_ rfl;have xK:k<10:=by rcases av with rfl|rfl|rfl|rfl<;>omega
 obtain⟨ck,hL⟩:=y0 (k:=k);have fU:¬((di k:Nat) :Int)=0:=by omega
 have aG:b0 .i64 (8*((di k:Nat) :Int))=((8*di k:Nat) :Int):=by rw[wrap_i64 (by omega) (by omega)];simp
 have aT:b0 .i64 (64-((8*di k:Nat) :Int))=Int.ofNat (64-8*di k):=by rw[wrap_i64 (by omega) (by omega)];simp;omega
 have bJ:¬(5<=(k:Int)/\(k:Int)<=8):=by rcases av with rfl|rfl|rfl|rfl<;>omega
 have e0:decide (5<=(k:Int)/\(k:Int)<=8)=false:=decide_eq_false bJ;have rN:min (64-8*di k) IntKind.u64.bits=64-8*di k:=Nat.min_eq_left (by show _<=64;omega)
 have b6:m*2^(64-8*di k) <2^64:=by have:=Nat.mul_lt_mul_of_pos_right hm (Nat.two_pow_pos (64-8*di k));rw[<-Nat.pow_add,show 8*di k+(64-8*di k)=64 by omega]at this;exact this
 have fJ:b0 .u64 ((m:Int) *2^(64-8*di k))=((m*2^(64-8*di k) :Nat) :Int):=by rw[show(m:Int) *2^(64-8*di k)=((m*2^(64-8*di k) :Nat) :Int)by simp];exact wrap_u64 (Int.natCast_nonneg _) (by generalize m*2^(64-8*di k)=M at b6|-;omega)
 have kc:(((m*2^(64-8*di k) :Nat) :Int)).fdiv (2^(64-8*di k))=(m:Int):=by
  have:((2:Int) ^(64-8*di k))=((2^(64-8*di k) :Nat) :Int):=by simp
  rw[this,Int.fdiv_eq_ediv_of_nonneg _ (Int.natCast_nonneg _),<-Int.natCast_ediv,Nat.mul_div_cancel _ (Nat.two_pow_pos _)]
 simp only[QO,Iq hw k xK,Ip av,c3,dn,ar,ba,decide_eq_true_eq,if_neg fU,nh,aG,fT,aT,aoY,e0,Bool.false_eq_true,if_false,RZ,rN,fJ,R0,kc]
theorem anN{h:ae}(hw:lE h){k:Nat}(av:wF k)(n:Nat) :call J PV (.func 170 [] []) [.int .i64 k,.str (di k) n] h=some (.tuple [.int .u64 (cB n 0 (di k) :Nat),.int .i64 0],h):=by
 refine ajh (x:=.ret) (vs:=[.int .u64 (cB n 0 (di k) :Nat),.int .i64 0]) (first:=[]) (cap:=[]) ?_ rfl;have xK:k<10:=by rcases av with rfl|rfl|rfl|rfl<;>omega
 obtain⟨ck,hL⟩:=y0 (k:=k);have fU:¬((di k:Nat) :Int)=0:=by omega
 have aG:decide (((di k:Nat) :Int)≠(di k:Nat))=false:=by simp
 have aN:=aeQ h (di k) n (by omega) 0 (di k) ck hL (by omega);have Cg:call J PV (.func 212 [] []) [.str (di k) n,.int .i64 0,.int .i64 (di k:Nat)] h=some (.tuple [.int .u64 (cB n 0 (di k) :Nat),.bool true],h):=aN;simp only[Qc,Iq hw k xK,Ip av,c3,dn,ar,ba,decide_eq_true_eq,if_neg fU,Af,dP,aG,Bool.false_eq_true,if_false,Cg,dA,List.getElem?_cons_zero,List.getElem?_cons_succ,acC hw av (uO n 0 (di k))]
theorem alX(N o a w:Nat)(h:a+w<=64) :cB (cB N o 64) a w=cB N (o+a) w:=by
 unfold cB;have aG:8*(o+a)=8*o+8*a:=by omega
 rw[aG,Nat.pow_add,<-Nat.div_div_eq_div_mul];generalize N/2^(8*o)=M;have aT:8*64=8*a+(8*64-8*a):=by omega
 rw[aT,Nat.pow_add,Nat.mod_mul_right_div_self];rw[Nat.mod_mod_of_dvd];exact Nat.pow_dvd_pow 2 (by omega)
abbrev eV(v:aa) :bT:=.cells 1 false [] (bu.ofList [v])
theorem xe(n:Int) :c9 J 3 (.int .i64 n)=some (λid=>aa.ptr id 0,eV (.int .i64 n)):=by kernel_rfl
theorem R6(f:FuncId)(a b:List aa) :c9 J 286 (.func f a b)=some (λid=>aa.ptr id 0,eV (.func f a b)):=by kernel_rfl
theorem abb:dz J 67=some (λid=>aa.ptr id 0,eV (.int .u64 0)):=by kernel_rfl
theorem tq(h:ae)(v:aa) :bP (h.new (eV v)) h.next 0=some v:=by unfold bP;rw[ks];rfl
theorem mw{h:ae}{o:bT}{j:Nat}(aO:j<h.next)(i:Nat) :bP (h.new o) j i=bP h j i:=by unfold bP;rw[ug aO]
theorem dd(h:ae)(k j i:Nat) :bP (h.aB k) j i=bP h j i:=by unfold bP;rw[TA]
theorem Nu{S:Nat->Prop}{h bC:ae}(u:aM S h bC){j:Nat}(aO:j<h.next)(aA:¬S j)(i:Nat) :bP bC j i=bP h j i:=by unfold bP;rw[u.get j aO aA]
theorem lE.az{S:Nat->Prop}{h bC:ae}(w:lE h)(u:aM S h bC)(aA:¬S 0) :lE bC:=⟨λk av=>by rw[Nu u w.lt aA];exact w.rd k av,Nat.lt_of_lt_of_le w.lt u.next⟩
theorem er.az{S:Nat->Prop}{h bC:ae}{A:gw}{mem held:Nat->Nat}{free:Nat}(aI:er h A mem held free)(u:aM S h bC)(aA:¬S A.p/\¬S A.b/\¬S A.q) :er bC A mem held free where
 n:=aI.n
 lt:=⟨Nat.lt_of_lt_of_le aI.lt.1 u.next,Nat.lt_of_lt_of_le aI.lt.2.1 u.next,Nat.lt_of_lt_of_le aI.lt.2.2 u.next⟩
 ne:=aI.ne
 str:=let⟨aG,aT,o⟩:=aI.str;⟨aG,aT,o.az u aI.lt.1 aA.1⟩
 bytes:=by rw[u.get _ aI.lt.2.1 aA.2.1];exact aI.bytes
 arr:=aI.arr.az u aI.lt.2.2 aA.2.2
theorem X7{h:ae}{id:Nat}{st:Bool}{z:List aa}{t:bu aa}(aN:h.get id=.cells 1 st z t)(k:IntKind)(n:Int) :bN J h 67 (.ptr id 0) (.int k n)=some (h.put id (.cells 1 st z (t.set 0 (.int k n)))):=by
 have e:J.ty 67=some w2:=by kernel_rfl
 simp only[bN,storeT,e];show(bif Nat.beq 1 1&& !Nat.beq 1 0 then j9 h id 0 [aa.int k n]else none)=_
 show j9 h id 0 [aa.int k n]=_;unfold j9;rw[aN];rfl
theorem W6(h:ae)(id:Nat)(st:Bool)(z:List aa)(t:bu aa)(v:aa) :bP (h.put id (.cells 1 st z (t.set 0 v))) id 0=some v:=by unfold bP;rw[ln];show(bif Nat.blt 0 1 then(match(t.set 0 v).get 0 with|some v=>some v|none=>z[0%z.length]?)else none)=_;rw[bu.lL,if_pos rfl];rfl
section
variable{h:ae}{A:gw}{mem held:Nat->Nat}{free:Nat}
theorem RQ(hw:lE h){k:Nat}(av:wF k){x_ ap sC:Nat}{b off cap:Nat}{ex:Bool}{at':Nat}{SK v:aa}{g:ae}
  (h1:bP h x_ 0=some (.int .i64 k)) (ab:bP h ap 0=some (.int .i64 at')) (al:bP h sC 0=some SK) (fZ:at'+di k<=64) (mQ:64<=cap)
  (aH:call J PV SK [.slice b (off+at') (di k) (cap-at') 1 ex] (h.aB 8)=some (v,g)) :
  call J PV (.func 253 [] [.ptr x_ 0,.ptr ap 0,.ptr sC 0]) [.slice b off 64 cap 1 ex] h=some (.int .i64 0,g):=by
 refine ajS (x:=.ret) (vs:=[.int .i64 0]) (first:=[]) (mid:=[.slice b off 64 cap 1 ex]) (cap:=[.ptr x_ 0,.ptr ap 0,.ptr sC 0]) ?_ rfl;have xK:k<10:=by rcases av with rfl|rfl|rfl|rfl<;>omega
 obtain⟨ck,hL⟩:=y0 (k:=k);have fU:¬((di k:Nat) :Int)=0:=by omega
 have aG:decide ((0:Int)<=(at':Int)/\(0:Int)<=((di k:Nat) :Int)/\(at':Int)<=((64:Nat) :Int)/\((di k:Nat) :Int)<=((64:Nat) :Int) -at')=true:=by rw[decide_eq_true_eq];omega
 have aT:b0 .i64 ((at':Int) +((di k:Nat) :Int))=((at'+di k:Nat) :Int):=by rw[wrap_i64 (by omega) (by omega)];simp
 have CP:=aaK h at' (di k:Nat) 64 (by omega);rw[aG]at CP;have Gm:call J PV (.func 255 [] []) [.int .i64 at',.int .i64 (di k:Nat),.int .i64 64] h=some (.bool true,h):=CP;have aA:=XS (h.aB 8) (id:=b) (off:=off) (len:=64) (cap:=cap) (l:=at') (r:=at'+di k) (ex:=ex) (by omega) (by omega);rw[show at'+di k-at'=di k by omega]at aA;simp only[QM,jM,aiI,dd,h1,ab,al,ar,Iq hw k xK,Ip av,c3,dn,ba,decide_eq_true_eq,if_neg fU,Gm,fD,Bool.not_true,Bool.false_eq_true,if_false,du,aT,aA,aH,eh]
theorem akK(hw:lE h){k:Nat}(av:wF k){x_ pT:Nat}{b off cap size N:Nat}{ex st N7:Bool}{z:List aa}{t:bu aa}(h1:bP h x_ 0=some (.int .i64 k))(ab:h.get pT=.cells 1 N7 z t)(aj:h.get b=.bytes size st N)(fZ:off+di k<=size) :
  call J PV (.func 169 [] [.ptr x_ 0,.ptr pT 0]) [.slice b off (di k) cap 1 ex] h=some (.undef,h.put pT (.cells 1 N7 z (t.set 0 (.int .u64 (cB N off (di k) :Nat))))):=by
 refine ajg (x:=.ret) (vs:=[]) (first:=[]) (mid:=[.slice b off (di k) cap 1 ex]) (cap:=[.ptr x_ 0,.ptr pT 0]) ?_ rfl;obtain⟨ck,hL⟩:=y0 (k:=k);have aH:=zn h (id:=b) (off:=off) (len:=di k) (cap:=cap) (ex:=ex) aj (by omega) fZ;have an:=anN hw av (cB N off (di k))
 have e:cB (cB N off (di k)) 0 (di k)=cB N off (di k):=by unfold cB;simp
 rw[e]at an;simp only[Qb,jM,h1,ar,aH,an,c3,dA,List.getElem?_cons_zero,List.getElem?_cons_succ,X7 ab]
end
section
variable{h:ae}{A:gw}{mem held:Nat->Nat}{free:Nat}
theorem Vy(hw:lE h)(aI:er h A mem held free)(asR:A.p≠0/\A.b≠0/\A.q≠0){k:Nat}(av:wF k){f:Nat}(aJ:f<A.n)(aD:held f≠0){at':Nat}(fZ:at'+di k<=64) :
  ∃g,call J PV (.func 91 [] []) [.ptr A.p 0,.int .i64 f,.int .i64 at',.int .i64 k] h=some (.tuple [.int .u64 (cB (mem f) at' (di k) :Nat),.int .i64 0],g)/\bf h g:=by
 have aw:=aI.n;obtain⟨ck,hL⟩:=y0 (k:=k);let h1:=h.new (eV (.int .i64 k));let ab:=h1.new (eV (.int .u64 0));have g2:ab.get h1.next=eV (.int .u64 0):=ks _ _;let al:=ab.put h1.next (.cells 1 false [] ((bu.ofList [aa.int .u64 0]).set 0 (.int .u64 0)));let aE:=al.new (eV (.int .i64 at'));let aL:=aE.new (eV (.int .i64 k));let bm:=aL.new (eV (.func 169 [] [.ptr h.next 0,.ptr h1.next 0]));have bb:bf h h1:=aM.new _ _ _;have bn:bf h ab:=bb.trans (aM.new _ _ _);have bR:bf h al:=bn.uW _ (by show h.next<=h.next+1;omega);have bO:bf h aE:=bR.trans (aM.new _ _ _);have cD:bf h aL:=bO.trans (aM.new _ _ _);have cJ:bf h bm:=cD.trans (aM.new _ _ _);have fk:bf h (bm.aB 8):=cJ.trans (aM.aB _ _ _);have dR:h1.next=h.next+1:=rfl;have gp:al.next=h.next+2:=rfl;have hU:aE.next=h.next+3:=rfl;have n5:aL.next=h.next+4:=rfl;have n6:bm.next=h.next+5:=rfl
 have cS:bP al h.next 0=some (.int .i64 k):=by show bP (ab.put h1.next _) h.next 0=_;rw[W8 (ke (by omega)),mw (by omega),tq]
 have uX:bP (bm.aB 8) h.next 0=some (.int .i64 k):=by rw[dd,mw (by omega),mw (by omega),mw (by omega),cS]
 have dm:bP bm aE.next 0=some (.int .i64 k):=by rw[mw (by omega),tq]
 have eS:bP bm al.next 0=some (.int .i64 at'):=by rw[mw (by omega),mw (by omega),tq]
 have fp:bP bm aL.next 0=some (.func 169 [] [.ptr h.next 0,.ptr h1.next 0]):=tq _ _
 have g7:(bm.aB 8).get h1.next=.cells 1 false [] ((bu.ofList [aa.int .u64 0]).set 0 (.int .u64 0)):=by rw[TA,ug (by omega),ug (by omega),ug (by omega),ln]
 have Cx:er bm A mem held free:=aI.az cJ ⟨λe=>e,λe=>e,λe=>e⟩;have agT:er (bm.aB 8) A mem held free:=aI.az fk ⟨λe=>e,λe=>e,λe=>e⟩;obtain⟨st,N,aj,ei⟩:=agT.bytes;have af5:64*f+at'+di k<=64*A.n:=by omega
 have ay:=λex=>akK (ex:=ex) (hw.az fk (λe=>e)) av (b:=A.b) (off:=64*f+at') (cap:=64*A.n-64*f-at') uX g7 aj af5
 have Ln:cB N (64*f+at') (di k)=cB (mem f) at' (di k):=by rw[<-ei f aJ,alX _ _ _ _ fZ]
 simp only[Ln]at ay;let g:=(bm.aB 8).put h1.next (.cells 1 false [] (((bu.ofList [aa.int .u64 0]).set 0 (.int .u64 0)).set 0 (.int .u64 (cB (mem f) at' (di k) :Nat))));have ia:bf h g:=fk.uW _ (by omega)
 have aH:∀ex,call J PV (.func 253 [] [.ptr aE.next 0,.ptr al.next 0,.ptr aL.next 0]) [.slice A.b (64*f) 64 (64*A.n-64*f) 1 ex] bm=some (.int .i64 0,g):=λex=>
  RQ (hw.az cJ (λe=>e)) av dm eS fp fZ (by omega) (ay ex)
 have pI:=w8 Cx aJ aD aH
 have KG:call J PV (.func 168 [] []) [.ptr A.p 0,.int .i64 f,.int .i64 at',.int .i64 k,.func 169 [] [.ptr h.next 0,.ptr h1.next 0]] al=some (.int .i64 0,g):=by refine Vj (x:=.ret) (vs:=[.int .i64 0]) (first:=[]) (cap:=[]) ?_ rfl;simp only[IG,xe,R6,oG];show a7 (call J PV (.func 183 [] []) [.ptr A.p 0,.int .i64 f,.func 253 [] [.ptr aE.next 0,.ptr al.next 0,.ptr aL.next 0]] bm) _=_;rw[pI];rfl
 refine⟨g,aky (x:=.ret) (vs:=[.int .u64 (cB (mem f) at' (di k) :Nat),.int .i64 0]) (first:=[]) (cap:=[]) ?_ rfl,ia⟩;simp only[Rr,xe,abb,oG];show U (bN J ab 67 (.ptr h1.next 0) (.int .u64 0)) _=_;rw[X7 g2,ar,jM];show U (bP al h.next 0) _=_;rw[cS,ar];show a7 (call J PV (.func 168 [] []) [.ptr A.p 0,.int .i64 f,.int .i64 at',.int .i64 k,.func 169 [] [.ptr h.next 0,.ptr h1.next 0]] al) _=_;rw[KG,c3,Vc];show U (bP g h1.next 0) _=_;rw[W6,ar]
end
end
structure bj where
 here:Bool
 write:Bool
 copy:Bool
 out:Bool
 n:Int
def bj.zero:bj:=⟨false,false,false,false,0⟩
def bj.may(s:bj) :Bool:=(s.here !=s.out) &&decide (0<=s.n) &&decide (s.n<=1048576) && !(s.write&&s.copy)
instance:DecidableEq bj:=λa b=>
 if h:a.here=b.here/\a.write=b.write/\a.copy=b.copy/\a.out=b.out/\a.n=b.n then isTrue (by cases a;cases b;simp_all)else isFalse (by rintro rfl;simp at h)
def tg(f:Nat) :bj:=⟨true,false,false,false,f⟩
theorem VP(f:Nat) :tg f≠.zero:=by intro h;injection h;contradiction
theorem VL{s:bj}(h:s.may=true) :s≠.zero:=by rintro rfl;simp[bj.may,bj.zero]at h
def az{α:Type}(f:Nat->α)(i:Nat)(v:α) :Nat->α:=λj=>if j=i then v else f j
def c8{α:Type}(f:Nat->Nat->α)(i j:Nat)(v:α) :Nat->Nat->α:=λa b=>if a=i/\b=j then v else f a b
@[simp] theorem e4 {α:Type} (f:Nat->α) (i:Nat) (v:α) :az f i v i=v:=if_pos rfl
theorem eE{α:Type}(f:Nat->α){i j:Nat}(v:α)(h:j≠i) :az f i v j=f j:=if_neg h
structure dt where
 bd:Nat->Nat->Option Nat
 ent:Nat->bj
structure hB(dec:Nat->Nat->bj)(n:Nat)(T:dt) :Prop where
 root:T.bd 0 0≠none
 lvl:∀l q f,T.bd l q=some f->l<4/\q<8^l/\f<n
 s9:∀l q f i,l<3->T.bd l q=some f->i<8->dec f i=match T.bd (l+1) (8*q+i)with|some g=>tg g|none=>.zero
 leaf:∀q f i,T.bd 3 q=some f->i<8->dec f i=T.ent (8*q+i)
 par:∀l q,T.bd (l+1) q≠none->T.bd l (q/8)≠none
 own:∀p,T.ent p≠.zero->T.bd 3 (p/8)≠none
 may:∀p,T.ent p≠.zero->(T.ent p).may=true
 inj:∀l q bQ dc f,T.bd l q=some f->T.bd bQ dc=some f->l=bQ/\q=dc
def sx(T:dt) :Prop:=(∀q,T.bd 3 q≠none->∃i,i<8/\T.ent (8*q+i)≠.zero)/\∀l q,l<2->T.bd (l+1) q≠none->∃i,i<8/\T.bd (l+2) (8*q+i)≠none
def IsNode(T:dt)(f:Nat) :Prop:=∃l q,T.bd l q=some f
section
variable{dec oK:Nat->Nat->bj}{n:Nat}{T:dt}
theorem hB.bM(h:hB dec n T){p:Nat}(aI:T.ent p≠.zero) :p<4096:=by
 have:=h.own p aI;cases e:T.bd 3 (p/8)with
 |none=>exact absurd e this
 |some f=>have:=(h.lvl _ _ _ e).2.1;omega
theorem hB.congr(h:hB dec n T)(e:∀f i,IsNode T f->i<8->oK f i=dec f i) :hB oK n T where
 root:=h.root
 lvl:=h.lvl
 s9:=λl q f i ay aJ af=>by rw[e f i ⟨l,q,aJ⟩ af];exact h.s9 l q f i ay aJ af
 leaf:=λq f i aJ af=>by rw[e f i ⟨3,q,aJ⟩ af];exact h.leaf q f i aJ af
 par:=h.par
 own:=h.own
 may:=h.may
 inj:=h.inj
theorem hB.put(h:hB dec n T){p f:Nat}{s:bj}(aJ:T.bd 3 (p/8)=some f)(aA:s=.zero\/s.may=true)(e:∀g i,IsNode T g->i<8->oK g i=c8 dec f (p%8) s g i) :hB oK n {T with ent:=az T.ent p s}where
 root:=h.root
 lvl:=h.lvl
 s9:=λl q g i ay aN af=>by
  rw[e g i ⟨l,q,aN⟩ af,<-h.s9 l q g i ay aN af];have:g≠f:=by rintro rfl;have:=h.inj _ _ _ _ _ aN aJ;omega
  simp[c8,this]
 leaf:=λq g i aN af=>by
  rw[e g i ⟨3,q,aN⟩ af];have h1:=h.leaf q g i aN af;by_cases K3:g=f
  ·subst K3;have:=h.inj _ _ _ _ _ aN aJ;by_cases fh:i=p%8
   ·have:8*q+i=p:=by omega
    simp[c8,fh,az,this];omega
   ·have:8*q+i≠p:=by omega
    simp[c8,fh,az,this,h1]
  ·have:8*q+i≠p:=by
    intro e;have:q=p/8:=by omega
    subst this;rw[aN]at aJ;exact K3 (Option.some.inj aJ)
   simp[c8,K3,az,this,h1]
 par:=h.par
 own:=λq aF=>by
  by_cases e:q=p
  ·subst e;rw[aJ];simp
  ·exact h.own q (by simpa [az,e]using aF)
 may:=λq aF=>by
  by_cases e:q=p
  ·subst e;rcases aA with aA|aA
   ·simp[aA]at aF
   ·simpa using aA
  ·simpa [az,e]using h.may q (by simpa [az,e]using aF)
 inj:=h.inj
theorem hB.grow(h:hB dec n T){l q f g:Nat}(ay:l<3)(aN:T.bd l (q/8)=some g)(aF:T.bd (l+1) q=none)(iD:f<n)(aJ:¬IsNode T f)(aP:∀i,i<8->dec f i=.zero)
  (e:∀a i,IsNode T a\/a=f->i<8->oK a i=c8 dec g (q%8) (tg f) a i) :hB oK n {T with bd:=c8 T.bd (l+1) q (some f)}:=by
 have KM:∀i,i<8->T.bd (l+2) (8*q+i)=none:=λi af=>by
  cases e:T.bd (l+2) (8*q+i)with
  |none=>rfl
  |some a=>exact absurd aF (by have:=h.par (l+1) (8*q+i) (by simp[e]);rwa[show(8*q+i) /8=q by omega]at this)
 have afG:∀i,i<8->l+1=3->T.ent (8*q+i)=.zero:=λi af al=>by apply Classical.byContradiction;intro aH;have:=h.own _ aH;rw[show(8*q+i) /8=q by omega,<-al]at this;exact this aF
 have zM:f≠g:=λe=>aJ ⟨l,q/8,e▸aN⟩
 have xR:q<8^(l+1):=by have:=(h.lvl _ _ _ aN).2.1;rw[Nat.pow_succ];omega
 have old:∀{bQ dc a},T.bd bQ dc=some a->¬(bQ=l+1/\dc=q):=λbc aD=>by rw[aD.1,aD.2,aF]at bc;cases bc
 have c0:∀{bQ dc a},T.bd bQ dc=some a->c8 T.bd (l+1) q (some f) bQ dc=some a:=λbc=>by simp[c8,old bc,bc]
 have uG:∀{bQ dc},T.bd bQ dc≠none->c8 T.bd (l+1) q (some f) bQ dc≠none:=λbc=>by unfold c8;split<;>simp_all
 have back:∀{bQ dc a},c8 T.bd (l+1) q (some f) bQ dc=some a->(bQ=l+1/\dc=q/\a=f)\/(¬(bQ=l+1/\dc=q)/\T.bd bQ dc=some a):=λbc=>by unfold c8 at bc;split at bc<;>simp_all
 refine⟨uG h.root,?_,?_,?_,?_,?_,h.may,?_⟩
 ·intro bQ dc a bc;rcases back bc with⟨rfl,rfl,rfl⟩ |⟨_,bc⟩
  ·exact⟨by omega,xR,iD⟩
  ·exact h.lvl _ _ _ bc
 ·intro bQ dc a i kv bc af;show oK a i=match c8 T.bd (l+1) q (some f) (bQ+1) (8*dc+i)with|some g=>tg g|none=>.zero
  rcases back bc with⟨rfl,rfl,rfl⟩ |⟨c',aj⟩
  ·rw[e a i (.inr rfl) af];have:¬(l+1+1=l+1/\8*dc+i=dc):=by omega
   have ab:c8 T.bd (l+1) dc (some a) (l+1+1) (8*dc+i)=none:=by simp[c8,KM i af]
   rw[ab];simp[c8,zM,aP i af]
  ·rw[e a i (.inl ⟨_,_,aj⟩) af];have h1:=h.s9 bQ dc a i kv aj af;by_cases ag:bQ=l/\8*dc+i=q
   ·obtain⟨rfl,rfl⟩:=ag;rw[show(8*dc+i) /8=dc by omega,aj]at aN;obtain rfl:=Option.some.inj aN;rw[show c8 T.bd (bQ+1) (8*dc+i) (some f) (bQ+1) (8*dc+i)=some f by simp[c8]];simp[c8,show(8*dc+i) %8=i by omega]
   ·rw[show c8 T.bd (l+1) q (some f) (bQ+1) (8*dc+i)=T.bd (bQ+1) (8*dc+i)by simp only[c8];rw[if_neg (by omega)]];rw[<-h1]
    have:¬(a=g/\i=q%8):=λ⟨aG,aT⟩=>by subst aG;have:=h.inj _ _ _ _ _ aj aN;omega
    simp only[c8];rw[if_neg this]
 ·intro dc a i bc af;rcases back bc with⟨al,rfl,rfl⟩ |⟨c',bc⟩
  ·rw[e a i (.inr rfl) af];show _=T.ent _;rw[afG i af al.symm];simp[c8,zM,aP i af]
  ·rw[e a i (.inl ⟨_,_,bc⟩) af];show _=T.ent _;rw[<-h.leaf dc a i bc af];have:a≠g:=by rintro rfl;have:=h.inj _ _ _ _ _ bc aN;omega
   simp[c8,this]
 ·intro bQ dc bc;cases aj:c8 T.bd (l+1) q (some f) (bQ+1) dc with
  |none=>exact absurd aj bc
  |some a=>
   rcases back aj with⟨h1,rfl,rfl⟩ |⟨c',aj⟩
   ·obtain rfl:bQ=l:=by omega
    exact uG (by rw[aN];simp)
   ·exact uG (h.par _ _ (by rw[aj];simp))
 ·exact λp aI=>uG (h.own p aI)
 ·intro gM eA hR gr a h1 ab;rcases back h1 with⟨rfl,rfl,rfl⟩ |⟨_,bk⟩<;>rcases back ab with⟨rfl,rfl,al⟩ |⟨_,b_⟩
  ·simp
  ·exact absurd ⟨_,_,b_⟩ aJ
  ·subst al;exact absurd ⟨_,_,bk⟩ aJ
  ·exact h.inj _ _ _ _ _ bk b_
theorem hB.shrink(h:hB dec n T){l q f g:Nat}(ay:l<3)(aN:T.bd l (q/8)=some g)(aF:T.bd (l+1) q=some f)(aP:∀i,i<8->dec f i=.zero)
  (e:∀a i,IsNode T a->a≠f->i<8->oK a i=c8 dec g (q%8) .zero a i) :hB oK n {T with bd:=c8 T.bd (l+1) q none}:=by
 have KM:∀i,i<8->l+1<3->T.bd (l+2) (8*q+i)=none:=λi af al=>by
  have:=h.s9 (l+1) q f i al aF af;rw[aP i af]at this;cases e:T.bd (l+2) (8*q+i)with
  |none=>rfl
  |some a=>rw[e]at this;exact absurd this.symm (VP a)
 have zM:f≠g:=λe=>by subst e;have:=h.inj _ _ _ _ _ aF aN;omega
 have back:∀{bQ dc a},c8 T.bd (l+1) q none bQ dc=some a->¬(bQ=l+1/\dc=q)/\T.bd bQ dc=some a:=λbc=>by unfold c8 at bc;split at bc<;>simp_all
 have c0:∀{bQ dc},¬(bQ=l+1/\dc=q)->c8 T.bd (l+1) q none bQ dc=T.bd bQ dc:=λbc=>by simp[c8,bc]
 have uN:∀{bQ dc a},¬(bQ=l+1/\dc=q)->T.bd bQ dc=some a->a≠f:=λc' bc e=>by subst e;exact c' (h.inj _ _ _ _ _ bc aF)
 refine⟨?_,?_,?_,?_,?_,?_,h.may,?_⟩
 ·show c8 T.bd (l+1) q none 0 0≠none;rw[c0 (by omega)];exact h.root
 ·exact λbQ dc a bc=>h.lvl _ _ _ (back bc).2
 ·intro bQ dc a i kv bc af;show oK a i=match c8 T.bd (l+1) q none (bQ+1) (8*dc+i)with|some g=>tg g|none=>.zero
  obtain⟨c',aj⟩:=back bc;rw[e a i ⟨_,_,aj⟩ (uN c' aj) af];have h1:=h.s9 bQ dc a i kv aj af;by_cases ag:bQ=l/\8*dc+i=q
  ·obtain⟨rfl,rfl⟩:=ag;rw[show(8*dc+i) /8=dc by omega,aj]at aN;obtain rfl:=Option.some.inj aN;simp[c8,show(8*dc+i) %8=i by omega]
  ·rw[c0 (by omega),<-h1]
   have:¬(a=g/\i=q%8):=λ⟨aG,aT⟩=>by subst aG;have:=h.inj _ _ _ _ _ aj aN;omega
   simp only[c8];rw[if_neg this]
 ·intro dc a i bc af;obtain⟨c',bc⟩:=back bc;rw[e a i ⟨_,_,bc⟩ (uN c' bc) af];show _=T.ent _;rw[<-h.leaf dc a i bc af];have:a≠g:=by rintro rfl;have:=h.inj _ _ _ _ _ bc aN;omega
  simp[c8,this]
 ·intro bQ dc bc;cases aj:c8 T.bd (l+1) q none (bQ+1) dc with
  |none=>exact absurd aj bc
  |some a=>
   obtain⟨c',aH⟩:=back aj;have aI:=h.par _ _ (show T.bd (bQ+1) dc≠none by rw[aH];simp);show c8 T.bd (l+1) q none bQ (dc/8)≠none;by_cases ag:bQ=l+1/\dc/8=q
   ·obtain⟨rfl,rfl⟩:=ag;have:=(h.lvl _ _ _ aH).1;have:=KM (dc%8) (by omega) (by omega);rw[show 8*(dc/8) +dc%8=dc by omega]at this;rw[this]at aH;cases aH
   ·rw[c0 ag];exact aI
 ·intro p aI;show c8 T.bd (l+1) q none 3 (p/8)≠none;by_cases ag:3=l+1/\p/8=q
  ·obtain⟨ag,rfl⟩:=ag;obtain rfl:l=2:=by omega
   have:=h.leaf (p/8) f (p%8) aF (by omega);rw[aP _ (by omega),show 8*(p/8) +p%8=p by omega]at this;exact absurd this.symm aI
  ·rw[c0 ag];exact h.own p aI
 ·exact λgM eA hR gr a h1 ab=>h.inj _ _ _ _ _ (back h1).2 (back ab).2
end
def cq(f:Nat->Bool) :Nat->Nat
 |0=>0
 |n+1=>cq f n+(f n).toNat
theorem xj{f g:Nat->Bool} :∀{n:Nat},(∀i,i<n->f i=g i)->cq f n=cq g n
 |0,_=>rfl
 |n+1,h=>by rw[cq,cq,xj (λi af=>h i (by omega)),h n (by omega)]
theorem oJ(f:Nat->Bool) :∀n,cq f n<=n
 |0=>Nat.le_refl _
 |n+1=>by have:=oJ f n;have:=Bool.toNat_le (f n);rw[cq];omega
theorem kS{f:Nat->Bool} :∀{n:Nat},cq f n=0↔∀i,i<n->f i=false
 |0=>by simp[cq]
 |n+1=>by
  rw[cq];constructor
  ·intro h i af;have h1:=(kS (f:=f) (n:=n)).1 (by omega);by_cases e:i=n
   ·subst e;cases aJ:f i<;>simp_all
   ·exact h1 i (by omega)
  ·intro h;rw[(kS (f:=f) (n:=n)).2 (λi af=>h i (by omega)),h n (by omega)];rfl
theorem zk{f:Nat->Bool}{n i:Nat}(af:i<n)(h:f i=true) :0<cq f n:=by apply Nat.pos_of_ne_zero;intro e;have:=kS.1 e i af;simp[h]at this
theorem tW{f g:Nat->Bool}{p:Nat} :∀{n:Nat},p<n->(∀i,i<n->i≠p->g i=f i)->cq g n+(f p).toNat=cq f n+(g p).toNat
 |0,h,_=>by omega
 |n+1,h,aN=>by
  rw[cq,cq];by_cases e:p=n
  ·subst e;rw[xj (f:=g) (g:=f) (n:=p) (λi af=>aN i (by omega) (by omega))];omega
  ·have:=tW (f:=f) (g:=g) (p:=p) (n:=n) (by omega) (λi af=>aN i (by omega));rw[aN n (by omega) (by omega)];omega
theorem E6(f g:Nat->Bool)(aC:∀i,f i=true->g i=false) :∀n,cq f n+cq g n=cq (λi=>f i||g i) n
 |0=>rfl
 |n+1=>by
  have:=E6 f g aC n;rw[cq,cq,cq,<-this];cases e:f n with
  |true=>rw[aC n e];simp;omega
  |false=>simp;omega
theorem JH(f:Nat->Bool) :∀n,cq f n+cq (λi=> !f i) n=n
 |0=>rfl
 |n+1=>by have:=JH f n;rw[cq,cq];cases f n<;>simp<;>omega
theorem E7{f g:Nat->Bool} :∀{n:Nat},(∀i,i<n->f i=true->g i=true)->cq f n<=cq g n
 |0,_=>Nat.le_refl _
 |n+1,h=>by
  have:=E7 (f:=f) (g:=g) (n:=n) (λi af=>h i (by omega));rw[cq,cq];cases e:f n with
  |false=>simp;omega
  |true=>rw[h n (by omega) e];omega
theorem least{f:Nat->Bool} :∀{n:Nat},0<cq f n->∃i,i<n/\f i=true/\∀j,j<i->f j=false
 |0,h=>by simp[cq]at h
 |n+1,h=>by
  by_cases h0:0<cq f n
  ·obtain⟨i,h1,ab,al⟩:=least h0;exact⟨i,by omega,ab,al⟩
  ·have aP:=kS.1 (show cq f n=0 by omega);refine⟨n,by omega,?_,aP⟩;rw[cq]at h;cases e:f n with
   |true=>rfl
   |false=>rw[e]at h;simp at h;omega
def dx(f:Nat->Nat) :Nat->Nat
 |0=>0
 |n+1=>dx f n+f n
theorem p2{f g:Nat->Nat} :∀{n:Nat},(∀i,i<n->f i=g i)->dx f n=dx g n
 |0,_=>rfl
 |n+1,h=>by rw[dx,dx,p2 (λi af=>h i (by omega)),h n (by omega)]
theorem AW(f g:Nat->Nat) :∀n,dx (λi=>f i+g i) n=dx f n+dx g n
 |0=>rfl
 |n+1=>by rw[dx,dx,dx,AW f g n];omega
theorem N8{f g:Nat->Nat}{p:Nat} :∀{n:Nat},p<n->(∀i,i<n->i≠p->g i=f i)->dx g n+f p=dx f n+g p
 |0,h,_=>by omega
 |n+1,h,aN=>by
  rw[dx,dx];by_cases e:p=n
  ·subst e;rw[p2 (f:=g) (g:=f) (n:=p) (λi af=>aN i (by omega) (by omega))];omega
  ·have:=N8 (f:=f) (g:=g) (p:=p) (n:=n) (by omega) (λi af=>aN i (by omega));rw[aN n (by omega) (by omega)];omega
theorem ou(f:Nat->Bool) :∀n,dx (λi=>(f i).toNat) n=cq f n
 |0=>rfl
 |n+1=>by rw[dx,cq,ou f n]
theorem yB{f:Nat->Nat} :∀{n:Nat},(∀i,i<n->f i=0)->dx f n=0
 |0,_=>rfl
 |n+1,h=>by rw[dx,yB (λi af=>h i (by omega)),h n (by omega)]
theorem HS{f g:Nat->Nat} :∀{n:Nat},(∀i,i<n->f i<=g i)->dx f n<=dx g n
 |0,_=>Nat.le_refl _
 |n+1,h=>by have:=HS (f:=f) (g:=g) (n:=n) (λi af=>h i (by omega));have:=h n (by omega);rw[dx,dx];omega
theorem DD(f:Nat->Nat->Nat)(m:Nat) :∀n,dx (λi=>dx (f i) m) n=dx (λj=>dx (λi=>f i j) n) m
 |0=>by rw[yB (f:=λj=>dx (λi=>f i j) 0) (λi af=>rfl)];rfl
 |n+1=>by rw[dx,DD f m n,<-AW];rfl
def dI(ent:Nat->bj)(lo:Nat) :Nat->List Nat
 |0=>[]
 |n+1=>dI ent lo n++if ent (lo+n)=.zero then[]else[lo+n]
theorem AP(ent:Nat->bj)(lo n:Nat) :∀m,dI ent lo (n+m)=dI ent lo n++dI ent (lo+n) m
 |0=>by simp[dI]
 |m+1=>by rw[<-Nat.add_assoc,dI,AP ent lo n m,dI,List.append_assoc,Nat.add_assoc]
theorem N2{ent:Nat->bj}{lo:Nat} :∀{n:Nat},(∀i,i<n->ent (lo+i)=.zero)->dI ent lo n=[]
 |0,_=>rfl
 |n+1,h=>by rw[dI,N2 (λi af=>h i (by omega)),h n (by omega)];rfl
theorem yh{ent:Nat->bj}{lo p:Nat} :∀{n:Nat},p∈dI ent lo n↔lo<=p/\p<lo+n/\ent p≠.zero
 |0=>by simp[dI];omega
 |n+1=>by
  rw[dI,List.mem_append,yh (n:=n)];by_cases h:ent (lo+n)=.zero
  ·simp only[h,if_true,List.not_mem_nil,or_false];constructor
   ·rintro⟨a,b,c⟩;exact⟨a,by omega,c⟩
   ·rintro⟨a,b,c⟩;refine⟨a,?_,c⟩;have:p≠lo+n:=λe=>c (e▸h)
    omega
  ·simp only[h,if_false,List.mem_singleton];constructor
   ·rintro(⟨a,b,c⟩ |rfl)
    ·exact⟨a,by omega,c⟩
    ·exact⟨by omega,by omega,h⟩
   ·rintro⟨a,b,c⟩;by_cases e:p=lo+n
    ·exact .inr e
    ·exact .inl ⟨a,by omega,c⟩
theorem N1(ent:Nat->bj)(lo:Nat) :∀n,(dI ent lo n).length=cq (λi=>decide (ent (lo+i)≠.zero)) n
 |0=>rfl
 |n+1=>by rw[dI,List.length_append,N1 ent lo n,cq];by_cases h:ent (lo+n)=.zero<;>simp[h]
namespace dt
def ee(T:dt) :Nat:=dx (λl=>cq (λq=>(T.bd l q).isSome) (8^l)) 4
def h4(T:dt)(P:bj->Bool) :Nat:=cq (λp=>P (T.ent p)) 4096
end dt
theorem acG(T:dt)(P:bj->Bool){p:Nat}(aI:p<4096)(s:bj)(bd:Nat->Nat->Option Nat) :(dt.mk bd (az T.ent p s)).h4 P+(P (T.ent p)).toNat=T.h4 P+(P s).toNat:=by have:=tW (f:=λq=>P (T.ent q)) (g:=λq=>P (az T.ent p s q)) (p:=p) aI (λi _ af=>by simp[az,af]);simpa [dt.h4]using this
theorem E3(T:dt){l q:Nat}(ay:l<4)(aF:q<8^l)(v:Option Nat)(ent:Nat->bj) :(dt.mk (c8 T.bd l q v) ent).ee+(T.bd l q).isSome.toNat=T.ee+v.isSome.toNat:=by
 unfold dt.ee
 have h1:=N8 (f:=λk=>cq (λr=>(T.bd k r).isSome) (8^k)) (g:=λk=>cq (λr=>(c8 T.bd l q v k r).isSome) (8^k)) (p:=l) ay (λi _ af=>by
  refine xj λr _=> ?_
  simp[c8,af])
 have ab:=tW (f:=λr=>(T.bd l r).isSome) (g:=λr=>(c8 T.bd l q v l r).isSome) (p:=q) aF (λi _ af=>by simp[c8,af]);have e:(c8 T.bd l q v l q)=v:=by simp[c8]
 simp only[e]at ab;show dx (λk=>cq (λr=>(c8 T.bd l q v k r).isSome) (8^k)) 4+_=_;omega
section
variable{dec:Nat->Nat->bj}{n:Nat}{T:dt}
theorem G3(h:hB dec n T)(aW:sx T) :∀(k l q:Nat),l+k=3->1<=l->(T.bd l q≠none↔∃p,p/8^(4-l)=q/\T.ent p≠.zero)
 |0,l,q,av,ay=>by
  obtain rfl:l=3:=by omega
  constructor
  ·intro aw;obtain⟨i,af,he⟩:=aW.1 q aw;exact⟨8*q+i,by simp;omega,he⟩
  ·rintro⟨p,aI,he⟩;have:=h.own p he;rw[show p/8=q by simpa using aI]at this;exact this
 |k+1,l,q,av,ay=>by
  have aG:8^(4-l)=8^(4-(l+1)) *8:=by rw[<-Nat.pow_succ];congr 1;omega
  constructor
  ·intro aw;obtain⟨bQ,rfl⟩ :∃bQ,l=bQ+1:=⟨l-1,by omega⟩;obtain⟨i,af,he⟩:=aW.2 bQ q (by omega) aw;obtain⟨p,aI,aP⟩:=(G3 h aW k (bQ+2) (8*q+i) (by omega) (by omega)).1 he;refine⟨p,?_,aP⟩;rw[aG,<-Nat.div_div_eq_div_mul,aI];omega
  ·rintro⟨p,aI,he⟩;rw[aG,<-Nat.div_div_eq_div_mul]at aI;have:=(G3 h aW k (l+1) (p/8^(4-(l+1))) (by omega) (by omega)).2 ⟨p,rfl,he⟩;have:=h.par l _ this;rwa[aI]at this
end
structure aU where
 lo:Int
 af:Int
 perm:Int
 kind:Int
 file:Int
 bM:Int
instance:DecidableEq aU:=λa b=>
 if h:a.lo=b.lo/\a.af=b.af/\a.perm=b.perm/\a.kind=b.kind/\a.file=b.file/\a.bM=b.bM then isTrue (by cases a;cases b;simp_all)else isFalse (by rintro rfl;simp at h)
namespace aU
def zero:aU:=⟨0,0,0,0,0,0⟩
def one(a b:aU) :Bool:=decide (a.af=b.lo/\a.perm=b.perm/\a.kind=b.kind/\a.file=b.file/\(a.kind=1->b.bM=a.bM+a.af-a.lo))
def cu(r:aU)(p:Int) :aU:={r with lo:=p,af:=p+1,bM:=if r.kind=1 then r.bM+p-r.lo else r.bM}
def has(r:aU)(p:Int) :Bool:=decide (r.lo<=p/\p<r.af)
def may(r:aU) :Bool:=decide (0<=r.lo/\r.lo<r.af/\r.af<=4096/\0<=r.perm/\r.perm<=7/\(if r.kind=1 then 0<=r.file/\0<=r.bM/\r.bM<=1073741824-(r.af-r.lo)else 1<r.kind/\r.kind<=4/\r.file= -1/\r.bM=0))
def part(r:aU)(a b:Int) :aU:={r with lo:=a,af:=b,bM:=if r.kind=1 then r.bM+(a-r.lo)else r.bM}
end aU
def e9(out:List aU)(r:aU) :List aU:=
 if r.af<=r.lo then out else match out.getLast? with
  |some a=>if a.one r then out.dropLast++[{a with af:=r.af}]else out++[r]
  |none=>out++[r]
def cv(l:List aU)(p:Int) :Option aU:=l.find? (·.has p)
def spread(l:List aU)(p:Int) :Option aU:=(cv l p).map (·.cu p)
def lX(fx:Int->Option aU)(out:List aU)(lo:Int) :Nat->List aU
 |0=>out
 |n+1=>lX fx (match fx lo with|some r=>e9 out r|none=>out) (lo+1) n
def eZ(a:Int) :List aU->Int->Prop
 |[],b=>a<=b
 |r::l,b=>a<=r.lo/\r.lo<=r.af/\eZ r.af l b
theorem eZ.le:∀{l:List aU} {a b:Int},eZ a l b->a<=b
 |[],_,_,h=>h
 |r::l,a,b,⟨h1,ab,al⟩=>by have:=eZ.le al;omega
theorem eZ.up:∀{l:List aU} {a b c:Int},eZ a l b->b<=c->eZ a l c
 |[],_,_,_,h,aH=>Int.le_trans h aH
 |r::l,a,b,c,⟨h1,ab,al⟩,aH=>⟨h1,ab,al.up aH⟩
theorem eZ.down:∀{l:List aU} {a b c:Int},eZ a l b->c<=a->eZ c l b
 |[],_,_,_,h,aH=>Int.le_trans aH h
 |r::l,a,b,c,⟨h1,ab,al⟩,aH=>⟨Int.le_trans aH h1,ab,al⟩
theorem eZ.append:∀{l m:List aU} {a b c:Int},eZ a l b->eZ b m c->eZ a (l++m) c
 |[],m,a,b,c,h,hm=>hm.down h
 |r::l,m,a,b,c,⟨h1,ab,al⟩,hm=>⟨h1,ab,al.append hm⟩
theorem eZ.mem:∀{l:List aU} {a b:Int} {r:aU},eZ a l b->r∈l->a<=r.lo/\r.af<=b
 |[],_,_,_,_,an=>by cases an
 |x::l,a,b,r,⟨h1,ab,al⟩,an=>by
  rcases List.mem_cons.1 an with rfl|an
  ·exact⟨h1,al.le⟩
  ·have:=al.mem an;omega
theorem eZ.split:∀{l m:List aU} {a c:Int},eZ a (l++m) c->∃b,eZ a l b/\eZ b m c
 |[],m,a,c,h=>⟨a,Int.le_refl _,h⟩
 |r::l,m,a,c,⟨h1,ab,al⟩=>let⟨b,x,y⟩:=eZ.split al;⟨b,⟨h1,ab,x⟩,y⟩
theorem Xh{l:List aU}{p:Int}(h:∀r,r∈l->r.has p=false) :cv l p=none:=by unfold cv;rw[List.find?_eq_none];intro r an;simp[h r an]
theorem AE(l m:List aU)(p:Int) :cv (l++m) p=(cv l p).or (cv m p):=by unfold cv;rw[List.find?_append]
theorem Hw{l:List aU}{a b p:Int}(h:eZ a l b)(aI:p<a\/b<=p) :cv l p=none:=
 Xh λr an=>by have:=h.mem an;simp[aU.has];omega
theorem AF{l:List aU}{p:Int}{r:aU}(h:cv l p=some r) :r∈l/\r.lo<=p/\p<r.af:=by have h1:=List.mem_of_find?_eq_some h;have ab:=List.find?_some h;simp[aU.has]at ab;exact⟨h1,ab⟩
theorem Tv{α:Type}(o:List α)(a:α) :(o++[a]).getLast? =some a:=by simp
theorem Hy{o:List aU}{a r:aU}(an:r.lo<r.af)(h:a.one r=true) :e9 (o++[a]) r=o++[{a with af:=r.af}]:=by unfold e9;rw[if_neg (by omega),Tv];simp[h]
theorem Dq{o:List aU}{r:aU}(an:r.lo<r.af)(h:∀cg a,o=cg++[a]->a.one r=false) :e9 o r=o++[r]:=by
 unfold e9;rw[if_neg (by omega)];rcases List.eq_nil_or_concat o with rfl|⟨cg,a,rfl⟩
 ·rfl
 ·rw[List.concat_eq_append]at*
  rw[Tv];simp[h cg a rfl]
theorem AH(o:List aU)(r:aU) :(r.af<=r.lo/\e9 o r=o)\/(r.lo<r.af/\∃cg a,o=cg++[a]/\a.one r=true/\e9 o r=cg++[{a with af:=r.af}])\/(r.lo<r.af/\(∀cg a,o=cg++[a]->a.one r=false)/\e9 o r=o++[r]):=by
 by_cases an:r.af<=r.lo
 ·exact .inl ⟨an,by unfold e9;rw[if_pos an]⟩
 ·rcases List.eq_nil_or_concat o with rfl|⟨cg,a,rfl⟩
  ·exact .inr (.inr ⟨by omega,by simp,Dq (by omega) (by simp)⟩)
  ·rw[List.concat_eq_append];by_cases h:a.one r=true
   ·exact .inr (.inl ⟨by omega,cg,a,rfl,h,Hy (by omega) h⟩)
   ·have aw:∀MO b,cg++[a]=MO++[b]->b.one r=false:=λMO b e=>by
     obtain⟨_,e⟩:=List.append_inj' e rfl;simp at e;subst e;simpa using h
    exact .inr (.inr ⟨by omega,aw,Dq (by omega) aw⟩)
theorem eZ.Dp{o:List aU}{a b c:Int}{r:aU}(h:eZ a o b)(h1:b<=r.lo)(ab:r.af<=c)(al:b<=c) :eZ a (e9 o r) c:=by
 rcases AH o r with⟨_,e⟩ |⟨an,cg,x,rfl,bg,e⟩ |⟨an,_,e⟩
 ·rw[e];exact h.up al
 ·rw[e];obtain⟨d,aC,ag⟩:=h.split;simp[aU.one]at bg;obtain⟨bk,b_,b3⟩:=ag;exact aC.append ⟨bk,by show x.lo<=r.af;omega,ab⟩
 ·rw[e];exact h.append ⟨h1,by omega,ab⟩
def ld(r:aU) :Prop:=r.kind≠1->r.bM=0
theorem ape{o:List aU}{a b:Int}{r:aU}(h:eZ a o b)(h1:b<=r.lo)(aP:ld r)(agL:∀x,x∈o->ld x)(p:Int) :spread (e9 o r) p=if r.has p then some (r.cu p)else spread o p:=by
 rcases AH o r with⟨an,e⟩ |⟨an,cg,x,rfl,bg,e⟩ |⟨an,_,e⟩
 ·rw[e];have:r.has p=false:=by simp[aU.has];omega
  simp[this]
 ·rw[e];obtain⟨d,aC,ag⟩:=h.split;obtain⟨bk,b_,b3⟩:=ag;simp[aU.one]at bg;obtain⟨ct,cE,cO,dG,eH⟩:=bg;unfold spread;rw[AE,AE];by_cases aI:r.has p=true
  ·have nv:=aI;simp[aU.has]at aI;rw[Hw aC (.inr (by omega))]
   have:cv [{x with af:=r.af}] p=some {x with af:=r.af}:=by simp[cv,aU.has];omega
   rw[this];simp only[Option.none_or,Option.map_some,if_pos nv];simp only[aU.cu,cE,cO,dG,Option.some.injEq,aU.mk.injEq,true_and,and_true];by_cases av:r.kind=1
   ·simp[av];have:r.bM=x.bM+x.af-x.lo:=by rcases eH with h|h<;>omega
    omega
   ·simp[av];rw[aP av,agL x (by simp) (by omega)]
  ·rw[if_neg aI]
   have:cv [{x with af:=r.af}] p=(cv [x] p).map λy=>{y with af:=r.af}:=by
    simp[aU.has]at aI;by_cases ag:x.lo<=p/\p<x.af
    ·simp[cv,aU.has,ag];omega
    ·have:¬(x.lo<=p/\p<r.af):=by omega
     simp[cv,aU.has,ag,this]
   rw[this];cases cv cg p with
   |some y=>rfl
   |none=>
    cases cv [x] p with
    |none=>rfl
    |some y=>rfl
 ·rw[e];unfold spread;rw[AE];by_cases aI:r.has p=true
  ·rw[if_pos aI];have nv:=aI;simp[aU.has]at aI;rw[Hw h (.inr (by omega))];simp[cv,nv]
  ·rw[if_neg aI];have:cv [r] p=none:=Xh (by simpa using aI);rw[this];simp
theorem ld.Dp{o:List aU}{r:aU}(aP:ld r)(bg:∀x,x∈o->ld x) :∀x,x∈e9 o r->ld x:=by
 rcases AH o r with⟨an,e⟩ |⟨an,cg,x,rfl,_,e⟩ |⟨an,_,e⟩
 ·rw[e];exact bg
 ·rw[e];intro y aq;rcases List.mem_append.1 aq with aq|aq
  ·exact bg y (by simp[aq])
  ·rw[List.mem_singleton]at aq;subst aq;exact bg x (by simp)
 ·rw[e];intro y aq;rcases List.mem_append.1 aq with aq|aq
  ·exact bg y aq
  ·rw[List.mem_singleton]at aq;subst aq;exact aP
theorem eZ.fold:∀{l o:List aU} {a b c:Int},eZ a o b->eZ b l c->eZ a (l.foldl e9 o) c
 |[],o,a,b,c,h,ay=>h.up ay
 |r::l,o,a,b,c,h,⟨h1,ab,al⟩=>by rw[List.foldl_cons];exact eZ.fold (h.Dp h1 (Int.le_refl _) (by omega)) al
theorem ld.fold:∀{l o:List aU},(∀x,x∈l->ld x)->(∀x,x∈o->ld x)->∀x,x∈l.foldl e9 o->ld x
 |[],o,_,bg=>bg
 |r::l,o,ay,bg=>by rw[List.foldl_cons];exact ld.fold (λx ag=>ay x (by simp[ag])) (ld.Dp (ay r (by simp)) bg)
theorem X4:∀{l o:List aU} {a b c:Int},eZ a o b->eZ b l c->(∀x,x∈l->ld x)->(∀x,x∈o->ld x)->∀p,spread (l.foldl e9 o) p=(spread l p).or (spread o p)
 |[],o,a,b,c,h,ay,Iv,PD,p=>by simp[spread,cv]
 |r::l,o,a,b,c,h,⟨h1,ab,al⟩,Iv,PD,p=>by
  rw[List.foldl_cons,X4 (h.Dp h1 (Int.le_refl _) (by omega)) al (λx ag=>Iv x (by simp[ag])) (ld.Dp (Iv r (by simp)) PD),ape h h1 (Iv r (by simp)) PD];by_cases aI:r.has p=true
  ·have:cv l p=none:=Hw al (.inl (by simp[aU.has]at aI;omega));rw[if_pos aI];unfold spread;rw[this];simp[cv,aI]
  ·rw[if_neg aI];congr 1;simp at aI;simp[spread,cv,aI]
theorem NF{fx:Int->Option aU}{out:List aU} :∀{n:Nat} {lo:Int},(∀p,lo<=p->p<lo+n->fx p=none)->lX fx out lo n=out
 |0,_,_=>rfl
 |n+1,lo,h=>by rw[lX,h lo (by omega) (by omega)];exact NF λp h1 ab=>h p (by omega) (by omega)
theorem ND{fx:Int->Option aU} :∀{n m:Nat} {out:List aU} {lo:Int},lX fx out lo (n+m)=lX fx (lX fx out lo n) (lo+n) m
 |0,m,out,lo=>by rw[Nat.zero_add,lX];congr 1;omega
 |n+1,m,out,lo=>by rw[show n+1+m=(n+m) +1 by omega,lX,ND,lX];congr 1;omega
theorem NG{fx:Int->Option aU}{o:List aU}{r:aU}(aP:ld r) :∀{n:Nat} {lo:Int} {a:aU},a.af=lo->a.perm=r.perm->a.kind=r.kind->a.file=r.file->(r.kind=1->r.bM+lo-r.lo=a.bM+a.af-a.lo)->(∀p,lo<=p->p<lo+n->fx p=some (r.cu p))->lX fx (o++[a]) lo n=o++[{a with af:=lo+n}]
 |0,lo,a,h,_,_,_,_,_=>by
  have:a.af=lo+((0:Nat) :Int):=by omega
  rw[lX,<-this]
 |n+1,lo,a,h,aG,aT,bJ,e0,aI=>by
  rw[lX,aI lo (by omega) (by omega)]
  have bg:a.one (r.cu lo)=true:=by unfold aU.one;rw[decide_eq_true_eq];refine And.intro h (And.intro aG (And.intro aT (And.intro bJ λav=> ?_)));rw[aT]at av;simp only[aU.cu,if_pos av];exact e0 av
  rw[show(match some (r.cu lo)with|some r=>e9 (o++[a]) r|none=>o++[a])=o++[{a with af:=lo+1}]from Hy (by simp[aU.cu];omega) bg];rw[NG aP (n:=n) (lo:=lo+1) (a:={a with af:=lo+1}) rfl aG aT bJ (λav=>by have:=e0 av;show _=a.bM+(lo+1) -a.lo;omega) (λp h1 ab=>aI p (by omega) (by omega))];congr 3;show lo+1+(n:Int)=lo+((n+1:Nat) :Int);omega
theorem WA(a r:aU) :a.one (r.cu r.lo)=a.one r:=by
 have e:(r.cu r.lo).bM=r.bM:=by simp only[aU.cu];split<;>omega
 unfold aU.one;rw[Bool.eq_iff_iff,decide_eq_true_eq,decide_eq_true_eq,e];exact Iff.rfl
theorem aof{fx:Int->Option aU}{out:List aU}{r:aU}{n:Nat}(aP:ld r)(aw:r.af=r.lo+n)(aI:∀p,r.lo<=p->p<r.af->fx p=some (r.cu p)) :lX fx out r.lo n=e9 out r:=by
 cases n with
 |zero=>rw[lX];unfold e9;rw[if_pos (by omega)]
 |succ n=>
  rw[lX,aI r.lo (by omega) (by omega)];show lX fx (e9 out (r.cu r.lo)) (r.lo+1) n=_
  have b6:r.lo<r.af:=by omega
  have mh:(r.cu r.lo).lo<(r.cu r.lo).af:=by show r.lo<r.lo+1;omega
  rcases AH out r with⟨an,e⟩ |⟨an,cg,x,rfl,bg,e⟩ |⟨an,bg,e⟩
  ·omega
  ·rw[e,Hy mh (by rw[WA];exact bg)];simp[aU.one]at bg;obtain⟨ct,cE,cO,dG,eH⟩:=bg
   rw[NG aP (lo:=r.lo+1) (n:=n) (a:={x with af:=(r.cu r.lo).af}) rfl cE cO dG (λav=>by
    show r.bM+(r.lo+1) -r.lo=x.bM+(r.lo+1) -x.lo
    rcases eH with h|h<;>omega) (λp h1 ab=>aI p (by omega) (by omega))]
   congr 3;omega
  ·rw[e,Dq mh (λcg a h=>by rw[WA];exact bg cg a h)];rw[NG aP (lo:=r.lo+1) (n:=n) (a:=r.cu r.lo) rfl rfl rfl rfl (λav=>by simp only[aU.cu,if_pos av];omega) (λp h1 ab=>aI p (by omega) (by omega))];congr 2
   have aG:(r.cu r.lo).bM=r.bM:=by simp only[aU.cu];split<;>omega
   have:({r.cu r.lo with af:=r.lo+1+(n:Int)} :aU)=⟨r.lo,r.lo+1+n,r.perm,r.kind,r.file,(r.cu r.lo).bM⟩:=rfl;rw[this,aG,show r.lo+1+(n:Int)=r.af by omega]
theorem Xn{fx:Int->Option aU} :∀{l out:List aU} {lo:Int} {n:Nat},eZ lo l (lo+n)->(∀x,x∈l->ld x)->(∀p,lo<=p->p<lo+n->fx p=spread l p)->lX fx out lo n=l.foldl e9 out
 |[],out,lo,n,h,_,aI=>NF λp h1 ab=>by rw[aI p h1 ab];rfl
 |r::l,out,lo,n,⟨h1,ab,al⟩,aP,aI=>by
  have aE:=al.le;obtain⟨a,bc⟩ :∃a:Nat,(a:Int)=r.lo-lo:=⟨(r.lo-lo).toNat,by omega⟩;obtain⟨b,aj⟩ :∃b:Nat,(b:Int)=r.af-r.lo:=⟨(r.af-r.lo).toNat,by omega⟩;obtain⟨c,aH⟩ :∃c:Nat,(c:Int)=lo+n-r.af:=⟨(lo+n-r.af).toNat,by omega⟩;obtain rfl:n=a+(b+c):=by omega
  have WN:∀p,¬r.has p=true->spread (r::l) p=spread l p:=λp h=>by simp at h;simp[spread,cv,h]
  rw[ND,NF (n:=a) (λp bk b_=>by
   rw[aI p bk (by omega),WN p (by simp[aU.has];omega)]
   unfold spread;rw[Hw al (.inl (by omega))];rfl)]
  rw[ND,show lo+(a:Int)=r.lo by omega,aof (n:=b) (aP r (by simp)) (by omega) (λp bk b_=>by
   rw[aI p (by omega) (by omega)];have:r.has p=true:=by simp[aU.has];omega
   simp[spread,cv,this])]
  rw[show r.lo+(b:Int)=r.af by omega,List.foldl_cons];exact Xn (l:=l) (n:=c) (al.up (by omega)) (λx ag=>aP x (by simp[ag])) (λp bk b_=>by rw[aI p (by omega) (by omega),WN p (by simp[aU.has];omega)])
def l2(bits:Nat) :bj:=
 if 1048576<bits/16 then .zero else
 let s:bj:=⟨bits.testBit 0,bits.testBit 1,bits.testBit 2,bits.testBit 3,(bits/16:Nat)⟩
 if s.may then s else .zero
def rm(m i:Nat) :bj:=l2 (m/2^(8*(8*i)) %2^(8*8))
def gC(mem:Nat->Nat)(f i:Nat) :bj:=rm (mem f) i
structure df where
 n:Nat
 first:Nat
 c1:Nat
 iU:Int->Int->Option Nat
 loose:Nat->Nat->Prop:=λ_ _=>False
structure dj where
 id:Nat
 file:Int
 bM:Int
 fr:Nat
 fresh:Bool
structure bH where
 s:Nat
 t:Nat
 T:dt
 L:List aU
structure b8 where
 mem:Nat->Nat
 held:Nat->Nat
 free:Nat
 au:List bH
 ring:List dj
 hand:Nat
 bY:Nat->Nat
 used:Nat
 sec:Nat->Nat
def b2(f:Nat)(s:bj) :Bool:=s.here&&s.n==f
def dg(i:Nat)(s:bj) :Bool:=s.out&&s.n==i
def da(l:List bH)(P:bj->Bool) :Nat:=(l.map λx=>x.T.h4 P).sum
def eW{α:Type}(P:α->Bool)(l:List α) :Nat:=(l.map λx=>(P x).toNat).sum
def refs(σ:b8)(f:Nat) :Nat:=da σ.au (b2 f) +eW (λx:dj=>x.fr==f) σ.ring
def lY(σ:b8)(i:Nat) :Nat:=da σ.au (dg i)
def h7(s:bj) :Bool:=s.here&& !s.write&& !s.copy
def base(c:df)(r:aU)(p:Int) :Nat:=if r.kind=1 then(c.iU r.file (r.bM+p-r.lo)).getD 0 else 0
def cont(c:df)(σ:b8)(x:bH)(p:Nat) :Option Nat:=match cv x.L p with
 |none=>none
 |some r=>some (if(x.T.ent p).here then σ.mem (x.T.ent p).n.toNat else if(x.T.ent p).out then σ.sec (c.first+(x.T.ent p).n.toNat)else base c r p)
structure nd(L:List aU) :Prop where
 N6:eZ 0 L 4096
 may:∀r,r∈L->r.may=true
def nN(x y:bH) :Prop:=∀f,IsNode x.T f->¬IsNode y.T f
structure Inv(c:df)(σ:b8)(d e:Nat->Int) :Prop where
 jl:∀x,x∈σ.au->hB (gC σ.mem) c.n x.T
 tight:∀x,x∈σ.au->sx x.T
 ph:σ.au.Pairwise nN
 node:∀x f,x∈σ.au->IsNode x.T f->σ.held f=1/\refs σ f=0/\d f=0
 data:∀f,f<c.n->(∀x,x∈σ.au->¬IsNode x.T f)->(σ.held f:Int)=refs σ f+d f
 free:σ.free=cq (λf=>σ.held f==0) c.n
 here:∀x p,x∈σ.au->(x.T.ent p).here=true->(x.T.ent p).n.toNat<c.n
 out:∀x p,x∈σ.au->(x.T.ent p).out=true->(x.T.ent p).n.toNat<c.c1
 mL:∀x p,x∈σ.au->x.T.ent p≠.zero->cv x.L p≠none\/c.loose x.s p
 slot:∀i,i<c.c1->(σ.bY i:Int)=lY σ i+e i
 used:σ.used=cq (λi=>σ.bY i !=0) c.c1
 write:∀x p,x∈σ.au->(x.T.ent p).here=true->(x.T.ent p).write=true->refs σ (x.T.ent p).n.toNat=1
 clean:∀x p r,x∈σ.au->h7 (x.T.ent p)=true->cv x.L p=some r->r.kind=1/\c.iU r.file (r.bM+p-r.lo)=some (σ.mem (x.T.ent p).n.toNat)
 ring:∀y,y∈σ.ring->y.fr<c.n/\c.iU y.file y.bM=some (σ.mem y.fr)
 keys:σ.ring.Pairwise λa b=>¬(a.file=b.file/\a.bM=b.bM)
 hJ:∀x,x∈σ.au->nd x.L
theorem sB{α:Type}(P:α->Bool)(a b:List α) :eW P (a++b)=eW P a+eW P b:=by simp[eW]
theorem rl{α:Type}(P:α->Bool)(x:α)(b:List α) :eW P (x::b)=(P x).toNat+eW P b:=by simp[eW]
theorem xi{α:Type}(P:α->Bool) :eW P []=0:=rfl
theorem Hs(a b:List bH)(P:bj->Bool) :da (a++b) P=da a P+da b P:=by simp[da]
theorem nG(x:bH)(b:List bH)(P:bj->Bool) :da (x::b) P=x.T.h4 P+da b P:=by simp[da]
theorem uZ(P:bj->Bool) :da [] P=0:=rfl
theorem ys(a b:List bH)(x:bH)(P:bj->Bool) :da (a++x::b) P=x.T.h4 P+da (a++b) P:=by simp only[Hs,nG];omega
theorem fe{α:Type}{a b:List α}{x y:α} :y∈a++x::b↔y=x\/y∈a++b:=by simp;constructor<;>(intro h;rcases h with h|h|h)<;>simp[h]
theorem jA{α:Type}{R:α->α->Prop}(aA:∀x y,R x y->R y x){a b:List α}{x:α} :(a++x::b).Pairwise R↔(∀y,y∈a++b->R x y)/\(a++b).Pairwise R:=by
 simp only[List.pairwise_append,List.pairwise_cons,List.mem_append,List.mem_cons];constructor
 ·rintro⟨h1,⟨ab,al⟩,aE⟩;refine⟨λy aq=> ?_,h1,al,λu hu v ai=>aE u hu v (.inr ai)⟩;rcases aq with aq|aq
  ·exact aA _ _ (aE y aq x (.inl rfl))
  ·exact ab y aq
 ·rintro⟨h1,ab,al,aE⟩;refine⟨ab,⟨λy aq=>h1 y (.inr aq),al⟩,λu hu v ai=> ?_⟩;rcases ai with rfl|ai
  ·exact aA _ _ (h1 u (.inl hu))
  ·exact aE u hu v ai
theorem nN.symm{x y:bH}(h:nN x y) :nN y x:=λf h1 ab=>h f ab h1
theorem Su{T:dt}{P:bj->Bool}{p:Nat}(aI:p<4096)(h:P (T.ent p)=true) :0<T.h4 P:=zk aI h
theorem AA{l:List bH}{P:bj->Bool}{x:bH}(ag:x∈l){p:Nat}(aI:p<4096)(h:P (x.T.ent p)=true) :0<da l P:=by obtain⟨a,b,rfl⟩:=List.append_of_mem ag;rw[ys];have:=Su aI h;omega
theorem E5{α:Type}{P:α->Bool}{l:List α}{x:α}(ag:x∈l)(h:P x=true) :0<eW P l:=by obtain⟨a,b,rfl⟩:=List.append_of_mem ag;rw[sB,rl,h];simp only[Bool.toNat_true];omega
theorem Sy{f:Nat->Bool} :∀{n p q:Nat},p<n->q<n->p≠q->f p=true->f q=true->2<=cq f n
 |0,p,q,h,_,_,_,_=>by omega
 |n+1,p,q,aI,aF,c',h1,ab=>by
  rw[cq];by_cases e:p=n
  ·subst e;have:=zk (f:=f) (n:=p) (i:=q) (by omega) ab;rw[h1];simp;omega
  ·by_cases de:q=n
   ·subst de;have:=zk (f:=f) (n:=q) (i:=p) (by omega) h1;rw[ab];simp;omega
   ·have:=Sy (f:=f) (n:=n) (p:=p) (q:=q) (by omega) (by omega) c' h1 ab;omega
theorem HL{σ:b8}{f:Nat}(h1:refs σ f=1){a b:List bH}{x:bH}(aA:σ.au=a++x::b){p:Nat}(aI:p<4096)(h:b2 f (x.T.ent p)=true) :
  (∀q,q<4096->q≠p->b2 f (x.T.ent q)=false)/\(∀y q,y∈a++b->q<4096->b2 f (y.T.ent q)=false)/\∀y,y∈σ.ring->y.fr≠f:=by
 unfold refs at h1;rw[aA,ys]at h1;have ag:=Su (P:=b2 f) aI h;refine⟨λq aF c'=> ?_,λy q aq aF=> ?_,λy aq e=> ?_⟩
 ·cases aj:b2 f (x.T.ent q)with
  |false=>rfl
  |true=>have:2<=x.T.h4 (b2 f):=Sy aI aF (Ne.symm c') h aj
         omega
 ·cases aj:b2 f (y.T.ent q)with
  |false=>rfl
  |true=>have:=AA (P:=b2 f) aq aF aj
         omega
 ·have:=E5 (P:=λx:dj=>x.fr==f) aq (by simp[e]);omega
theorem lV{σ:b8}{f:Nat}(h:refs σ f=0) :(∀x p,x∈σ.au->p<4096->b2 f (x.T.ent p)=false)/\∀y,y∈σ.ring->y.fr≠f:=by
 unfold refs at h;refine⟨λx p ag aI=> ?_,λy aq e=> ?_⟩
 ·cases aj:b2 f (x.T.ent p)with
  |false=>rfl
  |true=>have:=AA (P:=b2 f) ag aI aj
         omega
 ·have:=E5 (P:=λx:dj=>x.fr==f) aq (by simp[e]);omega
section
variable{c:df}{σ:b8}{d e:Nat->Int}
theorem Inv.lt(h:Inv c σ d e){x:bH}(ag:x∈σ.au){p:Nat}(aI:x.T.ent p≠.zero) :p<4096:=(h.jl x ag).bM aI
theorem Inv.jy(h:Inv c σ d e){x:bH}(ag:x∈σ.au){p:Nat}(aI:x.T.ent p≠.zero) :(x.T.ent p).may=true:=(h.jl x ag).may p aI
theorem gZ{s:bj}(h:s.here=true) :s≠.zero:=by rintro rfl;cases h
theorem wE{s:bj}(h:s.out=true) :s≠.zero:=by rintro rfl;cases h
theorem iL(h:Inv c σ d e){x:bH}(ag:x∈σ.au){p:Nat}(aI:(x.T.ent p).here=true) :b2 (x.T.ent p).n.toNat (x.T.ent p)=true:=by have:=h.jy ag (gZ aI);simp[bj.may]at this;simp[b2,aI];omega
theorem UX(h:Inv c σ d e){x:bH}(ag:x∈σ.au){p:Nat}(aI:(x.T.ent p).out=true) :dg (x.T.ent p).n.toNat (x.T.ent p)=true:=by have:=h.jy ag (wE aI);simp[bj.may]at this;simp[dg,aI];omega
theorem Inv.pv(h:Inv c σ d e){x y:bH}(ag:x∈σ.au){p:Nat}(aI:(x.T.ent p).here=true)(aq:y∈σ.au) :¬IsNode y.T (x.T.ent p).n.toNat:=λaw=>by have:=(lV (h.node y _ aq aw).2.1).1 x p ag (h.lt ag (gZ aI));rw[iL h ag aI]at this;cases this
theorem Inv.Cc(h:Inv c σ d e){x:bH}(ag:x∈σ.au){p:Nat}(aI:(x.T.ent p).here=true) :0<refs σ (x.T.ent p).n.toNat:=by have:=AA (P:=b2 (x.T.ent p).n.toNat) ag (h.lt ag (gZ aI)) (iL h ag aI);unfold refs;omega
theorem Inv.zK(h:Inv c σ d e){x:bH}(ag:x∈σ.au){p:Nat}(aI:(x.T.ent p).here=true)(aC:0<=d (x.T.ent p).n.toNat) :0<σ.held (x.T.ent p).n.toNat:=by have h1:=h.data _ (h.here x p ag aI) (λy aq=>h.pv ag aI aq);have ab:=h.Cc ag aI;omega
theorem Inv.Nf(h:Inv c σ d e){x:bH}(ag:x∈σ.au){p:Nat}(aI:(x.T.ent p).out=true)(aC:0<=e (x.T.ent p).n.toNat) :0<σ.bY (x.T.ent p).n.toNat:=by have h1:=h.slot _ (h.out x p ag aI);have ab:=AA (P:=dg (x.T.ent p).n.toNat) ag (h.lt ag (wE aI)) (UX h ag aI);unfold lY at h1;omega
theorem Inv.yu(h:Inv c σ d e){y:dj}(aq:y∈σ.ring){x:bH}(ag:x∈σ.au) :¬IsNode x.T y.fr:=λaw=>(lV (h.node x _ ag aw).2.1).2 y aq rfl
theorem Inv.Xj(h:Inv c σ d e){y:dj}(aq:y∈σ.ring) :0<refs σ y.fr:=by have:=E5 (P:=λx:dj=>x.fr==y.fr) aq (by simp);unfold refs;omega
theorem Inv.NB(h:Inv c σ d e){y:dj}(aq:y∈σ.ring)(aC:0<=d y.fr) :0<σ.held y.fr:=by have h1:=h.data _ (h.ring y aq).1 (λx ag=>h.yu aq ag);have ab:=h.Xj aq;omega
theorem Inv.uf(h:Inv c σ d e)(aC:∀f,0<=d f){f:Nat}(aJ:f<c.n)(h0:σ.held f=0) :refs σ f=0/\d f=0/\∀x,x∈σ.au->¬IsNode x.T f:=by
 have aw:∀x,x∈σ.au->¬IsNode x.T f:=λx ag aw=>by have:=(h.node x f ag aw).1;omega
 have h1:=h.data f aJ aw;have ab:=aC f;exact⟨by omega,by omega,aw⟩
theorem Inv.fill(h:Inv c σ d e){f:Nat}(m:Nat)(h0:refs σ f=0)(aw:∀x,x∈σ.au->¬IsNode x.T f) :Inv c {σ with mem:=az σ.mem f m} d e:=
 {h with
  jl:=λx ag=>(h.jl x ag).congr λg i aN af=>by
   have:g≠f:=λe=>aw x ag (e▸aN)
   simp[gC,az,this]
  clean:=λx p r ag aH an=>by
   have h1:=h.clean x p r ag aH an;have aD:(x.T.ent p).here=true:=by simp[h7]at aH;exact aH.1.1
   have:(x.T.ent p).n.toNat≠f:=λe=>by have:=(lV h0).1 x p ag (h.lt ag (gZ aD));rw[<-e,iL h ag aD]at this;cases this
   exact⟨h1.1,by show _=some (az σ.mem f m _);rw[eE _ _ this];exact h1.2⟩
  ring:=λy aq=>⟨(h.ring y aq).1,by show _=some (az σ.mem f m _);rw[eE _ _ ((lV h0).2 y aq)];exact(h.ring y aq).2⟩}
theorem Inv.held(h:Inv c σ d e){f:Nat}(aJ:f<c.n)(v:Nat)(fr:Nat)(fc:Nat->Int)(aw:∀x,x∈σ.au->¬IsNode x.T f)(ai:(v:Int)=refs σ f+fc f)(aC:∀g,g≠f->fc g=d g)(fw:fr+(decide (σ.held f=0)).toNat=σ.free+(decide (v=0)).toNat) :
  Inv c {σ with held:=az σ.held f v,free:=fr} fc e:=
 {h with
  node:=λx g ag aN=>by
   have:g≠f:=λe=>aw x ag (e▸aN)
   obtain⟨h1,ab,al⟩:=h.node x g ag aN;exact⟨by show az σ.held f v g=1;rw[eE _ _ this];exact h1,ab,by rw[aC g this];exact al⟩
  data:=λg aN n4=>by
   show((az σ.held f v g:Nat) :Int)=refs σ g+fc g;by_cases e:g=f
   ·subst e;rw[e4];exact ai
   ·rw[eE _ _ e,aC g e];exact h.data g aN n4
  free:=by
   show fr=cq (λg=>az σ.held f v g==0) c.n
   have h1:=tW (f:=λg=>σ.held g==0) (g:=λg=>az σ.held f v g==0) (p:=f) aJ (λi _ af=>by simp[eE _ _ af]);have ab:=h.free;simp only[e4]at h1;have aG:(σ.held f==0)=decide (σ.held f=0):=rfl;have aT:(v==0)=decide (v=0):=rfl;rw[aG,aT]at h1
   omega}
end
structure y7(n:Nat)(mem held:Nat->Nat)(free:Nat)(T:dt)(p:Nat)(s:bj)(cA cK:Nat->Nat)(cH:Nat)(aS:dt) :Prop where
 ok:hB (gC cA) n aS
 tight:sx aS
 ent:aS.ent=az T.ent p s
 other:∀f,¬IsNode T f->¬IsNode aS f->cA f=mem f/\cK f=held f
 new:∀f,IsNode aS f->¬IsNode T f->held f=0
 node:∀f,IsNode aS f->cK f=1
 gone:∀f,IsNode T f->¬IsNode aS f->cK f=0
 count:cH+aS.ee=free+T.ee
 nW:free=cq (λf=>held f==0) n->cH=cq (λf=>cK f==0) n
theorem Dk{a b:List bH}{x:bH}{aS:dt}{p:Nat}{s:bj}(aI:p<4096)(he:aS.ent=az x.T.ent p s)(P:bj->Bool) :
  da (a++{x with T:=aS}::b) P+(P (x.T.ent p)).toNat=da (a++x::b) P+(P s).toNat:=by
 have h1:=acG x.T P aI s aS.bd;rw[ys,ys];have:aS.h4 P=(dt.mk aS.bd (az x.T.ent p s)).h4 P:=by unfold dt.h4;rw[he]
 show aS.h4 P+_+_=_;omega
section
variable{c:df}{σ:b8}{d e:Nat->Int}
theorem Inv.ent(h:Inv c σ d e){a b:List bH}{x:bH}(aA:σ.au=a++x::b){p:Nat}{s:bj}{cA cK:Nat->Nat}{cH:Nat}{aS:dt}
  (R:y7 c.n σ.mem σ.held σ.free x.T p s cA cK cH aS) (aI:p<4096) (fc de:Nat->Int)
  (aC:∀f,fc f=d f+(b2 f (x.T.ent p)).toNat-(b2 f s).toNat) (he:∀i,de i=e i+(dg i (x.T.ent p)).toNat-(dg i s).toNat)
  (fK:∀f,IsNode aS f->¬IsNode x.T f->refs σ f=0/\d f=0)
  (cp:s≠.zero->cv x.L p≠none\/c.loose x.s p)
  (ed:s.here=true->s.n.toNat<c.n/\(∀y,y∈σ.au->¬IsNode y.T s.n.toNat)/\¬IsNode aS s.n.toNat)
  (gh:s.out=true->s.n.toNat<c.c1)
  (lh:s.here=true->s.write=true->refs σ s.n.toNat=(b2 s.n.toNat (x.T.ent p)).toNat)
  (lj:s.here=true->b2 s.n.toNat (x.T.ent p)=false->∀y q,y∈σ.au->(y.T.ent q).here=true->(y.T.ent q).write=true->(y.T.ent q).n.toNat≠s.n.toNat)
  (oH:h7 s=true->∀r,cv x.L p=some r->r.kind=1/\c.iU r.file (r.bM+p-r.lo)=some (σ.mem s.n.toNat)) :
  Inv c {σ with mem:=cA,held:=cK,free:=cH,au:=a++{x with T:=aS}::b} fc de:=by
 have ag:x∈σ.au:=by rw[aA];simp
 have ei:∀y,y∈a++b->y∈σ.au:=λy aq=>by rw[aA];exact fe.2 (.inr aq)
 have wg:=(jA (λ_ _=>nN.symm)).1 (aA▸h.ph)
 have iF:∀f,refs {σ with mem:=cA,held:=cK,free:=cH,au:=a++{x with T:=aS}::b} f+(b2 f (x.T.ent p)).toNat=refs σ f+(b2 f s).toNat:=λf=>by have:=Dk (a:=a) (b:=b) (x:=x) aI R.ent (b2 f);unfold refs;rw[aA];show da (a++{x with T:=aS}::b) (b2 f) +eW (λx:dj=>x.fr==f) σ.ring+_=_;omega
 have ahc:∀f,lY {σ with mem:=cA,held:=cK,free:=cH,au:=a++{x with T:=aS}::b} f+(dg f (x.T.ent p)).toNat=lY σ f+(dg f s).toNat:=λf=>by have:=Dk (a:=a) (b:=b) (x:=x) aI R.ent (dg f);unfold lY;rw[aA];exact this
 have nt:∀y f,y∈a++b->IsNode y.T f->¬IsNode x.T f/\¬IsNode aS f:=λy f aq aJ=>by
  have h1:¬IsNode x.T f:=λaD=>wg.1 y aq f aD aJ
  refine⟨h1,λaD=> ?_⟩;have ab:=R.new f aD h1;have al:=(h.node y f (ei y aq) aJ).1;omega
 have XU:∀f,IsNode x.T f->b2 f (x.T.ent p)=false:=λf aJ=>(lV (h.node x f ag aJ).2.1).1 x p ag aI
 have v_:∀f,0<refs σ f->(∀y,y∈σ.au->¬IsNode y.T f)->cA f=σ.mem f:=λf aJ aw=>by
  by_cases lq:IsNode aS f
  ·have:=(fK f lq (aw x ag)).1;omega
  ·exact(R.other f (aw x ag) lq).1
 have fZ:∀y,y∈a++{x with T:=aS}::b->(y={x with T:=aS})\/y∈a++b:=λy aq=>fe.1 aq
 have il:s≠.zero->s.may=true:=λaP=>by have:=R.ok.may p (by rw[R.ent,e4];exact aP);rwa[R.ent,e4]at this
 have aib:s.here=true->b2 s.n.toNat s=true:=λaD=>by have:=il (gZ aD);simp[bj.may]at this;simp[b2,aD];omega
 have LZ:∀{s:bj} {f:Nat},b2 f s=true->s.here=true/\s.n.toNat=f:=λaD=>by simp[b2]at aD;exact⟨aD.1,by omega⟩
 have BQ:∀q,aS.ent q=if q=p then s else x.T.ent q:=λq=>by rw[R.ent];rfl
 refine⟨?_,?_,?_,?_,?_,R.nW h.free,?_,?_,?_,?_,h.used,?_,?_,?_,h.keys,?_⟩
 ·intro y aq;rcases fZ y aq with rfl|aq
  ·exact R.ok
  ·exact(h.jl y (ei y aq)).congr λf i aJ af=>by have:=nt y f aq aJ;unfold gC;show rm (cA f) i=_;rw[(R.other f this.1 this.2).1]
 ·intro y aq;rcases fZ y aq with rfl|aq
  ·exact R.tight
  ·exact h.tight y (ei y aq)
 ·exact(jA (λ_ _=>nN.symm)).2 ⟨λy aq f aJ pw=>(nt y f aq pw).2 aJ,wg.2⟩
 ·intro y f aq aJ
  have h0:∀g,IsNode aS g->refs σ g=0/\d g=0/\b2 g (x.T.ent p)=false:=λg aN=>by
   by_cases K4:IsNode x.T g
   ·have:=h.node x g ag K4;exact⟨this.2.1,this.2.2,XU g K4⟩
   ·have h1:=fK g aN K4;exact⟨h1.1,h1.2,(lV h1.1).1 x p ag aI⟩
  have Gc:∀g,(IsNode aS g\/∃z,z∈σ.au/\IsNode z.T g)->b2 g s=false:=λg aN=>by
   cases aj:b2 g s with
   |false=>rfl
   |true=>
    obtain⟨fS,ft⟩:=LZ aj;obtain⟨_,b_,b3⟩:=ed fS;rw[ft]at b_ b3;rcases aN with aN|⟨z,aP,aN⟩
    ·exact absurd aN b3
    ·exact absurd aN (b_ z aP)
  rcases fZ y aq with rfl|aq
  ·obtain⟨h1,ab,al⟩:=h0 f aJ;have aE:=iF f;rw[al,Gc f (.inl aJ),h1]at aE;refine⟨R.node f aJ,by simpa using aE,?_⟩;rw[aC,ab,al,Gc f (.inl aJ)];rfl
  ·obtain⟨h1,ab⟩:=nt y f aq aJ;obtain⟨bk,b_,b3⟩:=h.node y f (ei y aq) aJ;have al:b2 f (x.T.ent p)=false:=(lV b_).1 x p ag aI;have aE:=iF f;rw[al,Gc f (.inr ⟨y,ei y aq,aJ⟩),b_]at aE;refine⟨by show cK f=1;rw[(R.other f h1 ab).2];exact bk,by simpa using aE,?_⟩;rw[aC,b3,al,Gc f (.inr ⟨y,ei y aq,aJ⟩)];rfl
 ·intro f aJ aw;have lq:¬IsNode aS f:=aw {x with T:=aS} (fe.2 (.inl rfl));have hO:∀y,y∈a++b->¬IsNode y.T f:=λy aq=>aw y (fe.2 (.inr aq))
  have aE:=iF f;have aL:=aC f;show((cK f:Nat) :Int)=_;by_cases hl:IsNode x.T f
  ·obtain⟨bk,b_,b3⟩:=h.node x f ag hl;have al:=XU f hl
   have bm:b2 f s=false:=by
    cases aj:b2 f s with
    |false=>rfl
    |true=>
     obtain⟨fS,ft⟩:=LZ aj;obtain⟨_,gr,_⟩:=ed fS;exact absurd hl (ft▸gr x ag)
   rw[R.gone f hl lq];rw[al,bm]at aE aL;simp only[Bool.toNat_false]at aE aL;omega
  ·have h1:=h.data f aJ (λy aq=>by
    rw[aA]at aq;rcases fe.1 aq with rfl|aq
    ·exact hl
    ·exact hO y aq)
   rw[(R.other f hl lq).2];omega
 ·intro y q aq aF;rcases fZ y aq with rfl|aq
  ·change (aS.ent q).here=true at aF;show(aS.ent q).n.toNat<_;rw[BQ]at aF|-;by_cases jJ:q=p
   ·rw[if_pos jJ]at aF|-;exact(ed aF).1
   ·rw[if_neg jJ]at aF|-;exact h.here x q ag aF
  ·exact h.here y q (ei y aq) aF
 ·intro y q aq aF;rcases fZ y aq with rfl|aq
  ·change (aS.ent q).out=true at aF;show(aS.ent q).n.toNat<_;rw[BQ]at aF|-;by_cases jJ:q=p
   ·rw[if_pos jJ]at aF|-;exact gh aF
   ·rw[if_neg jJ]at aF|-;exact h.out x q ag aF
  ·exact h.out y q (ei y aq) aF
 ·intro y q aq aF;rcases fZ y aq with rfl|aq
  ·change aS.ent q≠.zero at aF;rw[BQ]at aF;by_cases jJ:q=p
   ·rw[if_pos jJ]at aF;subst jJ;exact cp aF
   ·rw[if_neg jJ]at aF;exact h.mL x q ag aF
  ·exact h.mL y q (ei y aq) aF
 ·intro i af;have h1:=h.slot i af;have ab:=ahc i;have al:=he i;show(σ.bY i:Int)=_;omega
 ·
  have key:∀y q,y∈σ.au->(y∈a++b\/(y=x/\q≠p))->(y.T.ent q).here=true->(y.T.ent q).write=true->refs {σ with mem:=cA,held:=cK,free:=cH,au:=a++{x with T:=aS}::b} (y.T.ent q).n.toNat=1:=λy q aq CR aD hw=>by
   have bk:=h.write y q aq aD hw
   have b_:b2 (y.T.ent q).n.toNat (x.T.ent p)=false:=by
    cases aj:b2 (y.T.ent q).n.toNat (x.T.ent p)with
    |false=>rfl
    |true=>
     have:=HL bk aA aI aj;have Uq:=h.lt aq (gZ aD);rcases CR with CR|⟨rfl,CR⟩
     ·have:=this.2.1 y q CR Uq;rw[iL h aq aD]at this;cases this
     ·have:=this.1 q Uq CR;rw[iL h aq aD]at this;cases this
   have b3:b2 (y.T.ent q).n.toNat s=false:=by
    cases aj:b2 (y.T.ent q).n.toNat s with
    |false=>rfl
    |true=>
     obtain⟨fS,ft⟩:=LZ aj;exact absurd ft.symm (lj fS (by rw[ft];exact b_) y q aq aD hw)
   have:=iF (y.T.ent q).n.toNat;rw[b_,b3,bk]at this;simpa using this
  intro y q aq aD hw;rcases fZ y aq with rfl|aq
  ·change (aS.ent q).here=true at aD;change (aS.ent q).write=true at hw;show refs _ (aS.ent q).n.toNat=1;rw[BQ]at aD hw|-;by_cases jJ:q=p
   ·rw[if_pos jJ]at aD hw|-;have h1:=lh aD hw;have ab:=iF s.n.toNat;rw[aib aD]at ab;simp only[Bool.toNat_true]at ab;omega
   ·rw[if_neg jJ]at aD hw|-;exact key x q ag (.inr ⟨rfl,jJ⟩) aD hw
  ·exact key y q (ei y aq) (.inl aq) aD hw
 ·intro y q r aq aH an;rcases fZ y aq with rfl|aq
  ·change h7 (aS.ent q)=true at aH;change cv x.L q=some r at an;show r.kind=1/\c.iU r.file (r.bM+q-r.lo)=some (cA (aS.ent q).n.toNat);rw[BQ]at aH|-;by_cases jJ:q=p
   ·subst jJ;rw[if_pos rfl]at aH|-;have h1:=oH aH r an;have aD:s.here=true:=by simp[h7]at aH;exact aH.1.1
    obtain⟨_,b_,b3⟩:=ed aD;rw[(R.other _ (b_ x ag) b3).1];exact h1
   ·rw[if_neg jJ]at aH|-;have h1:=h.clean x q r ag aH an;have aD:(x.T.ent q).here=true:=by simp[h7]at aH;exact aH.1.1
    rw[v_ _ (h.Cc ag aD) (λz aP=>h.pv ag aD aP)];exact h1
  ·have h1:=h.clean y q r (ei y aq) aH an;have aD:(y.T.ent q).here=true:=by simp[h7]at aH;exact aH.1.1
   show r.kind=1/\c.iU r.file (r.bM+q-r.lo)=some (cA (y.T.ent q).n.toNat);rw[v_ _ (h.Cc (ei y aq) aD) (λz aP=>h.pv (ei y aq) aD aP)];exact h1
 ·intro y aq;have h1:=h.ring y aq;refine⟨h1.1,?_⟩;show _=some (cA y.fr);rw[v_ _ (h.Xj aq) (λz aP=>h.yu aq aP)];exact h1.2
 ·intro y aq;rcases fZ y aq with rfl|aq
  ·exact h.hJ x ag
  ·exact h.hJ y (ei y aq)
theorem Inv.Fh(h:Inv c σ d e){a b:List bH}{x:bH}(aA:σ.au=a++x::b){p:Nat}{s:bj}{cA cK:Nat->Nat}{cH:Nat}{aS:dt}
  (R:y7 c.n σ.mem σ.held σ.free x.T p s cA cK cH aS) (fK:∀f,IsNode aS f->¬IsNode x.T f->refs σ f=0/\d f=0) :
  (∀y q,y∈a++b->cont c {σ with mem:=cA,held:=cK,free:=cH,au:=a++{x with T:=aS}::b} y q=cont c σ y q)/\
  (∀q,q≠p->cont c {σ with mem:=cA,held:=cK,free:=cH,au:=a++{x with T:=aS}::b} {x with T:=aS} q=cont c σ x q):=by
 have ag:x∈σ.au:=by rw[aA];simp
 have ei:∀y,y∈a++b->y∈σ.au:=λy aq=>by rw[aA];exact fe.2 (.inr aq)
 have v_:∀f,0<refs σ f->(∀y,y∈σ.au->¬IsNode y.T f)->cA f=σ.mem f:=λf aJ aw=>by
  by_cases lq:IsNode aS f
  ·have:=(fK f lq (aw x ag)).1;omega
  ·exact(R.other f (aw x ag) lq).1
 have av:∀y q,y∈σ.au->(y.T.ent q).here=true->cA (y.T.ent q).n.toNat=σ.mem (y.T.ent q).n.toNat:=λy q aq aD=>
  v_ _ (h.Cc aq aD) (λz aP=>h.pv aq aD aP)
 refine⟨λy q aq=> ?_,λq aF=> ?_⟩
 ·unfold cont;cases cv y.L q with
  |none=>rfl
  |some r=>
   dsimp only;by_cases aD:(y.T.ent q).here=true
   ·rw[if_pos aD,if_pos aD,av y q (ei y aq) aD]
   ·rw[if_neg aD,if_neg aD]
 ·unfold cont;dsimp only;have aG:aS.ent q=x.T.ent q:=by rw[R.ent,eE _ _ aF]
  rw[aG];cases cv x.L q with
  |none=>rfl
  |some r=>
   dsimp only;by_cases aD:(x.T.ent q).here=true
   ·rw[if_pos aD,if_pos aD,av x q ag aD]
   ·rw[if_neg aD,if_neg aD]
end
section
variable{c:df}{σ:b8}{d e:Nat->Int}
theorem JF{s:bj}(h:h7 s=true) :s.here=true:=by simp[h7]at h;exact h.1.1
theorem Inv.store(h:Inv c σ d e){a b:List bH}{x:bH}(aA:σ.au=a++x::b){p:Nat}(m:Nat)(aD:(x.T.ent p).here=true)(aH:h7 (x.T.ent p)=false)(h1:refs σ (x.T.ent p).n.toNat=1) :
  Inv c {σ with mem:=az σ.mem (x.T.ent p).n.toNat m} d e/\
  (∀y q,y∈a++b->cont c {σ with mem:=az σ.mem (x.T.ent p).n.toNat m} y q=cont c σ y q)/\
  (∀q,q≠p->cont c {σ with mem:=az σ.mem (x.T.ent p).n.toNat m} x q=cont c σ x q)/\
  (cv x.L p≠none->cont c {σ with mem:=az σ.mem (x.T.ent p).n.toNat m} x p=some m):=by
 have ag:x∈σ.au:=by rw[aA];simp
 have aI:=h.lt ag (gZ aD);have ei:∀y,y∈a++b->y∈σ.au:=λy aq=>by rw[aA];exact fe.2 (.inr aq)
 obtain⟨s1,s2,dE⟩:=HL h1 aA aI (iL h ag aD)
 have Au:∀y q,y∈a++b->(y.T.ent q).here=true->(y.T.ent q).n.toNat≠(x.T.ent p).n.toNat:=λy q aq aF e=>by have:=s2 y q aq (h.lt (ei y aq) (gZ aF));rw[<-e,iL h (ei y aq) aF]at this;cases this
 have same:∀q,q≠p->(x.T.ent q).here=true->(x.T.ent q).n.toNat≠(x.T.ent p).n.toNat:=λq jJ aF e=>by have:=s1 q (h.lt ag (gZ aF)) jJ;rw[<-e,iL h ag aF]at this;cases this
 refine⟨{h with
  jl:=λy aq=>(h.jl y aq).congr λg i aN af=>by
   have:g≠(x.T.ent p).n.toNat:=λe=>h.pv ag aD aq (e▸aN)
   simp[gC,az,this]
  clean:=λy q r aq gj an=>by
   have k:=h.clean y q r aq gj an;refine⟨k.1,?_⟩
   have:(y.T.ent q).n.toNat≠(x.T.ent p).n.toNat:=by
    rw[aA]at aq;rcases fe.1 aq with rfl|aq
    ·by_cases jJ:q=p
     ·subst jJ;rw[aH]at gj;cases gj
     ·exact same q jJ (JF gj)
    ·exact Au y q aq (JF gj)
   show _=some (az σ.mem _ m _);rw[eE _ _ this];exact k.2
  ring:=λy aq=>⟨(h.ring y aq).1,by show _=some (az σ.mem _ m _);rw[eE _ _ (dE y aq)];exact(h.ring y aq).2⟩},?_,?_,?_⟩
 ·intro y q aq;unfold cont;cases cv y.L q with
  |none=>rfl
  |some r=>
   dsimp only;by_cases aF:(y.T.ent q).here=true
   ·rw[if_pos aF,if_pos aF,eE _ _ (Au y q aq aF)]
   ·rw[if_neg aF,if_neg aF]
 ·intro q jJ;unfold cont;cases cv x.L q with
  |none=>rfl
  |some r=>
   dsimp only;by_cases aF:(x.T.ent q).here=true
   ·rw[if_pos aF,if_pos aF,eE _ _ (same q jJ aF)]
   ·rw[if_neg aF,if_neg aF]
 ·unfold cont;intro this;cases an:cv x.L p with
  |none=>exact absurd an this
  |some r=>dsimp only;rw[if_pos aD,e4]
theorem Inv.bY(h:Inv c σ d e){i:Nat}(af:i<c.c1)(v u:Nat)(de:Nat->Int)(ai:(v:Int)=lY σ i+de i)(he:∀j,j≠i->de j=e j)(hu:u+(decide (σ.bY i≠0)).toNat=σ.used+(decide (v≠0)).toNat) :
  Inv c {σ with bY:=az σ.bY i v,used:=u} d de:=
 {h with
  slot:=λj aO=>by
   show((az σ.bY i v j:Nat) :Int)=lY σ j+de j;by_cases k:j=i
   ·subst k;rw[e4];exact ai
   ·rw[eE _ _ k,he j k];exact h.slot j aO
  used:=by
   show u=cq (λj=>az σ.bY i v j !=0) c.c1
   have h1:=tW (f:=λj=>σ.bY j !=0) (g:=λj=>az σ.bY i v j !=0) (p:=i) af (λk _ av=>by simp[eE _ _ av]);have ab:=h.used;simp only[e4]at h1;have aG:(σ.bY i !=0)=decide (σ.bY i≠0):=by by_cases k:σ.bY i=0<;>simp[k]
   have aT:(v !=0)=decide (v≠0):=by by_cases k:v=0<;>simp[k]
   rw[aG,aT]at h1
   omega}
theorem Inv.sec(h:Inv c σ d e){i:Nat}(m:Nat)(h0:lY σ i=0) :
  Inv c {σ with sec:=az σ.sec (c.first+i) m} d e/\∀y q,y∈σ.au->cont c {σ with sec:=az σ.sec (c.first+i) m} y q=cont c σ y q:=by
 refine⟨{h with},λy q aq=> ?_⟩;unfold cont;cases cv y.L q with
 |none=>rfl
 |some r=>
  dsimp only;by_cases bg:(y.T.ent q).out=true
  ·have:c.first+(y.T.ent q).n.toNat≠c.first+i:=λk=>by
    have k:(y.T.ent q).n.toNat=i:=by omega
    have:=AA (P:=dg i) aq (h.lt aq (wE bg)) (k▸UX h aq bg);unfold lY at h0;omega
   rw[eE _ _ this]
  ·simp[bg]
theorem Inv.acq(h:Inv c σ d e){y:dj}(aJ:y.fr<c.n)(hm:c.iU y.file y.bM=some (σ.mem y.fr))(h0:refs σ y.fr=0)(aw:∀x,x∈σ.au->¬IsNode x.T y.fr)(av:∀z,z∈σ.ring->¬(z.file=y.file/\z.bM=y.bM))
  (fc:Nat->Int) (aC:∀f,fc f=d f-(decide (f=y.fr)).toNat) :Inv c {σ with ring:=σ.ring++[y]} fc e:=by
 have iF:∀f,refs {σ with ring:=σ.ring++[y]} f=refs σ f+(decide (f=y.fr)).toNat:=λf=>by
  unfold refs;show da σ.au (b2 f) +eW _ (σ.ring++[y])=_;rw[sB,rl,xi];have:(y.fr==f)=decide (f=y.fr):=by by_cases k:f=y.fr<;>simp[k];exact λet=>k et.symm
  rw[this];omega
 exact{h with
  node:=λx f ag aJ=>by
   obtain⟨h1,ab,al⟩:=h.node x f ag aJ;have:f≠y.fr:=λk=>aw x ag (k▸aJ)
   refine⟨h1,by rw[iF,ab];simp[this],by rw[aC,al];simp[this]⟩
  data:=λf aJ iD=>by have:=h.data f aJ iD;rw[iF,aC];show(σ.held f:Int)=_;omega
  write:=λx p ag aD hw=>by
   rw[iF,h.write x p ag aD hw]
   have:(x.T.ent p).n.toNat≠y.fr:=λk=>by have:=(lV h0).1 x p ag (h.lt ag (gZ aD));rw[<-k,iL h ag aD]at this;cases this
   simp[this]
  ring:=λz aP=>by
   rcases List.mem_append.1 aP with aP|aP
   ·exact h.ring z aP
   ·rw[List.mem_singleton]at aP;subst aP;exact⟨aJ,hm⟩
  keys:=by
   rw[List.pairwise_append];refine⟨h.keys,by simp,λa bc b aj=> ?_⟩;rw[List.mem_singleton]at aj;subst aj
   exact av a bc}
theorem Inv.aqN(h:Inv c σ d e){a b:List dj}{y:dj}(an:σ.ring=a++y::b)(hand:Nat)(fc:Nat->Int)(aC:∀f,fc f=d f+(decide (f=y.fr)).toNat) :Inv c {σ with ring:=a++b,hand:=hand} fc e:=by
 have iF:∀f,refs {σ with ring:=a++b,hand:=hand} f+(decide (f=y.fr)).toNat=refs σ f:=λf=>by
  unfold refs;show da σ.au (b2 f) +eW (λx:dj=>x.fr==f) (a++b) +_=_;rw[an,sB,sB,rl];have:(y.fr==f)=decide (f=y.fr):=by by_cases k:f=y.fr<;>simp[k];exact λet=>k et.symm
  rw[this];omega
 have aq:y∈σ.ring:=by rw[an];simp
 exact{h with
  node:=λx f ag aJ=>by
   obtain⟨h1,ab,al⟩:=h.node x f ag aJ;have:f≠y.fr:=λk=>h.yu aq ag (k▸aJ)
   have aE:=iF f;rw[ab]at aE;refine⟨h1,by omega,by rw[aC,al];simp[this]⟩
  data:=λf aJ iD=>by have:=h.data f aJ iD;have aE:=iF f;rw[aC];show(σ.held f:Int)=_;omega
  write:=λx p ag aD hw=>by
   have h1:=h.write x p ag aD hw;have aE:=iF (x.T.ent p).n.toNat
   have:(x.T.ent p).n.toNat≠y.fr:=λk=>by obtain⟨u,v,hu⟩:=List.append_of_mem ag;exact(HL h1 hu (h.lt ag (gZ aD)) (iL h ag aD)).2.2 y aq k.symm
   simp only[this,decide_false,Bool.toNat_false]at aE;omega
  ring:=λz aP=>h.ring z (by rw[an];exact fe.2 (.inr aP))
  keys:=by
   have:=h.keys;rw[an]at this
   exact this.sublist (by simp)}
theorem Inv.marks(h:Inv c σ d e){gu:List dj}(an:gu.map (λy=>(y.file,y.bM,y.fr))=σ.ring.map (λy=>(y.file,y.bM,y.fr)))(hand:Nat) :Inv c {σ with ring:=gu,hand:=hand} d e:=by
 have iF:∀f,refs {σ with ring:=gu,hand:=hand} f=refs σ f:=λf=>by
  unfold refs;have:∀l:List dj,eW (λx:dj=>x.fr==f) l=eW (λt:Int×Int×Nat=>t.2.2==f) (l.map λy=>(y.file,y.bM,y.fr)):=λl=>by simp[eW,Function.comp_def]
  show da σ.au (b2 f) +eW _ gu=_;rw[this,this,an]
 exact{h with
  node:=λx f ag aJ=>by rw[iF];exact h.node x f ag aJ
  data:=λf aJ iD=>by rw[iF];exact h.data f aJ iD
  write:=λx p ag aD hw=>by rw[iF];exact h.write x p ag aD hw
  ring:=λz aP=>by
   have:(z.file,z.bM,z.fr)∈σ.ring.map (λy=>(y.file,y.bM,y.fr)):=by rw[<-an];exact List.mem_map.2 ⟨z,aP,rfl⟩
   obtain⟨w,hw,e⟩:=List.mem_map.1 this;simp only[Prod.mk.injEq]at e;obtain⟨aG,aT,bJ⟩:=e;rw[<-aG,<-aT,<-bJ];exact h.ring w hw
  keys:=by
   have k:∀l:List dj,l.Pairwise (λa b=>¬(a.file=b.file/\a.bM=b.bM))↔(l.map λy=>(y.file,y.bM,y.fr)).Pairwise (λa b=>¬(a.1=b.1/\a.2.1=b.2.1)):=λl=>by rw[List.pairwise_map]
   rw[k,an,<-k]
   exact h.keys}
theorem Inv.row(h:Inv c σ d e){a b:List bH}{x:bH}(aA:σ.au=a++x::b){hM:List aU}(dB:nd hM)
  (av:∀p:Nat,x.T.ent p≠.zero->(∃r cR,cv x.L p=some r/\cv hM p=some cR/\cR.kind=r.kind/\cR.file=r.file/\(r.kind=1->cR.bM+p-cR.lo=r.bM+p-r.lo))\/c.loose x.s p/\cv hM p=none) :
  Inv c {σ with au:=a++{x with L:=hM}::b} d e:=by
 have ag:x∈σ.au:=by rw[aA];simp
 have ei:∀y,y∈a++b->y∈σ.au:=λy aq=>by rw[aA];exact fe.2 (.inr aq)
 have ay:∀P,da (a++{x with L:=hM}::b) P=da σ.au P:=λP=>by rw[aA,ys,ys]
 have iF:∀f,refs {σ with au:=a++{x with L:=hM}::b} f=refs σ f:=λf=>by unfold refs;rw[ay]
 have all:∀{Q:bH->Prop},(Q {x with L:=hM})->(∀y,y∈a++b->Q y)->∀y,y∈a++{x with L:=hM}::b->Q y:=λh1 ab y aq=>by
  rcases fe.1 aq with rfl|aq
  ·exact h1
  ·exact ab y aq
 have fg:∀{Q:dt->Prop},(∀y,y∈σ.au->Q y.T)->∀y,y∈a++{x with L:=hM}::b->Q y.T:=λaF=>all (aF x ag) λy aq=>aF y (ei y aq)
 have wg:=(jA (λ_ _=>nN.symm)).1 (aA▸h.ph)
 exact{h with
  jl:=fg h.jl
  tight:=fg h.tight
  ph:=(jA (λ_ _=>nN.symm)).2 ⟨wg.1,wg.2⟩
  node:=λy f aq aJ=>by rw[iF];exact fg (Q:=λT=>IsNode T f->_) (λz aP aw=>h.node z f aP aw) y aq aJ
  data:=λf aJ aw=>by
   rw[iF];refine h.data f aJ λy aq=> ?_
   rw[aA]at aq;rcases fe.1 aq with rfl|aq
   ·exact aw {y with L:=hM} (fe.2 (.inl rfl))
   ·exact aw y (fe.2 (.inr aq))
  here:=λy p aq=>fg (Q:=λT=>(T.ent p).here=true->(T.ent p).n.toNat<c.n) (λz aP=>h.here z p aP) y aq
  out:=λy p aq=>fg (Q:=λT=>(T.ent p).out=true->(T.ent p).n.toNat<c.c1) (λz aP=>h.out z p aP) y aq
  mL:=λy p aq=>all (Q:=λy=>y.T.ent p≠.zero->cv y.L p≠none\/c.loose y.s p) (λaP=>by
   rcases av p aP with⟨r,cR,_,k,_⟩ |k
   ·left;show cv hM p≠none;rw[k];simp
   ·exact .inr k.1) (λz aP=>h.mL z p (ei z aP)) y aq
  slot:=λi af=>by unfold lY;rw[ay];exact h.slot i af
  write:=λy p aq=>fg (Q:=λT=>(T.ent p).here=true->(T.ent p).write=true->refs _ (T.ent p).n.toNat=1) (λz aP h1 ab=>by rw[iF];exact h.write z p aP h1 ab) y aq
  clean:=λy p r aq=>all (Q:=λy=>h7 (y.T.ent p)=true->cv y.L p=some r->_) (λaH an=>by
   rcases av p (gZ (JF aH))with⟨q,dc,bk,b_,b3,c7,dQ⟩ |k
   ·have:=h.clean x p q ag aH bk;rw[show cv hM p=some r from an]at b_;obtain rfl:=Option.some.inj b_;rw[b3,c7,dQ this.1];exact this
   ·have ki:cv hM p=some r:=an
    rw[k.2]at ki;cases ki) (λz aP=>h.clean z p r (ei z aP)) y aq
  hJ:=all dB λz aP=>h.hJ z (ei z aP)}
def ez(f:Nat) :dt:=⟨λl q=>if l=0/\q=0 then some f else none,λ_=>.zero⟩
theorem MJ{f g:Nat} :IsNode (ez f) g↔g=f:=by
 unfold IsNode ez;constructor
 ·rintro⟨l,q,h⟩;dsimp only at h;split at h<;>simp_all
 ·rintro rfl;exact⟨0,0,by simp⟩
theorem alI(f:Nat) :(ez f).ee=1:=by
 have h1:∀l,l≠0->cq (λq=>((ez f).bd l q).isSome) (8^l)=0:=λl ay=>kS.2 λi _=>by simp[ez,ay]
 unfold dt.ee;simp only[dx,h1 1 (by omega),h1 2 (by omega),h1 3 (by omega)];simp[cq,ez]
theorem Sv{T:dt}{P:bj->Bool}(h:∀p,T.ent p=.zero)(qu:P .zero=false) :T.h4 P=0:=by unfold dt.h4;exact kS.2 λi _=>by rw[h i];exact qu
theorem SF(i:Nat) :rm 0 i=.zero:=by unfold rm;simp[l2,bj.may,bj.zero]
theorem alJ{mem:Nat->Nat}{n f:Nat}(aJ:f<n)(hm:mem f=0) :hB (gC mem) n (ez f):=by
 have k:∀l q g,(ez f).bd l q=some g->l=0/\q=0/\g=f:=λl q g h=>by simp only[ez]at h;split at h<;>simp_all
 refine⟨by simp[ez],?_,?_,?_,?_,?_,?_,?_⟩
 ·intro l q g h;obtain⟨rfl,rfl,rfl⟩:=k _ _ _ h;exact⟨by omega,by simp,aJ⟩
 ·intro l q g i ay h af;obtain⟨rfl,rfl,rfl⟩:=k _ _ _ h;simp[gC,hm,SF,ez]
 ·intro q g i h af;obtain⟨al,_⟩:=k _ _ _ h;omega
 ·intro l q h;simp[ez]at h
 ·intro p h;simp[ez]at h
 ·intro p h;simp[ez]at h
 ·intro l q bQ dc g h bC;obtain⟨rfl,rfl,_⟩:=k _ _ _ h;obtain⟨rfl,rfl,_⟩:=k _ _ _ bC;simp
theorem alK(f:Nat) :sx (ez f):=⟨λq h=>by simp[ez]at h,λl q _ h=>by simp[ez]at h⟩
theorem Inv.space(h:Inv c σ d e){f s t:Nat}(aJ:f<c.n)(hm:σ.mem f=0)(h0:refs σ f=0)(aw:∀x,x∈σ.au->¬IsNode x.T f)(aD:σ.held f=1)(fc:Nat->Int)(aC:∀g,fc g=d g-(decide (g=f)).toNat)(afy:d f=1) :
  Inv c {σ with au:=σ.au++[⟨s,t,ez f,[]⟩]} fc e:=by
 have ay:∀P,P .zero=false->da (σ.au++[⟨s,t,ez f,[]⟩]) P=da σ.au P:=λP qu=>by rw[Hs,nG,uZ,Sv (λ_=>rfl) qu];omega
 have iF:∀g,refs {σ with au:=σ.au++[⟨s,t,ez f,[]⟩]} g=refs σ g:=λg=>by unfold refs;rw[ay _ rfl]
 have all:∀{Q:bH->Prop},Q ⟨s,t,ez f,[]⟩->(∀y,y∈σ.au->Q y)->∀y,y∈σ.au++[⟨s,t,ez f,[]⟩]->Q y:=λh1 ab y aq=>by
  rcases List.mem_append.1 aq with aq|aq
  ·exact ab y aq
  ·rw[List.mem_singleton]at aq;subst aq;exact h1
 have aP:∀p,(ez f).ent p=.zero:=λ_=>rfl
 exact{h with
  jl:=all (alJ aJ hm) h.jl
  tight:=all (alK f) h.tight
  ph:=by rw[List.pairwise_append];refine⟨h.ph,by simp,λx ag y aq=> ?_⟩;rw[List.mem_singleton]at aq;subst aq;intro g aN Cg;have:g=f:=MJ.1 Cg;exact aw x ag (this▸aN)
  node:=λy g aq=>by
   rw[iF];refine all (Q:=λy=>IsNode y.T g->σ.held g=1/\refs σ g=0/\fc g=0) (λaN=> ?_) (λz aP aN=> ?_) y aq
   ·obtain rfl:=MJ.1 aN;exact⟨aD,h0,by rw[aC,afy];simp⟩
   ·obtain⟨bk,b_,b3⟩:=h.node z g aP aN;have:g≠f:=λk=>aw z aP (k▸aN)
    exact⟨bk,b_,by rw[aC,b3];simp[this]⟩
  data:=λg aN n4=>by
   rw[iF];have:g≠f:=λk=>n4 ⟨s,t,ez f,[]⟩ (by simp) (MJ.2 k)
   have:=h.data g aN (λx ag=>n4 x (List.mem_append.2 (.inl ag)));rw[aC];simp only[show decide (g=f)=false by simpa,Bool.toNat_false];show(σ.held g:Int)=_;omega
  here:=λy p aq=>all (Q:=λy=>(y.T.ent p).here=true->(y.T.ent p).n.toNat<c.n) (λaF=>by rw[aP]at aF;cases aF) (λz aP=>h.here z p aP) y aq
  out:=λy p aq=>all (Q:=λy=>(y.T.ent p).out=true->(y.T.ent p).n.toNat<c.c1) (λaF=>by rw[aP]at aF;cases aF) (λz aP=>h.out z p aP) y aq
  mL:=λy p aq=>all (Q:=λy=>y.T.ent p≠.zero->cv y.L p≠none\/c.loose y.s p) (λaF=>absurd (aP p) aF) (λz aP=>h.mL z p aP) y aq
  slot:=λi af=>by unfold lY;rw[ay _ rfl];exact h.slot i af
  write:=λy p aq=>all (Q:=λy=>(y.T.ent p).here=true->(y.T.ent p).write=true->refs _ (y.T.ent p).n.toNat=1) (λaF=>by rw[aP]at aF;cases aF) (λz aP h1 ab=>by rw[iF];exact h.write z p aP h1 ab) y aq
  clean:=λy p r aq=>all (Q:=λy=>h7 (y.T.ent p)=true->cv y.L p=some r->_) (λaF=>by rw[aP]at aF;cases aF) (λz aP=>h.clean z p r aP) y aq
  hJ:=all ⟨by simp[eZ],by simp⟩ h.hJ}
theorem Inv.aqS(h:Inv c σ d e){a b:List bH}{x:bH}(aA:σ.au=a++x::b)(aP:∀p,x.T.ent p=.zero) :
  ∃f,x.T.bd 0 0=some f/\f<c.n/\(∀g,IsNode x.T g↔g=f)/\x.T.ee=1/\σ.held f=1/\
  Inv c {σ with au:=a++b} (λg=>d g+(decide (g=f)).toNat) e:=by
 have ag:x∈σ.au:=by rw[aA];simp
 have ei:∀y,y∈a++b->y∈σ.au:=λy aq=>by rw[aA];exact fe.2 (.inr aq)
 have ay:∀P,P .zero=false->da (a++b) P=da σ.au P:=λP qu=>by rw[aA,ys,Sv aP qu];omega
 have iF:∀g,refs {σ with au:=a++b} g=refs σ g:=λg=>by unfold refs;rw[ay _ rfl]
 have wg:=(jA (λ_ _=>nN.symm)).1 (aA▸h.ph);have aW:=h.jl x ag;have mV:=h.tight x ag
 obtain⟨f,aJ⟩ :∃f,x.T.bd 0 0=some f:=by cases k:x.T.bd 0 0 with
  |none=>exact absurd k aW.root
  |some f=>exact⟨f,rfl⟩
 have nn:∀l q,1<=l->l<=3->x.T.bd l q=none:=λl q h1 al=>by
  cases k:x.T.bd l q with
  |none=>rfl
  |some g=>
   obtain⟨p,_,aI⟩:=(G3 aW mV (3-l) l q (by omega) h1).1 (by rw[k];simp);exact absurd (aP p) aI
 have o3:∀g,IsNode x.T g↔g=f:=λg=>by
  constructor
  ·rintro⟨l,q,k⟩;have:=aW.lvl _ _ _ k;by_cases h0:l=0
   ·subst h0;obtain rfl:q=0:=by omega
    rw[aJ]at k;exact(Option.some.inj k).symm
   ·rw[nn l q (by omega) (by omega)]at k;cases k
  ·rintro rfl;exact⟨0,0,aJ⟩
 have e7:=h.node x f ag ((o3 f).2 rfl);refine⟨f,aJ,(aW.lvl _ _ _ aJ).2.2,o3,?_,e7.1,?_⟩
 ·have h1:∀l,l≠0->l<=3->cq (λq=>(x.T.bd l q).isSome) (8^l)=0:=λl ay al=>kS.2 λi _=>by rw[nn l i (by omega) al];rfl
  unfold dt.ee;simp only[dx,h1 1 (by omega) (by omega),h1 2 (by omega) (by omega),h1 3 (by omega) (by omega)];simp[cq,aJ]
 ·exact{h with
   jl:=λy aq=>h.jl y (ei y aq)
   tight:=λy aq=>h.tight y (ei y aq)
   ph:=wg.2
   node:=λy g aq aN=>by
    obtain⟨bk,b_,b3⟩:=h.node y g (ei y aq) aN;have:g≠f:=λk=>wg.1 y aq g ((o3 g).2 k) aN
    exact⟨bk,by rw[iF];exact b_,by simp[b3,this]⟩
   data:=λg aN n4=>by
    rw[iF];by_cases k:g=f
    ·subst k;show(σ.held g:Int)=_;rw[e7.1,e7.2.1,e7.2.2];simp
    ·have:=h.data g aN (λy aq=>by
      rw[aA]at aq;rcases fe.1 aq with rfl|aq
      ·exact λaw=>k ((o3 g).1 aw)
      ·exact n4 y aq)
     show(σ.held g:Int)=_;simp only[k,decide_false,Bool.toNat_false];omega
   here:=λy p aq=>h.here y p (ei y aq)
   out:=λy p aq=>h.out y p (ei y aq)
   mL:=λy p aq=>h.mL y p (ei y aq)
   slot:=λi af=>by unfold lY;rw[ay _ rfl];exact h.slot i af
   write:=λy p aq h1 ab=>by rw[iF];exact h.write y p (ei y aq) h1 ab
   clean:=λy p r aq=>h.clean y p r (ei y aq)
   hJ:=λy aq=>h.hJ y (ei y aq)}
end
def pre(p l:Nat) :Nat:=p/8^(4-l)
theorem o6(p:Nat){l:Nat}(ay:l<4) :pre p (l+1) /8=pre p l:=by unfold pre;rw[Nat.div_div_eq_div_mul,<-Nat.pow_succ];congr 2;omega
theorem tp(p:Nat) :pre p 3=p/8:=by simp[pre]
theorem yp{p:Nat}(aI:p<4096) :pre p 0=0:=by simp[pre];omega
theorem Hq{p l:Nat}(aI:p<4096)(ay:l<4) :pre p l<8^l:=by unfold pre;rw[Nat.div_lt_iff_lt_mul (Nat.pos_of_neZero _),<-Nat.pow_add,show l+(4-l)=4 by omega];omega
def y_(m fB i:Nat)(s:bj) :Prop:=∀j,j<8->rm fB j=if j=i then s else rm m j
structure qf(n:Nat)(mem held:Nat->Nat)(free:Nat)(T:dt)(p:Nat)(cA cK:Nat->Nat)(cH:Nat)(aS:dt) :Prop where
 ok:hB (gC cA) n aS
 ent:aS.ent=T.ent
 c0:∀l q f,T.bd l q=some f->aS.bd l q=some f
 only:∀l q,aS.bd l q≠none->T.bd l q≠none\/q=pre p l
 other:∀f,¬IsNode T f->¬IsNode aS f->cA f=mem f/\cK f=held f
 new:∀f,IsNode aS f->¬IsNode T f->held f=0
 node:∀f,IsNode aS f->cK f=1
 count:cH+aS.ee=free+T.ee
 nW:free=cq (λf=>held f==0) n->cH=cq (λf=>cK f==0) n
section
variable{n:Nat}{mem held:Nat->Nat}{free:Nat}{T:dt}{p k l:Nat}{cA cK:Nat->Nat}{cH Kk:Nat}{aS:dt}
theorem qf.refl(h:hB (gC mem) n T)(aw:∀f,IsNode T f->held f=1) :qf n mem held free T p mem held free T:=
 ⟨h,rfl,λ_ _ _ h=>h,λ_ _ h=>.inl h,λ_ _ _=>⟨rfl,rfl⟩,λf h bC=>absurd h bC,aw,rfl,id⟩
theorem qf.uG(M:qf n mem held free T p cA cK cH aS){f:Nat}(h:IsNode T f) :IsNode aS f:=let⟨l,q,aF⟩:=h;⟨l,q,M.c0 _ _ _ aF⟩
theorem qf.step(M:qf n mem held free T p cA cK cH aS)(aI:p<4096){l g f m:Nat}(ay:l<3)(aN:aS.bd l (pre p l)=some g)(aF:aS.bd (l+1) (pre p (l+1))=none)(iD:f<n)(aJ:cK f=0)(fw:0<cH)
  (hm:y_ (cA g) m (pre p (l+1) %8) (tg f)) :
  qf n mem held free T p (az (az cA f 0) g m) (az cK f 1) (cH-1) {aS with bd:=c8 aS.bd (l+1) (pre p (l+1)) (some f)}:=by
 have zL:¬IsNode aS f:=λh=>by have:=M.node f h;omega
 have zM:g≠f:=λe=>zL ⟨_,_,e▸aN⟩
 have afs:hB (λa i=>if a=f then .zero else gC cA a i) n aS:=M.ok.congr λa i bc _=>by
  have:a≠f:=λe=>zL (e▸bc)
  simp[this]
 have rO:=afs.grow (oK:=gC (az (az cA f 0) g m)) ay (by rw[o6 p (by omega)];exact aN) aF iD zL (λi _=>by simp) (λa i bc af=>by
  unfold gC c8;by_cases e:a=g
  ·subst e;rw[e4,hm i af];by_cases fh:i=pre p (l+1) %8
   ·simp[fh]
   ·simp[fh,zM,gC]
  ·rw[eE _ _ e,if_neg (by simp[e])];by_cases de:a=f
   ·subst de;rw[e4,SF];simp
   ·rw[eE _ _ de];simp[de])
 have L8:∀{bQ dc a},aS.bd bQ dc=some a->c8 aS.bd (l+1) (pre p (l+1)) (some f) bQ dc=some a:=λ{bQ dc a} h=>by
  unfold c8;split
  ·rename_i aH;rw[aH.1,aH.2,aF]at h;cases h
  ·exact h
 have back:∀{a},IsNode {aS with bd:=c8 aS.bd (l+1) (pre p (l+1)) (some f)} a->a=f\/IsNode aS a:=λ{a} ⟨bQ,dc,h⟩=>by
  change c8 aS.bd (l+1) (pre p (l+1)) (some f) bQ dc=some a at h;unfold c8 at h;split at h
  ·exact .inl (Option.some.inj h).symm
  ·exact .inr ⟨_,_,h⟩
 have fwd:∀{a},IsNode aS a->IsNode {aS with bd:=c8 aS.bd (l+1) (pre p (l+1)) (some f)} a:=λ{a} ⟨bQ,dc,h⟩=>⟨bQ,dc,L8 h⟩
 have fin:IsNode {aS with bd:=c8 aS.bd (l+1) (pre p (l+1)) (some f)} f:=⟨l+1,pre p (l+1),by simp[c8]⟩;have as4:¬IsNode T f:=λh=>zL (M.uG h)
 refine⟨rO,M.ent,λbQ dc a h=>L8 (M.c0 _ _ _ h),?_,?_,?_,?_,?_,?_⟩
 ·intro bQ dc h;change c8 aS.bd (l+1) (pre p (l+1)) (some f) bQ dc≠none at h;unfold c8 at h;split at h
  ·rename_i aH;rw[aH.1,aH.2];exact .inr rfl
  ·exact M.only _ _ h
 ·intro a h1 ab;have al:¬IsNode aS a:=λh=>ab (fwd h)
  have aE:a≠f:=λe=>ab (e▸fin)
  have aL:a≠g:=λe=>al ⟨_,_,e▸aN⟩
  rw[eE _ _ aL,eE _ _ aE,eE _ _ aE];exact M.other a h1 al
 ·intro a h1 ab;rcases back h1 with rfl|h1
  ·rw[<-(M.other a ab zL).2];exact aJ
  ·exact M.new a h1 ab
 ·intro a h;rcases back h with rfl|h
  ·exact e4 _ _ _
  ·rw[eE _ _ (λe:a=f=>zL (e▸h))];exact M.node a h
 ·have h1:=E3 aS (l:=l+1) (q:=pre p (l+1)) (by omega) (Hq aI (by omega)) (some f) aS.ent;rw[aF]at h1;have ab:=M.count;simp at h1;omega
 ·intro h;have h1:=M.nW h;have ab:=tW (f:=λa=>cK a==0) (g:=λa=>az cK f 1 a==0) (p:=f) iD (λi _ af=>by simp[eE _ _ af]);simp[aJ]at ab;omega
theorem qf.done(M:qf n mem held free T p cA cK cH aS)(mV:sx T)(aI:p<4096){f m:Nat}{s:bj}(aJ:aS.bd 3 (p/8)=some f)(aA:s.may=true)(hm:y_ (cA f) m (p%8) s) :
  y7 n mem held free T p s (az cA f m) cK cH {aS with ent:=az aS.ent p s}:=by
 have rO:=M.ok.put (oK:=gC (az cA f m)) aJ (.inr aA) (λg i _ af=>by
  unfold gC c8;by_cases e:g=f
  ·subst e;rw[e4,hm i af];by_cases fh:i=p%8<;>simp[fh,gC]
  ·rw[eE _ _ e,if_neg (by simp[e])])
 have r3:∀l,l<=3->aS.bd l (pre p l)≠none:=by
  have:∀k l,l+k=3->aS.bd l (pre p l)≠none:=by
   intro k;induction k with
   |zero=>intro l ay;obtain rfl:l=3:=by omega
          rw[tp,aJ];simp
   |succ k b1=>intro l ay;have:=M.ok.par l _ (b1 (l+1) (by omega));rwa[o6 p (by omega)]at this
  exact λl ay=>this (3-l) l (by omega)
 refine⟨rO,⟨?_,?_⟩,by rw[M.ent],?_,M.new,M.node,λg h1 ab=>absurd (M.uG h1) ab,M.count,M.nW⟩
 ·intro q aF;by_cases e:q=p/8
  ·exact⟨p%8,by omega,by
    show az aS.ent p s _≠_
    rw[show 8*q+p%8=p by omega,e4];exact VL aA⟩
  ·rcases M.only 3 q aF with h|h
   ·obtain⟨i,af,he⟩:=mV.1 q h;refine⟨i,af,?_⟩;show az aS.ent p s _≠_;rw[eE _ _ (by omega),M.ent];exact he
   ·rw[tp]at h;exact absurd h e
 ·intro l q ay aF;by_cases e:q=pre p (l+1)
  ·refine⟨pre p (l+2) %8,by omega,?_⟩;have h1:=o6 p (l:=l+1) (by omega);rw[e,<-h1,show 8*(pre p (l+1+1) /8) +pre p (l+2) %8=pre p (l+2)by show 8*(pre p (l+2) /8) +_=_;omega];exact r3 (l+2) (by omega)
  ·rcases M.only (l+1) q aF with h|h
   ·obtain⟨i,af,he⟩:=mV.2 l q ay h;refine⟨i,af,?_⟩;cases k:T.bd (l+2) (8*q+i)with
    |none=>exact absurd k he
    |some a=>show aS.bd _ _≠none;rw[M.c0 _ _ _ k];simp
   ·exact absurd h e
 ·intro g h1 ab;have al:g≠f:=λe=>ab ⟨3,p/8,e▸aJ⟩
  rw[eE _ _ al];exact M.other g h1 ab
structure o'(n:Nat)(mem held:Nat->Nat)(free:Nat)(T:dt)(p k:Nat)(cA cK:Nat->Nat)(cH:Nat)(aS:dt) :Prop where
 ok:hB (gC cA) n aS
 ent:aS.ent=az T.ent p .zero
 sub:∀l q f,aS.bd l q=some f->T.bd l q=some f
 Io:∀l,k<l->aS.bd l (pre p l)=none
 only:∀l q,T.bd l q≠none->aS.bd l q=none->k<l/\q=pre p l
 other:∀f,¬IsNode T f->cA f=mem f/\cK f=held f
 node:∀f,IsNode aS f->cK f=1
 gone:∀f,IsNode T f->¬IsNode aS f->cK f=0
 count:cH+aS.ee=free+T.ee
 nW:free=cq (λf=>held f==0) n->cH=cq (λf=>cK f==0) n
theorem o'.start(h:hB (gC mem) n T)(aw:∀f,IsNode T f->held f=1){f m:Nat}(aJ:T.bd 3 (p/8)=some f)(hm:y_ (mem f) m (p%8) .zero) :o' n mem held free T p 3 (az mem f m) held free {T with ent:=az T.ent p .zero}:=by
 have rO:=h.put (oK:=gC (az mem f m)) aJ (.inl rfl) (λg i _ af=>by
  unfold gC c8;by_cases e:g=f
  ·subst e;rw[e4,hm i af];by_cases fh:i=p%8<;>simp[fh,gC]
  ·rw[eE _ _ e,if_neg (by simp[e])])
 refine⟨rO,rfl,λ_ _ _ h=>h,λl ay=> ?_,λl q h1 ab=>absurd ab h1,λg aN=>⟨eE _ _ (λe=>aN ⟨3,_,e▸aJ⟩),rfl⟩,aw,λg h1 ab=>absurd h1 ab,rfl,id⟩;cases k:T.bd l (pre p l)with
 |none=>rfl
 |some a=>have:=(h.lvl _ _ _ k).1;omega
theorem o'.AV(G:o' n mem held free T p k cA cK cH aS){f:Nat}(h:IsNode aS f) :IsNode T f:=let⟨l,q,aF⟩:=h;⟨l,q,G.sub _ _ _ aF⟩
theorem o'.step(G:o' n mem held free T p (l+1) cA cK cH aS)(aI:p<4096){f g m:Nat}(ay:l<3)(aN:aS.bd l (pre p l)=some g)(aF:aS.bd (l+1) (pre p (l+1))=some f)(aP:∀i,i<8->rm (cA f) i=.zero)
  (hm:y_ (cA g) m (pre p (l+1) %8) .zero) (v8:cH+1=Kk) :
  o' n mem held free T p l (az cA g m) (az cK f 0) Kk {aS with bd:=c8 aS.bd (l+1) (pre p (l+1)) none}:=by
 have zM:f≠g:=λe=>by subst e;have:=G.ok.inj _ _ _ _ _ aF aN;omega
 have rO:=G.ok.shrink (oK:=gC (az cA g m)) ay (by rw[o6 p (by omega)];exact aN) aF aP (λa i bc _ af=>by
  unfold gC c8;by_cases e:a=g
  ·subst e;rw[e4,hm i af];by_cases fh:i=pre p (l+1) %8<;>simp[fh,gC]
  ·rw[eE _ _ e,if_neg (by simp[e])])
 have back:∀{bQ dc a},c8 aS.bd (l+1) (pre p (l+1)) none bQ dc=some a->¬(bQ=l+1/\dc=pre p (l+1))/\aS.bd bQ dc=some a:=λbc=>by unfold c8 at bc;split at bc<;>simp_all
 have uN:∀{a},IsNode {aS with bd:=c8 aS.bd (l+1) (pre p (l+1)) none} a->IsNode aS a/\a≠f:=λ{a} ⟨bQ,dc,h⟩=>by obtain⟨h1,ab⟩:=back h;exact⟨⟨_,_,ab⟩,λe=>by subst e;exact h1 (G.ok.inj _ _ _ _ _ ab aF)⟩
 have fwd:∀{a},IsNode aS a->a≠f->IsNode {aS with bd:=c8 aS.bd (l+1) (pre p (l+1)) none} a:=λ{a} ⟨bQ,dc,h⟩ c'=>by
  refine⟨bQ,dc,?_⟩;show c8 aS.bd (l+1) (pre p (l+1)) none bQ dc=some a;unfold c8;split
  ·rename_i aH;rw[aH.1,aH.2,aF]at h;exact absurd (Option.some.inj h).symm c'
  ·exact h
 have rG:=(G.ok.lvl _ _ _ aF).2.2;refine⟨rO,G.ent,λbQ dc a h=>G.sub _ _ _ (back h).2,?_,?_,?_,?_,?_,?_,?_⟩
 ·intro bQ kv;show c8 aS.bd (l+1) (pre p (l+1)) none bQ (pre p bQ)=none;by_cases e:bQ=l+1
  ·subst e;simp[c8]
  ·have:=G.Io bQ (by omega);simp[c8,e,this]
 ·intro bQ dc h1 ab;change c8 aS.bd (l+1) (pre p (l+1)) none bQ dc=none at ab;unfold c8 at ab;split at ab
  ·rename_i aH;rw[aH.1,aH.2];exact⟨by omega,rfl⟩
  ·have:=G.only _ _ h1 ab;exact⟨by omega,this.2⟩
 ·intro a bc;have h1:a≠g:=λe=>bc (G.AV ⟨_,_,e▸aN⟩)
  have ab:a≠f:=λe=>bc (G.AV ⟨_,_,e▸aF⟩)
  rw[eE _ _ h1,eE _ _ ab];exact G.other a bc
 ·intro a bc;obtain⟨h1,ab⟩:=uN bc;rw[eE _ _ ab];exact G.node a h1
 ·intro a h1 ab;by_cases e:a=f
  ·subst e;exact e4 _ _ _
  ·rw[eE _ _ e];exact G.gone a h1 λh=>ab (fwd h e)
 ·have h1:=E3 aS (l:=l+1) (q:=pre p (l+1)) (by omega) (Hq aI (by omega)) none aS.ent;rw[aF]at h1;have ab:=G.count;simp at h1;omega
 ·intro h;have h1:=G.nW h;have ab:=tW (f:=λa=>cK a==0) (g:=λa=>az cK f 0 a==0) (p:=f) rG (λi _ af=>by simp[eE _ _ af]);have al:=G.node f ⟨_,_,aF⟩;simp[al]at ab;omega
theorem o'.done(G:o' n mem held free T p k cA cK cH aS)(mV:sx T)(aI:p<4096)(av:k=0\/∃f,k<=3/\aS.bd k (pre p k)=some f/\∃i,i<8/\rm (cA f) i≠.zero) :
  y7 n mem held free T p .zero cA cK cH aS:=by
 have uG:∀l q,T.bd l q≠none->¬(k<l/\q=pre p l)->aS.bd l q≠none:=λl q h1 ab al=>ab (G.only l q h1 al)
 have AV:∀l q,aS.bd l q≠none->T.bd l q≠none:=λl q h=>by
  cases e:aS.bd l q with
  |none=>exact absurd e h
  |some a=>rw[G.sub _ _ _ e];simp
 have last:∀l,1<=l->l=k->aS.bd l (pre p l)≠none->(l=3->∃i,i<8/\aS.ent (8*pre p l+i)≠.zero)/\(l<3->∃i,i<8/\aS.bd (l+1) (8*pre p l+i)≠none):=by
  rintro l h1 rfl aw;rcases av with rfl|⟨f,T5,aJ,i,af,he⟩
  ·omega
  ·refine⟨λal=>⟨i,af,?_⟩,λal=>⟨i,af,?_⟩⟩
   ·have:=G.ok.leaf (pre p l) f i (al▸aJ) af;rw[<-this];exact he
   ·have:=G.ok.s9 l (pre p l) f i al aJ af;intro e;rw[e]at this;exact he this
 refine⟨G.ok,⟨?_,?_⟩,G.ent,λf h _=>G.other f h,λf h bC=>absurd (G.AV h) bC,G.node,G.gone,G.count,G.nW⟩
 ·intro q aF;by_cases e:q=pre p 3
  ·subst e;by_cases bJ:k=3
   ·exact(last 3 (by omega) bJ.symm aF).1 rfl
   ·rcases av with rfl|⟨_,T5,_⟩
    ·exact absurd (G.Io 3 (by omega)) aF
    ·exact absurd (G.Io 3 (by omega)) aF
  ·obtain⟨i,af,he⟩:=mV.1 q (AV _ _ aF);refine⟨i,af,?_⟩;rw[tp]at e;rw[G.ent,eE _ _ (by omega)];exact he
 ·intro l q ay aF;by_cases e:q=pre p (l+1)
  ·subst e;by_cases bJ:l+1=k
   ·exact(last (l+1) (by omega) bJ aF).2 (by omega)
   ·by_cases xN:k<l+1
    ·exact absurd (G.Io (l+1) xN) aF
    ·
     rcases av with rfl|⟨f,T5,aJ,_⟩
     ·omega
     ·have r3:∀d l,l+d=k->aS.bd l (pre p l)≠none:=by
       intro d;induction d with
       |zero=>intro l ay;obtain rfl:l=k:=by omega
              rw[aJ];simp
       |succ d b1=>intro l ay;have:=G.ok.par l _ (b1 (l+1) (by omega));rwa[o6 p (by omega)]at this
      refine⟨pre p (l+2) %8,by omega,?_⟩;have h1:=o6 p (l:=l+1) (by omega);rw[<-h1,show 8*(pre p (l+1+1) /8) +pre p (l+2) %8=pre p (l+2)by show 8*(pre p (l+2) /8) +_=_;omega];exact r3 (k-(l+2)) (l+2) (by omega)
  ·obtain⟨i,af,he⟩:=mV.2 l q ay (AV _ _ aF);refine⟨i,af,uG _ _ he λ⟨h1,ab⟩=>e ?_⟩;have:=o6 p (l:=l+1) (by omega);rw[<-this];show q=pre p (l+2) /8;rw[<-ab];omega
end
theorem apd(p:Int) :spread [] p=none:=rfl
theorem apc(l m:List aU)(p:Int) :spread (l++m) p=(spread l p).or (spread m p):=by unfold spread;rw[AE];cases cv l p<;>rfl
theorem X5(r:aU)(p:Int) :spread [r] p=if r.has p then some (r.cu p)else none:=by unfold spread cv;cases h:r.has p<;>simp[h]
theorem N3(r:aU)(l:List aU)(p:Int) :spread (r::l) p=if r.has p then some (r.cu p)else spread l p:=by rw[show r::l=[r]++l from rfl,apc,X5];cases r.has p<;>simp
theorem Xr(o:List aU){r:aU}(h:r.af<=r.lo) :e9 o r=o:=by unfold e9;rw[if_pos h]
def full(r:aU) :Bool:=decide (r.lo<r.af)
theorem Fx:∀(l o:List aU),l.foldl e9 o=(l.filter full).foldl e9 o
 |[],o=>rfl
 |r::l,o=>by
  rw[List.foldl_cons,Fx l];by_cases h:r.lo<r.af
  ·rw[List.filter_cons_of_pos (by simp[full,h])];rfl
  ·rw[List.filter_cons_of_neg (by simp[full,h]),Xr o (by omega)]
theorem Xi{l:List aU}{p:Int}{r:aU}(h:cv l p=some r) :spread l p=some (r.cu p):=by unfold spread;rw[h];rfl
theorem N4{l:List aU}{p:Int} :spread l p=none↔cv l p=none:=by unfold spread;cases cv l p<;>simp
theorem nE{r:aU}(h:r.may=true) :0<=r.lo/\r.lo<r.af/\r.af<=4096/\0<=r.perm/\r.perm<=7/\(if r.kind=1 then 0<=r.file/\0<=r.bM/\r.bM<=1073741824-(r.af-r.lo)else 1<r.kind/\r.kind<=4/\r.file= -1/\r.bM=0):=by unfold aU.may at h;simpa only[decide_eq_true_eq]using h
theorem My{r:aU}(h:0<=r.lo/\r.lo<r.af/\r.af<=4096/\0<=r.perm/\r.perm<=7/\(if r.kind=1 then 0<=r.file/\0<=r.bM/\r.bM<=1073741824-(r.af-r.lo)else 1<r.kind/\r.kind<=4/\r.file= -1/\r.bM=0)) :r.may=true:=by unfold aU.may;simpa only[decide_eq_true_eq]using h
theorem ak7{r:aU}(h:r.may=true) :ld r:=λav=>by have:=(nE h).2.2.2.2.2;rw[if_neg av]at this;exact this.2.2.2
theorem ak6{o:List aU}{r:aU}(bg:∀x,x∈o->x.may=true)(an:r.lo<r.af->r.may=true) :∀x,x∈e9 o r->x.may=true:=by
 rcases AH o r with⟨h,e⟩ |⟨h,cg,x,rfl,h1,e⟩ |⟨h,_,e⟩
 ·rw[e];exact bg
 ·rw[e];intro y aq;rcases List.mem_append.1 aq with aq|aq
  ·exact bg y (by simp[aq])
  ·rw[List.mem_singleton]at aq;subst aq;have ag:=nE (bg x (by simp));have ki:=nE (an h);simp[aU.one]at h1;obtain⟨ct,cE,cO,dG,eH⟩:=h1;refine My ?_;dsimp only;rw[cO]at ag eH|-;by_cases av:r.kind=1
   ·simp only[av,if_true,true_implies,not_true,false_or]at ag ki eH|-;omega
   ·simp only[av,if_false]at ag ki|-;omega
 ·rw[e];intro y aq;rcases List.mem_append.1 aq with aq|aq
  ·exact bg y aq
  ·rw[List.mem_singleton]at aq;subst aq;exact an h
theorem Mx:∀{l o:List aU},(∀x,x∈o->x.may=true)->(∀x,x∈l->x.lo<x.af->x.may=true)->∀x,x∈l.foldl e9 o->x.may=true
 |[],o,bg,_=>bg
 |r::l,o,bg,ay=>by rw[List.foldl_cons];exact Mx (ak6 bg (ay r (by simp))) (λx ag=>ay x (by simp[ag]))
theorem aoh{l:List aU}(h:eZ 0 (l.filter full) 4096)(hm:∀x,x∈l->x.lo<x.af->x.may=true) :
  nd (l.foldl e9 [])/\(∀p,spread (l.foldl e9 []) p=spread (l.filter full) p)/\∀fx:Int->Option aU,(∀p,0<=p->p<4096->fx p=spread (l.filter full) p)->lX fx [] 0 4096=l.foldl e9 []:=by
 have aP:∀x,x∈l.filter full->ld x:=λx ag=>by have:=List.mem_filter.1 ag;exact ak7 (hm x this.1 (by simpa [full]using this.2))
 refine⟨⟨?_,Mx (by simp) hm⟩,λp=> ?_,λfx aI=> ?_⟩
 ·rw[Fx];exact eZ.fold (o:=[]) (b:=0) (by simp[eZ]) h
 ·rw[Fx,X4 (a:=0) (b:=0) (c:=4096) (by simp[eZ]) h aP (by simp)];simp[apd]
 ·rw[Fx];exact Xn (lo:=0) (n:=4096) h aP aI
def iK(r:aU) :List aU->List aU
 |[]=>[r]
 |x::l=>if r.af<=x.lo then r::x::l else x::iK r l
def meets(r x:aU) :Bool:=decide (x.lo<r.af/\r.lo<x.af)
theorem LS{r y:aU} :∀{l:List aU},y∈iK r l↔y=r\/y∈l
 |[]=>by simp[iK]
 |x::l=>by
  unfold iK;split
  ·simp
  ·simp only[List.mem_cons,LS (l:=l)];constructor<;>(intro h;rcases h with h|h|h)<;>simp[h]
theorem UR{r:aU}(an:r.lo<=r.af) :∀{l:List aU} {a b:Int},eZ a l b->a<=r.lo->r.af<=b->(∀x,x∈l->meets r x=false/\x.lo<x.af)->r.lo<r.af->eZ a (iK r l) b
 |[],a,b,h,h1,ab,_,_=>⟨h1,an,ab⟩
 |x::l,a,b,⟨bk,b_,b3⟩,h1,ab,hm,aJ=>by
  have:=hm x (by simp);simp[meets]at this;unfold iK;split
  ·rename_i ag;exact⟨h1,an,ag,b_,b3⟩
  ·exact⟨bk,b_,UR an b3 (by omega) ab (λy aq=>hm y (by simp[aq])) aJ⟩
theorem UQ{r:aU}(p:Int) :∀{l:List aU} {a b:Int},eZ a l b->(∀x,x∈l->meets r x=false)->spread (iK r l) p=if r.has p then some (r.cu p)else spread l p
 |[],_,_,_,_=>by unfold iK;exact X5 r p
 |x::l,a,b,⟨h1,ab,al⟩,hm=>by
  have:=hm x (by simp);unfold iK;split
  ·rw[N3]
  ·rw[N3,UQ p al (λy aq=>hm y (by simp[aq])),N3];by_cases ag:x.has p=true
   ·have:r.has p=false:=by simp[meets]at this;simp[aU.has]at ag|-;omega
    simp[ag,this]
   ·simp[ag]
theorem ad9{l:List aU}(h:∀x,x∈l->x.lo<x.af) :l.filter full=l:=List.filter_eq_self.2 λx ag=>by simp[full,h x ag]
theorem nd.full{L:List aU}(h:nd L) :∀x,x∈L->x.lo<x.af:=λx ag=>(nE (h.may x ag)).2.1
theorem aa_{L:List aU}{r:aU}(h:nd L)(an:r.may=true)(hm:∀x,x∈L->meets r x=false) :
  nd ((iK r L).foldl e9 [])/\(∀p,spread ((iK r L).foldl e9 []) p=if r.has p then some (r.cu p)else spread L p)/\
  ∀fx:Int->Option aU,(∀p,0<=p->p<4096->fx p=if r.has p then some (r.cu p)else spread L p)->lX fx [] 0 4096=(iK r L).foldl e9 []:=by
 have k:=nE an
 have aJ:∀x,x∈iK r L->x.lo<x.af:=λx ag=>by
  rcases LS.1 ag with rfl|ag
  ·exact k.2.1
  ·exact h.full x ag
 have mc:=ad9 aJ;have aA:eZ 0 (iK r L) 4096:=UR (by omega) h.N6 k.1 k.2.2.1 (λx ag=>⟨hm x ag,h.full x ag⟩) k.2.1
 obtain⟨ao,a2,a3⟩:=aoh (l:=iK r L) (by rw[mc];exact aA) (λx ag _=>by
  rcases LS.1 ag with rfl|ag
  ·exact an
  ·exact h.may x ag)
 rw[mc]at a2 a3;have e:∀p,spread (iK r L) p=if r.has p then some (r.cu p)else spread L p:=λp=>UQ p h.N6 hm
 exact⟨ao,λp=>by rw[a2,e],λfx aI=>a3 fx λp h1 ab=>by rw[aI p h1 ab,e]⟩
theorem ak9{L:List aU}{r:aU}(h:nd L)(an:r.lo<r.af) :(∃x,x∈L/\meets r x=true)↔∃p,r.lo<=p/\p<r.af/\spread L p≠none:=by
 constructor
 ·rintro⟨x,ag,hm⟩;have:=h.full x ag;simp[meets]at hm;have aI:x.has (max x.lo r.lo)=true:=by simp[aU.has];omega
  refine⟨max x.lo r.lo,by omega,by omega,?_⟩;rw[Ne,N4];unfold cv;rw[List.find?_eq_none];exact λaH=>aH x ag aI
 ·rintro⟨p,h1,ab,al⟩;rw[Ne,N4]at al;cases e:cv L p with
  |none=>exact absurd e al
  |some x=>
   have:=AF e;exact⟨x,this.1,by simp[meets];omega⟩
theorem Sx{f:Nat->Bool}{n i:Nat}(af:i<n)(h:f i=true)(hu:∀j,j<n->f j=true->j=i) :cq f n=1:=by
 have h1:=tW (f:=λ_=>false) (g:=f) (p:=i) af (λj aO c'=>by
  cases e:f j with
  |false=>rfl
  |true=>exact absurd (hu j aO e) c')
 have ab:cq (λ_:Nat=>false) n=0:=kS.2 λ_ _=>rfl
 rw[h,ab]at h1;simpa using h1
open Classical in
theorem alQ{dec:Nat->Nat->bj}{n:Nat}{T:dt}(h:hB dec n T) :cq (λf=>decide (IsNode T f)) n=T.ee:=by
 have aG:∀f,f<n->(decide (IsNode T f)).toNat=dx (λl=>cq (λq=>decide (T.bd l q=some f)) (8^l)) 4:=λf aJ=>by
  by_cases aw:IsNode T f
  ·obtain⟨l,q,aF⟩:=aw;have ay:=h.lvl _ _ _ aF
   have z:∀k,k≠l->cq (λq=>decide (T.bd k q=some f)) (8^k)=0:=λk av=>kS.2 λr _=>by simp only[decide_eq_false_iff_not];exact λaH=>av (h.inj _ _ _ _ _ aH aF).1
   have o:cq (λq=>decide (T.bd l q=some f)) (8^l)=1:=Sx ay.2.1 (by simp[aF]) λr _ an=>by simp only[decide_eq_true_eq]at an;exact(h.inj _ _ _ _ _ an aF).2
   have s:=N8 (f:=λ_=>0) (g:=λk=>cq (λq=>decide (T.bd k q=some f)) (8^k)) (p:=l) ay.1 (λk _ av=>z k av);rw[yB (f:=λ_=>0) (λ_ _=>rfl),o]at s;rw[show decide (IsNode T f)=true by simp;exact⟨l,q,aF⟩];simp only[Bool.toNat_true];omega
  ·rw[show decide (IsNode T f)=false by simpa using aw];refine(yB λl _=>kS.2 λr _=> ?_).symm;simp only[decide_eq_false_iff_not];exact λaH=>aw ⟨l,r,aH⟩
 have aT:∀l q,cq (λf=>decide (T.bd l q=some f)) n=(T.bd l q).isSome.toNat:=λl q=>by
  cases aF:T.bd l q with
  |none=>exact kS.2 λf _=>by simp
  |some f=>exact Sx (h.lvl _ _ _ aF).2.2 (by simp) λg _ aN=>by simp at aN;exact aN.symm
 rw[<-ou,p2 aG,DD];unfold dt.ee;refine p2 λl _=> ?_
 rw[p2 (λf _=>(ou (λq=>decide (T.bd l q=some f)) (8^l)).symm),DD];rw[<-ou];refine p2 λq _=> ?_
 rw[ou,aT]
def j2(l:List bH) :Nat:=(l.map λx=>x.T.ee).sum
open Classical in
theorem MM{dec:Nat->Nat->bj}{n:Nat} :∀{l:List bH},(∀x,x∈l->hB dec n x.T)->l.Pairwise nN->cq (λf=>decide (∃x,x∈l/\IsNode x.T f)) n=j2 l
 |[],_,_=>kS.2 λf _=>by simp
 |x::l,h,aI=>by
  rw[List.pairwise_cons]at aI;have h1:=alQ (h x (by simp));have ab:=MM (l:=l) (λy aq=>h y (by simp[aq])) aI.2
  have al:=E6 (λf=>decide (IsNode x.T f)) (λf=>decide (∃y,y∈l/\IsNode y.T f)) (λf aJ=>by
   simp only[decide_eq_true_eq]at aJ;simp only[decide_eq_false_iff_not];rintro⟨y,aq,aw⟩
   exact aI.1 y aq f aJ aw) n
  have aE:cq (λf=>decide (∃y,y∈x::l/\IsNode y.T f)) n=cq (λf=>decide (IsNode x.T f) ||decide (∃y,y∈l/\IsNode y.T f)) n:=xj λf _=>by rw[Bool.eq_iff_iff];simp
  rw[aE,<-al,h1,ab];simp[j2]
section
variable{c:df}{σ:b8}{e:Nat->Int}
open Classical in
theorem Inv.own(h:Inv c σ (λ_=>0) e){f:Nat}(aJ:f<c.n) :σ.held f=refs σ f+(decide (∃x,x∈σ.au/\IsNode x.T f)).toNat:=by
 by_cases aw:∃x,x∈σ.au/\IsNode x.T f
 ·obtain⟨x,ag,wc⟩:=aw;have:=h.node x f ag wc;rw[show decide (∃x,x∈σ.au/\IsNode x.T f)=true by simp;exact⟨x,ag,wc⟩];simp;omega
 ·have:=h.data f aJ (λx ag aH=>aw ⟨x,ag,aH⟩);rw[show decide (∃x,x∈σ.au/\IsNode x.T f)=false by simpa using aw];simp;omega
theorem Inv.sum(h:Inv c σ (λ_=>0) e) :dx (λf=>σ.held f-refs σ f) c.n=j2 σ.au:=by
 classical
 rw[<-MM h.jl h.ph,<-ou];refine p2 λf aJ=> ?_
 have:=h.own aJ;omega
theorem Inv.room(h:Inv c σ (λ_=>0) e) :σ.free+j2 σ.au+cq (λf=>decide (refs σ f≠0)) c.n=c.n:=by
 classical
 rw[<-MM h.jl h.ph,h.free]
 have h1:=E6 (λf=>decide (∃x,x∈σ.au/\IsNode x.T f)) (λf=>decide (refs σ f≠0)) (λf aJ=>by
  simp only[decide_eq_true_eq]at aJ;obtain⟨x,ag,aw⟩:=aJ
  simp[(h.node x f ag aw).2.1]) c.n
 have ab:=JH (λf=>σ.held f==0) c.n
 have al:cq (λf=> !(σ.held f==0)) c.n=cq (λf=>decide (∃x,x∈σ.au/\IsNode x.T f) ||decide (refs σ f≠0)) c.n:=xj λf aJ=>by
  have:=h.own aJ;by_cases aw:∃x,x∈σ.au/\IsNode x.T f
  ·simp only[aw,decide_true,Bool.true_or,Bool.toNat_true]at this|-;simp;omega
  ·simp only[aw,decide_false,Bool.false_or,Bool.toNat_false]at this|-;by_cases h0:refs σ f=0<;>simp[this,h0]
 omega
end
end Go.Proofs.YtkdjcmpgnkecfaaGreatDoor
namespace Go.a8
theorem Mk{f:List aa->ae->Option a1}{I:Nat->List aa->ae->Prop}{m:Nat}{Q:eb->List aa->ae->Prop}
  (aA:∀i vs h,i<=m->I i vs h->(i<m/\∃dJ bC,f vs h=some (.normal,dJ,bC)/\I (i+1) dJ bC)\/(∃x dJ g,x≠.normal/\f vs h=some (x,dJ,g)/\Q x dJ g)) :
  ∀(k i:Nat) vs h,i<=m->I i vs h->(i+2^k<=m/\∃dJ bC,eM k f vs h=some (.normal,dJ,bC)/\I (i+2^k) dJ bC)\/(∃x dJ g,x≠.normal/\eM k f vs h=some (x,dJ,g)/\Q x dJ g)
 |0,i,vs,h,af,kf=>by
  rcases aA i vs h af kf with⟨h1,dJ,bC,e,ab⟩ |⟨x,dJ,g,ag,e,aF⟩
  ·exact .inl ⟨h1,dJ,bC,e,ab⟩
  ·exact .inr ⟨x,dJ,g,ag,e,aF⟩
 |k+1,i,vs,h,af,kf=>by
  have gO:2^(k+1)=2^k+2^k:=by omega
  rcases Mk aA k i vs h af kf with⟨h1,dJ,bC,e,ab⟩ |⟨x,dJ,g,ag,e,aF⟩
  ·rcases Mk aA k (i+2^k) dJ bC h1 ab with⟨al,Bk,aE,aT,aL⟩ |⟨x,Bk,g,ag,aT,aF⟩
   ·refine .inl ⟨by omega,Bk,aE,?_,by rw[gO,<-Nat.add_assoc];exact aL⟩;unfold eM;rw[e];exact aT
   ·refine .inr ⟨x,Bk,g,ag,?_,aF⟩;unfold eM;rw[e];exact aT
  ·refine .inr ⟨x,dJ,g,ag,?_,aF⟩;unfold eM;rw[e];cases x<;>first|rfl|exact absurd rfl ag
theorem Mi{f:List aa->ae->Option a1}(I:Nat->List aa->ae->Prop)(m:Nat)(Q:eb->List aa->ae->Prop){k:Nat}(hm:m<2^k)
  (aA:∀i vs h,i<=m->I i vs h->(i<m/\∃dJ bC,f vs h=some (.normal,dJ,bC)/\I (i+1) dJ bC)\/(∃x dJ g,x≠.normal/\f vs h=some (x,dJ,g)/\Q x dJ g))
  {vs:List aa} {h:ae} (h0:I 0 vs h) :∃x dJ g,eM k f vs h=some (x,dJ,g)/\Q x dJ g:=by
 rcases Mk aA k 0 vs h (by omega) h0 with⟨h1,_⟩ |⟨x,dJ,g,_,e,aF⟩
 ·omega
 ·exact⟨x,dJ,g,e,aF⟩
def aV(o:Option a1)(Q:eb->List aa->ae->Prop) :Prop:=∃x vs g,o=some (x,vs,g)/\Q x vs g
def bh(o:Option (aa×ae))(Q:aa->ae->Prop) :Prop:=∃v g,o=some (v,g)/\Q v g
theorem aV.pure{x:eb}{vs:List aa}{g:ae}{Q:eb->List aa->ae->Prop}(h:Q x vs g) :aV (some (x,vs,g)) Q:=⟨x,vs,g,rfl,h⟩
theorem aV.mono{o:Option a1}{P Q:eb->List aa->ae->Prop}(h:aV o P)(k:∀x vs g,P x vs g->Q x vs g) :aV o Q:=let⟨x,vs,g,e,q⟩:=h;⟨x,vs,g,e,k _ _ _ q⟩
theorem bh.mono{o:Option (aa×ae)}{P Q:aa->ae->Prop}(h:bh o P)(k:∀v g,P v g->Q v g) :bh o Q:=let⟨v,g,e,q⟩:=h;⟨v,g,e,k _ _ q⟩
theorem bh.of{v:aa}{g:ae}{o:Option (aa×ae)}{Q:aa->ae->Prop}(e:o=some (v,g))(q:Q v g) :bh o Q:=⟨v,g,e,q⟩
theorem bh.mk{o:Option a1}{c:Option (aa×ae)}{Q:aa->ae->Prop}(l:∀{x vs g},o=some (x,vs,g)->c=some (kE vs,g))(w:aV o λ_ vs g=>Q (kE vs) g) :bh c Q:=let⟨x,vs,g,e,q⟩:=w;⟨_,g,l e,q⟩
section
variable{Q:eb->List aa->ae->Prop}
theorem vp{α:Type}{o:Option α}{K:α->Option a1}{a:α}(e:o=some a)(k:aV (K a) Q) :aV (U o K) Q:=by rw[e];exact k
theorem cX{α:Type}{o:Option α}{K:α->Option a1}{P:α->Prop}(h:∃a,o=some a/\P a)(k:∀a,P a->aV (K a) Q) :aV (U o K) Q:=by obtain⟨a,e,p⟩:=h;rw[e];exact k a p
theorem b4{o:Option (aa×ae)}{K:aa->ae->Option a1}{P:aa->ae->Prop}(h:bh o P)(k:∀v g,P v g->aV (K v g) Q) :aV (a7 o K) Q:=by obtain⟨v,g,e,p⟩:=h;rw[e];exact k v g p
theorem fO{o:Option a1}{K:eb->List aa->ae->Option a1}{P:eb->List aa->ae->Prop}(h:aV o P)(k:∀x vs g,P x vs g->aV (K x vs g) Q) :aV (bG o K) Q:=by obtain⟨x,vs,g,e,p⟩:=h;rw[e];exact k x vs g p
theorem hX{f:List aa->ae->Option a1}{vs:List aa}{h:ae}{n:Nat}{K:eb->List aa->ae->Option a1}{P:eb->List aa->ae->Prop}(I:Nat->List aa->ae->Prop)(m:Nat)(hm:m<2^n)(h0:I 0 vs h)
  (s:∀i vs h,i<=m->I i vs h->aV (f vs h) λx dJ g=>(x=.normal/\i<m/\I (i+1) dJ g)\/(x≠.normal/\P x dJ g))
  (k:∀x vs g,P x vs g->aV (K x vs g) Q) :aV (bG (eM n f vs h) K) Q:=by
 refine fO (P:=P) ?_ k
 exact Mi I m P hm (λi vs h af kf=>by
  obtain⟨x,dJ,g,e,q⟩:=s i vs h af kf;rcases q with⟨rfl,h1,ab⟩ |⟨h1,ab⟩
  ·exact .inl ⟨h1,dJ,g,e,ab⟩
  ·exact .inr ⟨x,dJ,g,h1,e,ab⟩) h0
theorem aaH{b:Bool}{x y:Option a1}(h1:b=true->aV x Q)(ab:b=false->aV y Q) :aV (bq (.bool b) x y) Q:=by
 cases b
 ·exact ab rfl
 ·exact h1 rfl
theorem Bl{f:Nat->aa}{ob:bT}{o:Option ((Nat->aa) ×bT)}{h:ae}{K:aa->ae->Option a1}(e:o=some (f,ob))(k:∀g,g=h.new ob->aV (K (f h.next) g) Q) :aV (ca o h K) Q:=by rw[e];exact k _ rfl
theorem cM{f:Nat->aa}{l:List aa}{z:List aa}{o:Option ((Nat->aa) ×bT)}{h:ae}{K:aa->ae->Option a1}(e:o=some (f,.cells l.length false z (bu.ofList l)))
  (k:∀g,Obj g h.next l->g.next=h.next+1->bf h g->aV (K (f h.next) g) Q) :aV (ca o h K) Q:=by
 rw[e];exact k _ (Obj.new h l false z) rfl (aM.new _ _ _)
end
theorem Obj.get{h:ae}{id:Nat}{l:List aa}(o:Obj h id l){i:Nat}{v:aa}(e:l[i]? =some v) :bP h id i=some v:=by rw[o.rd];exact e
theorem Obj.ext{h g:ae}{id:Nat}{l:List aa}(o:Obj h id l)(u:bf h g)(af:id<h.next) :Obj g id l:=o.az u af (λe=>e)
theorem aM.ext{S:Nat->Prop}{h g:ae}(u:bf h g) :aM S h g:=u.mono λ_ _ e=>e.elim
theorem aM.local{S:Nat->Prop}{T:Nat->Prop}{h g cw:ae}(u:aM S h g)(v:aM T g cw)(lq:∀i,i<h.next->T i->S i) :aM S h cw:=⟨Nat.le_trans u.next v.next,λi af aA=>(v.get i (Nat.lt_of_lt_of_le af u.next) (λk=>aA (lq i af k))).trans (u.get i af aA)⟩
theorem aaM{n:Nat}{st:Bool}{z:List aa} :∀(vs:List aa) (off:Nat) (t:bu aa),off+vs.length<=n->(vs.all dH)=true->
  ∃j7,(bT.cells n st z t).writes off vs=some (.cells n st z j7)/\∀i,j7.get i=if off<=i/\i<off+vs.length then vs[i-off]? else t.get i
 |[],off,t,_,_=>⟨t,rfl,λi=>by rw[if_neg (by simp only[List.length_nil];omega)]⟩
 |v::vs,off,t,ay,aA=>by
  simp only[List.length_cons]at ay;simp only[List.all_cons,Bool.and_eq_true]at aA;obtain⟨j7,h1,ab⟩:=aaM (n:=n) (st:=st) (z:=z) vs (off+1) (t.set off v) (by omega) aA.2;refine⟨j7,?_,λi=> ?_⟩
  ·simp only[bT.writes,bT.write,dM.2 (show off<n by omega),aA.1,Bool.true_and,cond_true];exact h1
  ·rw[ab i,bu.lL,List.length_cons];by_cases h:i=off
   ·subst h;rw[if_neg (by omega),if_pos rfl,if_pos (by omega),Nat.sub_self];rfl
   ·by_cases bC:off+1<=i/\i<off+1+vs.length
    ·rw[if_pos bC,if_pos (by omega),show i-off=(i-(off+1)) +1 by omega];rfl
    ·rw[if_neg bC,if_neg h,if_neg (by omega)]
theorem Obj.writes{h:ae}{id:Nat}{l:List aa}(o:Obj h id l)(vs:List aa)(off:Nat)(ay:off+vs.length<=l.length)(aA:(vs.all dH)=true) :
  ∃ob,j9 h id off vs=some (h.put id ob)/\Obj (h.put id ob) id (l.take off++vs++l.drop (off+vs.length)):=by
 obtain⟨z,t,e⟩:=o.live;obtain⟨j7,h1,ab⟩:=aaM (n:=l.length) (st:=false) (z:=z) vs off t ay aA;refine⟨.cells l.length false z j7,?_,⟨⟨z,j7,?_⟩,λi=> ?_⟩⟩
 ·unfold j9;rw[e,h1]
 ·rw[ln];congr 1;simp;omega
 ·have h0:=o.rd i;unfold bP at h0|-;rw[e]at h0;rw[ln];simp only[bT.cell]at h0|-;rw[ab i];have rP:(l.take off).length=off:=by simp;omega
  by_cases af:off<=i/\i<off+vs.length
  ·rw[if_pos af,dM.2 (show i<l.length by omega),List.getElem?_append_left (by simp;omega),List.getElem?_append_right (by omega),rP,List.getElem?_eq_getElem (by omega)];rfl
  ·rw[if_neg af,h0];by_cases al:i<off
   ·rw[List.getElem?_append_left (by simp;omega),List.getElem?_append_left (by omega),List.getElem?_take,if_pos al]
   ·rw[List.getElem?_append_right (by simp;omega),List.getElem?_drop];congr 1;simp;omega
theorem W'{o:bT} :∀(k off:Nat) (l:List aa),l.length=k->(∀i,i<k->o.cell (off+i)=l[i]?)->o.read off k=some l
 |0,off,l,ay,_=>by obtain rfl:=List.eq_nil_of_length_eq_zero ay;rfl
 |k+1,off,l,ay,aH=>by
  obtain⟨v,bQ,rfl⟩ :∃v bQ,l=v::bQ:=by cases l with|nil=>simp at ay|cons v bQ=>exact⟨v,bQ,rfl⟩
  have h0:=aH 0 (by omega);have h1:=W' k (off+1) bQ (by simpa using ay) (λi af=>by have:=aH (i+1) (by omega);rw[show off+(i+1)=off+1+i by omega]at this;simpa using this);simp only[bT.read];rw[show o.cell off=some v by simpa using h0,h1]
theorem Obj.cells{h:ae}{id:Nat}{l:List aa}(o:Obj h id l)(off k:Nat)(av:off+k<=l.length) :j4 h id off k=some ((l.drop off).take k):=by unfold j4;refine W' k off _ (by simp;omega) (λi af=> ?_);have:=o.rd (off+i);unfold bP at this;rw[this,List.getElem?_take,if_pos af,List.getElem?_drop]
theorem Obj.here{h:ae}{id:Nat}{l:List aa}(o:Obj h id l) :j4 h id 0 l.length=some l:=by have:=o.cells 0 l.length (by omega);simpa using this
theorem Obj.fill{h:ae}{id:Nat}{l:List aa}(o:Obj h id l)(vs:List aa)(ay:vs.length=l.length)(aA:(vs.all dH)=true) :∃ob,j9 h id 0 vs=some (h.put id ob)/\Obj (h.put id ob) id vs:=by obtain⟨ob,h1,ab⟩:=o.writes vs 0 (by omega) aA;refine⟨ob,h1,?_⟩;rw[show l.take 0++vs++l.drop (0+vs.length)=vs by rw[ay];simp]at ab;exact ab
section
variable{E:Env}{t:TypeId}{i:bK}
theorem yd(aW:E.ty t=some i)(aC:qF i.desc=true){h:ae}{id off:Nat}{l:List aa}(o:Obj h id l)(av:off+i.size<=l.length) :ak E h t (.ptr id off)=some (.agg ((l.drop off).take i.size)):=by simp only[ak,loadT,aW,aC,o.cells off i.size av]
theorem qU(aW:E.ty t=some i)(aA:i.size=1){h:ae}{id k:Nat}{l:List aa}(o:Obj h id l)(av:k<l.length){v:aa}(aH:v.cells=[v])(ai:dH v=true) :
  ∃g,bN E h t (.ptr id k) v=some g/\(Obj g id (l.set k v)/\aM (λj=>j=id) h g/\g.next=h.next):=by
 obtain⟨ob,h1,ab⟩:=o.write av ai;refine⟨_,?_,ab,aM.put _ rfl,rfl⟩;simp only[bN,storeT,aW,aA,aH];exact h1
theorem tt(aW:E.ty t=some i)(h0:i.size≠0){h:ae}{id k:Nat}{l cs:List aa}(o:Obj h id l)(ay:cs.length=i.size)(av:k+cs.length<=l.length)(ai:cs.all dH=true) :
  ∃g,bN E h t (.ptr id k) (.agg cs)=some g/\(Obj g id (l.take k++cs++l.drop (k+cs.length))/\aM (λj=>j=id) h g/\g.next=h.next):=by
 obtain⟨ob,h1,ab⟩:=o.writes cs k av ai;refine⟨_,?_,ab,aM.put _ rfl,rfl⟩;simp only[bN,storeT,aW,aa.cells,ay];rw[rY,show Nat.beq i.size 0=false by rw[beq_false];exact h0];exact h1
theorem nP(aW:E.ty t=some i)(aC:jh i.desc=false) :dz E t=some (λid=>aa.ptr id 0,.cells i.zero.length false [] (bu.ofList i.zero)):=by simp only[dz,aW,te,aC]
theorem kQ(aW:E.ty t=some i)(aC:jh i.desc=false){v:aa}{cs:List aa}(aH:v.cells=cs) :c9 E t v=some (λid=>aa.ptr id 0,.cells cs.length false [] (bu.ofList cs)):=by simp only[c9,aW,te,aC,aH]
theorem UM{n len:Nat}(h:n<len) :oe (n:Int) len=some n:=by show(bif Nat.blt n len then some n else none)=some n;rw[dM.2 h];rfl
theorem uE{e:TypeId}{ie:bK}(aW:E.ty t=some i)(aC:i.desc=.slice e)(he:E.ty e=some ie){id off len cap n:Nat}{ex:Bool}(aw:n<len) :cZ E t (.slice id off len cap ie.size ex) (.int .i64 n)=some (.ptr id (off+n*ie.size)):=by simp only[cZ,aW,aC,he,UM aw,rY,cond_true]
theorem UY{e:TypeId}{ie:bK}{m:Nat}(aW:E.ty t=some i)(aC:i.desc=.array m e)(he:E.ty e=some ie){id off n:Nat}(aw:n<m) :cZ E t (.ptr id off) (.int .i64 n)=some (.ptr id (off+n*ie.size)):=by simp only[cZ,aW,aC,he,UM aw]
theorem ye{e:TypeId}(aW:E.ty t=some i)(aC:i.desc=.slice e)(h:ae)(id off len cap cT:Nat)(ex:Bool) :dw E h t (.slice id off len cap cT ex)=some (.int .i64 len):=by simp only[dw,aW,aC];rfl
theorem Mf{e:TypeId}(aW:E.ty t=some i)(aC:i.desc=.slice e)(h:ae) :dw E h t .bI=some (.int .i64 0):=by simp only[dw,aW,aC];rfl
theorem r5{e:TypeId}(aW:E.ty t=some i)(aC:i.desc=.pointer e)(h:ae)(a b:Nat) :ax E h .eql t (.ptr a b) .nilPtr=some (.bool false):=by simp[ax,uc,gE,aW,aC]
theorem No{e:TypeId}(aW:E.ty t=some i)(aC:i.desc=.pointer e)(h:ae)(a b:Nat) :ax E h .neq t (.ptr a b) .nilPtr=some (.bool true):=by simp[ax,uc,gE,aW,aC]
end
end Go.a8
namespace Go.Proofs.YtkdjcmpgnkecfaaGreatDoor
open Go.a8
section
variable{PV:cn} [cN PV]
def bj.vs(s:bj) :List aa:=[.bool s.here,.bool s.write,.bool s.copy,.bool s.out,.int .i64 s.n]
def bj.eo(s:bj) :aa:=.agg s.vs
theorem I9:dz J 169=some (λid=>aa.ptr id 0,.cells 5 false [] (bu.ofList bj.zero.vs)):=by kernel_rfl
theorem abW(s:bj) :c9 J 169 s.eo=some (λid=>aa.ptr id 0,.cells 5 false [] (bu.ofList s.vs)):=by kernel_rfl
theorem rk:dY J 169 []=some bj.zero.eo:=by kernel_rfl
theorem abE(a b c d:Bool)(n:Int) :dY J 169 [(0,.bool a),(1,.bool b),(2,.bool c),(3,.bool d),(4,.int .i64 n)]=some (bj.mk a b c d n).eo:=by kernel_rfl
theorem k1{h:ae}{id:Nat}{s:bj}(o:a8.Obj h id s.vs) :ak J h 169 (.ptr id 0)=some s.eo:=by
 have e:J.ty 169=some w1:=by kernel_rfl
 have:=o.here;simp only[ak,loadT,e];show(match j4 h id 0 5 with|some cs=>some (aa.agg cs) |none=>none)=_;rw[show(5:Nat)=s.vs.length by rfl,this];rfl
theorem Dy{h:ae}{id:Nat}{s:bj}(o:a8.Obj h id s.vs)(aY:bj) :∃ob,bN J h 169 (.ptr id 0) aY.eo=some (h.put id ob)/\a8.Obj (h.put id ob) id aY.vs:=by
 have e:J.ty 169=some w1:=by kernel_rfl
 obtain⟨ob,h1,ab⟩:=o.fill aY.vs rfl rfl;refine⟨ob,?_,ab⟩;simp only[bN,storeT,e];exact h1
theorem adV(id off:Nat) :aQ J 169 (.ptr id off) 0=some (.ptr id off)/\aQ J 169 (.ptr id off) 1=some (.ptr id (off+1))/\aQ J 169 (.ptr id off) 2=some (.ptr id (off+2))/\aQ J 169 (.ptr id off) 3=some (.ptr id (off+3))/\aQ J 169 (.ptr id off) 4=some (.ptr id (off+4)):=
 ⟨by kernel_rfl,by kernel_rfl,by kernel_rfl,by kernel_rfl,by kernel_rfl⟩
theorem aiJ(h:ae)(id off:Nat) :ak J h 4 (.ptr id off)=bP h id off:=hS (i:=yK) (by kernel_rfl) rfl h id off
theorem alG(h:ae)(a b:Bool) :ax J h .neq 4 (.bool a) (.bool b)=some (.bool (a !=b)):=by cases a<;>cases b<;>kernel_rfl
theorem Mz(h:ae)(s:bj) :∃g,call J PV (.func 179 [] []) [s.eo] h=some (.bool s.may,g)/\bf h g:=by
 refine⟨h.new (.cells 5 false [] (bu.ofList s.vs)),ajn (x:=.ret) (vs:=[.bool s.may]) (first:=[]) (cap:=[]) ?_ rfl,aM.new _ _ _⟩;have o:a8.Obj (h.new (.cells 5 false [] (bu.ofList s.vs))) h.next s.vs:=a8.Obj.new h s.vs false [];obtain⟨f0,f1,f2,f3,f4⟩:=adV h.next 0;have r0:=o.rd 0;have cS:=o.rd 1;have dm:=o.rd 2;have eS:=o.rd 3;have fp:=o.rd 4;simp only[bj.vs,List.getElem?_cons_zero,List.getElem?_cons_succ]at r0 cS dm eS fp;obtain⟨a,b,c,d,n⟩:=s;unfold Qh;rw[abW];simp only[oG,f0,f1,f2,f3,f4,ar,aiJ,jM,Nat.zero_add];simp only[bj.vs]at r0 cS dm eS fp|-;simp only[r0,cS,dm,eS,fp,ar,alG,ba,bj.may];by_cases h1:(a !=d)=true
 ·by_cases ab:0<=n
  ·by_cases al:n<=1048576
   ·cases b<;>cases c<;>simp[h1,ab,al,r0,cS,dm,eS,fp]
   ·simp[h1,ab,al,r0,cS,dm,eS,fp]
  ·simp[h1,ab,r0,cS,dm,eS,fp]
 ·simp[h1,r0,cS,dm,eS,fp]
theorem abi{a b:Nat}(bc:a<2^64)(aj:b<2^64) :jb .u64 (a:Int) (b:Int)=((a&&&b:Nat) :Int):=by
 unfold jb
 have e:(BitVec.ofInt IntKind.u64.bits (a:Int) &&&BitVec.ofInt IntKind.u64.bits (b:Int)).toNat=a&&&b:=by rw[BitVec.toNat_and,BitVec.ofInt_natCast,BitVec.ofInt_natCast,BitVec.toNat_ofNat,BitVec.toNat_ofNat];show a%2^64&&&b%2^64=_;rw[Nat.mod_eq_of_lt bc,Nat.mod_eq_of_lt aj]
 rw[e,<-m_];have:a&&&b<=a:=Nat.and_le_left;exact wrap_u64 (by omega) (by omega)
theorem abh(a i:Nat) :a&&&2^i=if a.testBit i=true then 2^i else 0:=by
 apply Nat.eq_of_testBit_eq;intro j;rw[Nat.testBit_and,Nat.testBit_two_pow];by_cases h:i=j
 ·subst h;cases a.testBit i<;>simp
 ·cases a.testBit i<;>simp[h]
theorem EK{a:Nat}(bc:a<2^64)(i:Nat)(af:i<64) :decide (jb .u64 (a:Int) ((2^i:Nat) :Int)≠0)=a.testBit i:=by
 rw[abi bc (Nat.pow_lt_pow_right (by decide) af),abh];cases a.testBit i with
 |false=>simp
 |true=>
  rw[if_pos rfl];have ab:2^i≠0:=Nat.ne_of_gt (Nat.two_pow_pos i);exact decide_eq_true λe=>ab (Int.ofNat.inj e)
theorem acS(h:ae)(n:Int) :gB J h 67 3 (.int .u64 n)=some (.int .i64 (b0 .i64 n)):=by
 have aG:J.ty 67=some w2:=by kernel_rfl
 have aT:J.ty 3=some lA:=by kernel_rfl
 simp only[gB,aG,aT];rfl
theorem aqQ(h:ae){bits:Nat}(aj:bits<2^64) :∃g,call J PV (.func 318 [] []) [.int .u64 bits] h=some ((l2 bits).eo,g)/\bf h g:=by
 have ct:a8.Obj (h.new (.cells 5 false [] (bu.ofList bj.zero.vs))) h.next bj.zero.vs:=a8.Obj.new h bj.zero.vs false [];have q:((bits:Int)).tdiv 16=((bits/16:Nat) :Int):=by rw[Int.tdiv_eq_ediv_of_nonneg (by omega)];simp
 have aG:b0 .u64 ((bits/16:Nat) :Int)=((bits/16:Nat) :Int):=wrap_u64 (by omega) (by omega);have aT:b0 .i64 ((bits/16:Nat) :Int)=((bits/16:Nat) :Int):=wrap_i64 (by omega) (by omega);have mI:=EK aj 0 (by omega);have fS:=EK aj 1 (by omega);have ft:=EK aj 2 (by omega);have gV:=EK aj 3 (by omega);have aF:∀(aD:ae),ax J aD .quo 67 (.int .u64 bits) (.int .u64 16)=some (.int .u64 ((bits/16:Nat) :Int)):=λaD=>by rw[vF .u64 (by omega),q,aG]
 by_cases aH:1048576<bits/16
 ·obtain⟨ob,s1,cE⟩:=Dy ct .zero;refine⟨_,Vr (x:=.ret) (vs:=[(l2 bits).eo]) (first:=[]) (cap:=[]) (g:=(h.new (.cells 5 false [] (bu.ofList bj.zero.vs))).put h.next ob) ?_ rfl,(aM.new _ _ _).uW _ (Nat.le_refl _)⟩;have sQ:((1048576:Int) <((bits/16:Nat) :Int)):=by omega
  have bw:l2 bits=.zero:=by unfold l2;rw[if_pos aH]
  rw[bw];unfold IP;rw[I9];simp only[oG,aF,ar,iT,ba,decide_eq_true_eq,if_pos sQ,rk,s1,k1 cE]
 ·let s:bj:=⟨bits.testBit 0,bits.testBit 1,bits.testBit 2,bits.testBit 3,(bits/16:Nat)⟩;let h1:=h.new (.cells 5 false [] (bu.ofList bj.zero.vs));let ab:=h1.new (.cells 5 false [] (bu.ofList bj.zero.vs));have cE:a8.Obj ab h1.next bj.zero.vs:=a8.Obj.new h1 bj.zero.vs false [];obtain⟨ob,s1,cO⟩:=Dy cE s;obtain⟨aE,hm,bO⟩:=Mz (ab.put h1.next ob) s;have dR:h1.next=h.next+1:=rfl;have eN:(ab.put h1.next ob).next=h.next+2:=rfl
  have bR:bf h (ab.put h1.next ob):=((aM.new _ _ _).trans (aM.new _ _ _)).uW _ (by omega);have dG:a8.Obj aE h1.next s.vs:=cO.az bO (by omega) (λe=>e)
  have eH:a8.Obj aE h.next bj.zero.vs:=by refine a8.Obj.az ?_ bO (by omega) (λe=>e);refine a8.Obj.pV (h:=h1) ct ?_;rw[ke (by omega),ug (by omega)]
  have sQ:¬((1048576:Int) <((bits/16:Nat) :Int)):=by omega
  have bw:l2 bits=if s.may then s else .zero:=by unfold l2;rw[if_neg aH]
  obtain⟨uR,j6,eO⟩:=Dy eH s;obtain⟨Ap,qT,fj⟩:=Dy eH .zero;have ul:h.next<=aE.next:=(bR.trans bO).next
  refine⟨aE.put h.next (if s.may then uR else Ap),Vr (x:=.ret) (vs:=[(l2 bits).eo]) (first:=[]) (cap:=[]) ?_ rfl,(bR.trans bO).uW _ (Nat.le_refl _)⟩;rw[bw];unfold IP;rw[I9];have hR:ak J (ab.put h1.next ob) 169 (.ptr h1.next 0)=some s.eo:=k1 cO;have d0:decide (jb .u64 (bits:Int) 1≠0)=bits.testBit 0:=mI;have d1:decide (jb .u64 (bits:Int) 2≠0)=bits.testBit 1:=fS;have d2:decide (jb .u64 (bits:Int) 4≠0)=bits.testBit 2:=ft;have d3:decide (jb .u64 (bits:Int) 8≠0)=bits.testBit 3:=gV;simp only[oG,aF,ar,iT,ba,decide_eq_true_eq,if_neg sQ,xd,dP,d0,d1,d2,d3,acS,aT,abE];show U (bN J ab 169 (.ptr h1.next 0) s.eo) _=_;rw[s1,ar,hR,ar,hm,c3];simp only[fD,ar,ba];cases lN:s.may with
  |true=>
   simp only[Bool.not_true,Bool.false_eq_true,if_false,if_true];show U (ak J aE 169 (.ptr h1.next 0)) _=_;rw[k1 dG,ar];show U (bN J aE 169 (.ptr h.next 0) s.eo) _=_;rw[j6,ar,k1 eO,ar]
  |false=>
   simp only[Bool.not_false,if_true,rk,ar,Bool.false_eq_true,if_false];show U (bN J aE 169 (.ptr h.next 0) bj.zero.eo) _=_;rw[qT,ar,k1 fj,ar]
theorem adX(id off:Nat) :aQ J 272 (.ptr id off) 0=some (.ptr id off):=by kernel_rfl
theorem adA{h:ae}{A:gw}{mem held:Nat->Nat}{free:Nat}(hw:lE h)(aI:er h A mem held free)(h0:A.p≠0/\A.b≠0/\A.q≠0){t:Nat}(aW:t<h.next)(h1:bP h t 0=some (.ptr A.p 0))
  {node i:Nat} (aw:node<A.n) (aD:held node≠0) (af:i<8) :∃g,call J PV (.func 245 [] []) [.ptr t 0,.int .i64 node,.int .i64 i] h=some ((l2 (cB (mem node) (8*i) 8)).eo,g)/\bf h g:=by
 let g1:=h.new (.cells 5 false [] (bu.ofList bj.zero.vs));have bb:bf h g1:=aM.new _ _ _;have aG:b0 .i64 ((i:Int) *8)=((8*i:Nat) :Int):=by rw[wrap_i64 (by omega) (by omega)];omega
 have dR:g1.next=h.next+1:=rfl;obtain⟨g2,ay,bn⟩:=Vy (hw.az bb (λe=>e)) (aI.az bb ⟨λe=>e,λe=>e,λe=>e⟩) h0 (k:=4) (.inr (.inr (.inr rfl))) aw aD (at':=8*i) (by show 8*i+8<=64;omega);have kv:call J PV (.func 91 [] []) [.ptr A.p 0,.int .i64 node,.int .i64 (8*i:Nat),.int .i64 4] g1=some (.tuple [.int .u64 (cB (mem node) (8*i) 8:Nat),.int .i64 0],g2):=ay;obtain⟨g3,hu,bR⟩:=aqQ g2 (bits:=cB (mem node) (8*i) 8) (uO _ _ 8);have ct:a8.Obj g1 h.next bj.zero.vs:=a8.Obj.new h bj.zero.vs false [];have un:g1.next<=g2.next:=bn.next;have cO:a8.Obj g3 h.next bj.zero.vs:=ct.az (bn.trans bR) (by omega) (λe=>e);obtain⟨ob,m2,dG⟩:=Dy cO (l2 (cB (mem node) (8*i) 8));have ul:h.next<=g3.next:=((bb.trans bn).trans bR).next
 refine⟨g3.put h.next ob,ajL (x:=.ret) (vs:=[(l2 (cB (mem node) (8*i) 8)).eo]) (first:=[]) (cap:=[]) ?_ rfl,((bb.trans bn).trans bR).uW _ (Nat.le_refl _)⟩;unfold QF;rw[I9];simp only[oG,cl,ar,adX,yc];show U (bP g1 t 0) _=_;rw[mw aW,h1];simp only[ar,nh,aG];show a7 (call J PV (.func 91 [] []) [.ptr A.p 0,.int .i64 node,.int .i64 (8*i:Nat),.int .i64 4] g1) _=_;rw[kv];simp only[c3,dA,List.getElem?_cons_zero,List.getElem?_cons_succ,ar,hu,m2,k1 dG]
end
@[simp] theorem cW (h:ae) (id off:Nat) :ak J h 3 (.ptr id off)=bP h id off:=hS (i:=lA) (by kernel_rfl) rfl h id off
@[simp] theorem km (h:ae) (id off:Nat) :ak J h 4 (.ptr id off)=bP h id off:=hS (i:=yK) (by kernel_rfl) rfl h id off
@[simp] theorem A2 (h:ae) (id off:Nat) :ak J h 9 (.ptr id off)=bP h id off:=hS (i:=oz) (by kernel_rfl) rfl h id off
theorem DM{h:ae}{id off:Nat}{l:List aa}(o:a8.Obj h id l)(av:off+4<=l.length) :ak J h 22 (.ptr id off)=some (.agg ((l.drop off).take 4)):=yd (i:=A') (by kernel_rfl) rfl o av
@[simp] theorem u9 (h:ae) (id off:Nat) :ak J h 32 (.ptr id off)=bP h id off:=hS (i:=yJ) (by kernel_rfl) rfl h id off
@[simp] theorem mA (h:ae) (id off:Nat) :ak J h 42 (.ptr id off)=bP h id off:=hS (i:=Ba) (by kernel_rfl) rfl h id off
theorem lz{h:ae}{id off:Nat}{l:List aa}(o:a8.Obj h id l)(av:off+6<=l.length) :ak J h 47 (.ptr id off)=some (.agg ((l.drop off).take 6)):=yd (i:=p6) (by kernel_rfl) rfl o av
@[simp] theorem tA (h:ae) (id off:Nat) :ak J h 48 (.ptr id off)=bP h id off:=hS (i:=p7) (by kernel_rfl) rfl h id off
@[simp] theorem Yy (h:ae) (id off:Nat) :ak J h 59 (.ptr id off)=bP h id off:=hS (i:=DY) (by kernel_rfl) rfl h id off
@[simp] theorem tB (h:ae) (id off:Nat) :ak J h 64 (.ptr id off)=bP h id off:=hS (i:=vc) (by kernel_rfl) rfl h id off
@[simp] theorem DO (h:ae) (id off:Nat) :ak J h 75 (.ptr id off)=bP h id off:=hS (i:=q5) (by kernel_rfl) rfl h id off
@[simp] theorem aqg (h:ae) (id off:Nat) :ak J h 83 (.ptr id off)=bP h id off:=hS (i:=yL) (by kernel_rfl) rfl h id off
@[simp] theorem u7 (h:ae) (id off:Nat) :ak J h 126 (.ptr id off)=bP h id off:=hS (i:=p5) (by kernel_rfl) rfl h id off
@[simp] theorem Yw (h:ae) (id off:Nat) :ak J h 135 (.ptr id off)=bP h id off:=hS (i:=nK) (by kernel_rfl) rfl h id off
@[simp] theorem ha (h:ae) (id off:Nat) :ak J h 152 (.ptr id off)=bP h id off:=hS (i:=w0) (by kernel_rfl) rfl h id off
@[simp] theorem o7 (h:ae) (id off:Nat) :ak J h 153 (.ptr id off)=bP h id off:=hS (i:=DT) (by kernel_rfl) rfl h id off
@[simp] theorem m3 (h:ae) (id off:Nat) :ak J h 154 (.ptr id off)=bP h id off:=hS (i:=DU) (by kernel_rfl) rfl h id off
@[simp] theorem m4 (h:ae) (id off:Nat) :ak J h 157 (.ptr id off)=bP h id off:=hS (i:=A9) (by kernel_rfl) rfl h id off
theorem yE{h:ae}{id off:Nat}{l:List aa}(o:a8.Obj h id l)(av:off+5<=l.length) :ak J h 169 (.ptr id off)=some (.agg ((l.drop off).take 5)):=yd (i:=w1) (by kernel_rfl) rfl o av
theorem sb{h:ae}{id off:Nat}{l:List aa}(o:a8.Obj h id l)(av:off+6<=l.length) :ak J h 178 (.ptr id off)=some (.agg ((l.drop off).take 6)):=yd (i:=tC) (by kernel_rfl) rfl o av
theorem o8{h:ae}{id off:Nat}{l:List aa}(o:a8.Obj h id l)(av:off+2<=l.length) :ak J h 182 (.ptr id off)=some (.agg ((l.drop off).take 2)):=yd (i:=sf) (by kernel_rfl) rfl o av
@[simp] theorem yF (h:ae) (id off:Nat) :ak J h 197 (.ptr id off)=bP h id off:=hS (i:=yI) (by kernel_rfl) rfl h id off
@[simp] theorem Ow (h:ae) (id off:Nat) :ak J h 202 (.ptr id off)=bP h id off:=hS (i:=sg) (by kernel_rfl) rfl h id off
theorem H3{h:ae}{id off:Nat}{l:List aa}(o:a8.Obj h id l)(av:off+3<=l.length) :ak J h 204 (.ptr id off)=some (.agg ((l.drop off).take 3)):=yd (i:=A_) (by kernel_rfl) rfl o av
theorem aqd{h:ae}{id off:Nat}{l:List aa}(o:a8.Obj h id l)(av:off+2<=l.length) :ak J h 206 (.ptr id off)=some (.agg ((l.drop off).take 2)):=yd (i:=vb) (by kernel_rfl) rfl o av
@[simp] theorem DN (h:ae) (id off:Nat) :ak J h 292 (.ptr id off)=bP h id off:=hS (i:=sj) (by kernel_rfl) rfl h id off
@[simp] theorem wY (h:ae) (id off:Nat) :ak J h 293 (.ptr id off)=bP h id off:=hS (i:=q3) (by kernel_rfl) rfl h id off
@[simp] theorem Ox (h:ae) (id off:Nat) :ak J h 296 (.ptr id off)=bP h id off:=hS (i:=q4) (by kernel_rfl) rfl h id off
@[simp] theorem aqf (h:ae) (id off:Nat) :ak J h 366 (.ptr id off)=bP h id off:=hS (i:=H8) (by kernel_rfl) rfl h id off
theorem m5{h:ae}{id k:Nat}{l:List aa}(o:a8.Obj h id l)(av:k<l.length){v:aa}(aH:v.cells=[v])(ai:dH v=true) :∃g,bN J h 3 (.ptr id k) v=some g/\(a8.Obj g id (l.set k v)/\aM (λj=>j=id) h g/\g.next=h.next):=qU (i:=lA) (by kernel_rfl) rfl o av aH ai
theorem YK{h:ae}{id k:Nat}{l:List aa}(o:a8.Obj h id l)(av:k<l.length){v:aa}(aH:v.cells=[v])(ai:dH v=true) :∃g,bN J h 4 (.ptr id k) v=some g/\(a8.Obj g id (l.set k v)/\aM (λj=>j=id) h g/\g.next=h.next):=qU (i:=yK) (by kernel_rfl) rfl o av aH ai
theorem H6{h:ae}{id k:Nat}{l:List aa}(o:a8.Obj h id l)(av:k<l.length){v:aa}(aH:v.cells=[v])(ai:dH v=true) :∃g,bN J h 9 (.ptr id k) v=some g/\(a8.Obj g id (l.set k v)/\aM (λj=>j=id) h g/\g.next=h.next):=qU (i:=oz) (by kernel_rfl) rfl o av aH ai
theorem u'{h:ae}{id k:Nat}{l cs:List aa}(o:a8.Obj h id l)(ay:cs.length=4)(av:k+cs.length<=l.length)(ai:cs.all dH=true) :∃g,bN J h 22 (.ptr id k) (.agg cs)=some g/\(a8.Obj g id (l.take k++cs++l.drop (k+cs.length))/\aM (λj=>j=id) h g/\g.next=h.next):=tt (i:=A') (by kernel_rfl) (by decide) o ay av ai
theorem yH{h:ae}{id k:Nat}{l cs:List aa}(o:a8.Obj h id l)(ay:cs.length=6)(av:k+cs.length<=l.length)(ai:cs.all dH=true) :∃g,bN J h 47 (.ptr id k) (.agg cs)=some g/\(a8.Obj g id (l.take k++cs++l.drop (k+cs.length))/\aM (λj=>j=id) h g/\g.next=h.next):=tt (i:=p6) (by kernel_rfl) (by decide) o ay av ai
theorem aqB{h:ae}{id k:Nat}{l:List aa}(o:a8.Obj h id l)(av:k<l.length){v:aa}(aH:v.cells=[v])(ai:dH v=true) :∃g,bN J h 48 (.ptr id k) v=some g/\(a8.Obj g id (l.set k v)/\aM (λj=>j=id) h g/\g.next=h.next):=qU (i:=p7) (by kernel_rfl) rfl o av aH ai
theorem aqC{h:ae}{id k:Nat}{l:List aa}(o:a8.Obj h id l)(av:k<l.length){v:aa}(aH:v.cells=[v])(ai:dH v=true) :∃g,bN J h 59 (.ptr id k) v=some g/\(a8.Obj g id (l.set k v)/\aM (λj=>j=id) h g/\g.next=h.next):=qU (i:=DY) (by kernel_rfl) rfl o av aH ai
theorem YL{h:ae}{id k:Nat}{l:List aa}(o:a8.Obj h id l)(av:k<l.length){v:aa}(aH:v.cells=[v])(ai:dH v=true) :∃g,bN J h 75 (.ptr id k) v=some g/\(a8.Obj g id (l.set k v)/\aM (λj=>j=id) h g/\g.next=h.next):=qU (i:=q5) (by kernel_rfl) rfl o av aH ai
theorem OD{h:ae}{id k:Nat}{l:List aa}(o:a8.Obj h id l)(av:k<l.length){v:aa}(aH:v.cells=[v])(ai:dH v=true) :∃g,bN J h 126 (.ptr id k) v=some g/\(a8.Obj g id (l.set k v)/\aM (λj=>j=id) h g/\g.next=h.next):=qU (i:=p5) (by kernel_rfl) rfl o av aH ai
theorem aqv{h:ae}{id k:Nat}{l:List aa}(o:a8.Obj h id l)(av:k<l.length){v:aa}(aH:v.cells=[v])(ai:dH v=true) :∃g,bN J h 152 (.ptr id k) v=some g/\(a8.Obj g id (l.set k v)/\aM (λj=>j=id) h g/\g.next=h.next):=qU (i:=w0) (by kernel_rfl) rfl o av aH ai
theorem aqw{h:ae}{id k:Nat}{l cs:List aa}(o:a8.Obj h id l)(ay:cs.length=3)(av:k+cs.length<=l.length)(ai:cs.all dH=true) :∃g,bN J h 161 (.ptr id k) (.agg cs)=some g/\(a8.Obj g id (l.take k++cs++l.drop (k+cs.length))/\aM (λj=>j=id) h g/\g.next=h.next):=tt (i:=DV) (by kernel_rfl) (by decide) o ay av ai
theorem q1{h:ae}{id k:Nat}{l cs:List aa}(o:a8.Obj h id l)(ay:cs.length=5)(av:k+cs.length<=l.length)(ai:cs.all dH=true) :∃g,bN J h 169 (.ptr id k) (.agg cs)=some g/\(a8.Obj g id (l.take k++cs++l.drop (k+cs.length))/\aM (λj=>j=id) h g/\g.next=h.next):=tt (i:=w1) (by kernel_rfl) (by decide) o ay av ai
theorem q2{h:ae}{id k:Nat}{l cs:List aa}(o:a8.Obj h id l)(ay:cs.length=6)(av:k+cs.length<=l.length)(ai:cs.all dH=true) :∃g,bN J h 178 (.ptr id k) (.agg cs)=some g/\(a8.Obj g id (l.take k++cs++l.drop (k+cs.length))/\aM (λj=>j=id) h g/\g.next=h.next):=tt (i:=tC) (by kernel_rfl) (by decide) o ay av ai
theorem A8{h:ae}{id k:Nat}{l cs:List aa}(o:a8.Obj h id l)(ay:cs.length=2)(av:k+cs.length<=l.length)(ai:cs.all dH=true) :∃g,bN J h 182 (.ptr id k) (.agg cs)=some g/\(a8.Obj g id (l.take k++cs++l.drop (k+cs.length))/\aM (λj=>j=id) h g/\g.next=h.next):=tt (i:=sf) (by kernel_rfl) (by decide) o ay av ai
theorem aqy{h:ae}{id k:Nat}{l:List aa}(o:a8.Obj h id l)(av:k<l.length){v:aa}(aH:v.cells=[v])(ai:dH v=true) :∃g,bN J h 202 (.ptr id k) v=some g/\(a8.Obj g id (l.set k v)/\aM (λj=>j=id) h g/\g.next=h.next):=qU (i:=sg) (by kernel_rfl) rfl o av aH ai
theorem DS{h:ae}{id k:Nat}{l cs:List aa}(o:a8.Obj h id l)(ay:cs.length=3)(av:k+cs.length<=l.length)(ai:cs.all dH=true) :∃g,bN J h 204 (.ptr id k) (.agg cs)=some g/\(a8.Obj g id (l.take k++cs++l.drop (k+cs.length))/\aM (λj=>j=id) h g/\g.next=h.next):=tt (i:=A_) (by kernel_rfl) (by decide) o ay av ai
theorem aqz{h:ae}{id k:Nat}{l cs:List aa}(o:a8.Obj h id l)(ay:cs.length=2)(av:k+cs.length<=l.length)(ai:cs.all dH=true) :∃g,bN J h 206 (.ptr id k) (.agg cs)=some g/\(a8.Obj g id (l.take k++cs++l.drop (k+cs.length))/\aM (λj=>j=id) h g/\g.next=h.next):=tt (i:=vb) (by kernel_rfl) (by decide) o ay av ai
theorem YJ{h:ae}{id k:Nat}{l:List aa}(o:a8.Obj h id l)(av:k<l.length){v:aa}(aH:v.cells=[v])(ai:dH v=true) :∃g,bN J h 293 (.ptr id k) v=some g/\(a8.Obj g id (l.set k v)/\aM (λj=>j=id) h g/\g.next=h.next):=qU (i:=q3) (by kernel_rfl) rfl o av aH ai
theorem apI:dz J 3=some (λid=>aa.ptr id 0,.cells ([.int .i64 0] :List aa).length false [] (bu.ofList [.int .i64 0])):=nP (i:=lA) (by kernel_rfl) rfl
theorem Yi:dz J 9=some (λid=>aa.ptr id 0,.cells ([.str 0 0] :List aa).length false [] (bu.ofList [.str 0 0])):=nP (i:=oz) (by kernel_rfl) rfl
theorem tu:dz J 22=some (λid=>aa.ptr id 0,.cells ([.int .i64 0,.int .i64 0,.int .i64 0,.int .i64 0] :List aa).length false [] (bu.ofList [.int .i64 0,.int .i64 0,.int .i64 0,.int .i64 0])):=nP (i:=A') (by kernel_rfl) rfl
theorem AY:dz J 47=some (λid=>aa.ptr id 0,.cells ([.int .i64 0,.int .i64 0,.int .i64 0,.int .i64 0,.int .i64 0,.int .i64 0] :List aa).length false [] (bu.ofList [.int .i64 0,.int .i64 0,.int .i64 0,.int .i64 0,.int .i64 0,.int .i64 0])):=nP (i:=p6) (by kernel_rfl) rfl
theorem apJ:dz J 59=some (λid=>aa.ptr id 0,.cells ([.nilFunc] :List aa).length false [] (bu.ofList [.nilFunc])):=nP (i:=DY) (by kernel_rfl) rfl
theorem u5:dz J 169=some (λid=>aa.ptr id 0,.cells ([.bool false,.bool false,.bool false,.bool false,.int .i64 0] :List aa).length false [] (bu.ofList [.bool false,.bool false,.bool false,.bool false,.int .i64 0])):=nP (i:=w1) (by kernel_rfl) rfl
theorem r_:dz J 178=some (λid=>aa.ptr id 0,.cells ([.int .i64 0,.bool false,.bool false,.bool false,.bool false,.int .i64 0] :List aa).length false [] (bu.ofList [.int .i64 0,.bool false,.bool false,.bool false,.bool false,.int .i64 0])):=nP (i:=tC) (by kernel_rfl) rfl
theorem DF:dz J 182=some (λid=>aa.ptr id 0,.cells ([.int .i64 0,.int .i64 0] :List aa).length false [] (bu.ofList [.int .i64 0,.int .i64 0])):=nP (i:=sf) (by kernel_rfl) rfl
theorem DG:dz J 204=some (λid=>aa.ptr id 0,.cells ([.str 0 0,.int .i64 0,.bI] :List aa).length false [] (bu.ofList [.str 0 0,.int .i64 0,.bI])):=nP (i:=A_) (by kernel_rfl) rfl
theorem apG:dz J 206=some (λid=>aa.ptr id 0,.cells ([.int .i64 0,.int .i64 0] :List aa).length false [] (bu.ofList [.int .i64 0,.int .i64 0])):=nP (i:=vb) (by kernel_rfl) rfl
theorem yC{v:aa}{cs:List aa}(aH:v.cells=cs) :c9 J 3 v=some (λid=>aa.ptr id 0,.cells cs.length false [] (bu.ofList cs)):=kQ (i:=lA) (by kernel_rfl) rfl aH
theorem Yl{v:aa}{cs:List aa}(aH:v.cells=cs) :c9 J 9 v=some (λid=>aa.ptr id 0,.cells cs.length false [] (bu.ofList cs)):=kQ (i:=oz) (by kernel_rfl) rfl aH
theorem Og{v:aa}{cs:List aa}(aH:v.cells=cs) :c9 J 32 v=some (λid=>aa.ptr id 0,.cells cs.length false [] (bu.ofList cs)):=kQ (i:=yJ) (by kernel_rfl) rfl aH
theorem apX{v:aa}{cs:List aa}(aH:v.cells=cs) :c9 J 42 v=some (λid=>aa.ptr id 0,.cells cs.length false [] (bu.ofList cs)):=kQ (i:=Ba) (by kernel_rfl) rfl aH
theorem r'{v:aa}{cs:List aa}(aH:v.cells=cs) :c9 J 47 v=some (λid=>aa.ptr id 0,.cells cs.length false [] (bu.ofList cs)):=kQ (i:=p6) (by kernel_rfl) rfl aH
theorem apY{v:aa}{cs:List aa}(aH:v.cells=cs) :c9 J 48 v=some (λid=>aa.ptr id 0,.cells cs.length false [] (bu.ofList cs)):=kQ (i:=p7) (by kernel_rfl) rfl aH
theorem apM{v:aa}{cs:List aa}(aH:v.cells=cs) :c9 J 152 v=some (λid=>aa.ptr id 0,.cells cs.length false [] (bu.ofList cs)):=kQ (i:=w0) (by kernel_rfl) rfl aH
theorem apN{v:aa}{cs:List aa}(aH:v.cells=cs) :c9 J 153 v=some (λid=>aa.ptr id 0,.cells cs.length false [] (bu.ofList cs)):=kQ (i:=DT) (by kernel_rfl) rfl aH
theorem Oe{v:aa}{cs:List aa}(aH:v.cells=cs) :c9 J 154 v=some (λid=>aa.ptr id 0,.cells cs.length false [] (bu.ofList cs)):=kQ (i:=DU) (by kernel_rfl) rfl aH
theorem apP{v:aa}{cs:List aa}(aH:v.cells=cs) :c9 J 157 v=some (λid=>aa.ptr id 0,.cells cs.length false [] (bu.ofList cs)):=kQ (i:=A9) (by kernel_rfl) rfl aH
theorem apQ{v:aa}{cs:List aa}(aH:v.cells=cs) :c9 J 161 v=some (λid=>aa.ptr id 0,.cells cs.length false [] (bu.ofList cs)):=kQ (i:=DV) (by kernel_rfl) rfl aH
theorem u6{v:aa}{cs:List aa}(aH:v.cells=cs) :c9 J 169 v=some (λid=>aa.ptr id 0,.cells cs.length false [] (bu.ofList cs)):=kQ (i:=w1) (by kernel_rfl) rfl aH
theorem apR{v:aa}{cs:List aa}(aH:v.cells=cs) :c9 J 178 v=some (λid=>aa.ptr id 0,.cells cs.length false [] (bu.ofList cs)):=kQ (i:=tC) (by kernel_rfl) rfl aH
theorem Of{v:aa}{cs:List aa}(aH:v.cells=cs) :c9 J 182 v=some (λid=>aa.ptr id 0,.cells cs.length false [] (bu.ofList cs)):=kQ (i:=sf) (by kernel_rfl) rfl aH
theorem apS{v:aa}{cs:List aa}(aH:v.cells=cs) :c9 J 272 v=some (λid=>aa.ptr id 0,.cells cs.length false [] (bu.ofList cs)):=kQ (i:=OJ) (by kernel_rfl) rfl aH
theorem apV{v:aa}{cs:List aa}(aH:v.cells=cs) :c9 J 298 v=some (λid=>aa.ptr id 0,.cells cs.length false [] (bu.ofList cs)):=kQ (i:=ON) (by kernel_rfl) rfl aH
theorem apW{v:aa}{cs:List aa}(aH:v.cells=cs) :c9 J 366 v=some (λid=>aa.ptr id 0,.cells cs.length false [] (bu.ofList cs)):=kQ (i:=H8) (by kernel_rfl) rfl aH
@[simp] theorem A1 (id off:Nat) :aQ J 47 (.ptr id off) 0=some (.ptr id off):=by kernel_rfl
@[simp] theorem yD (id off:Nat) :aQ J 47 (.ptr id off) 1=some (.ptr id (off+1)):=by kernel_rfl
@[simp] theorem H2 (id off:Nat) :aQ J 47 (.ptr id off) 2=some (.ptr id (off+2)):=by kernel_rfl
@[simp] theorem sa (id off:Nat) :aQ J 47 (.ptr id off) 3=some (.ptr id (off+3)):=by kernel_rfl
@[simp] theorem Oq (id off:Nat) :aQ J 47 (.ptr id off) 4=some (.ptr id (off+4)):=by kernel_rfl
@[simp] theorem Ot (id off:Nat) :aQ J 47 (.ptr id off) 5=some (.ptr id (off+5)):=by kernel_rfl
@[simp] theorem k7 (id off:Nat) :aQ J 156 (.ptr id off) 0=some (.ptr id off):=by kernel_rfl
@[simp] theorem DH (id off:Nat) :aQ J 156 (.ptr id off) 2=some (.ptr id (off+2)):=by kernel_rfl
@[simp] theorem tv (id off:Nat) :aQ J 156 (.ptr id off) 3=some (.ptr id (off+3)):=by kernel_rfl
@[simp] theorem AZ (id off:Nat) :aQ J 156 (.ptr id off) 4=some (.ptr id (off+4)):=by kernel_rfl
@[simp] theorem qW (id off:Nat) :aQ J 161 (.ptr id off) 0=some (.ptr id off):=by kernel_rfl
@[simp] theorem qX (id off:Nat) :aQ J 161 (.ptr id off) 1=some (.ptr id (off+1)):=by kernel_rfl
@[simp] theorem Oh (id off:Nat) :aQ J 161 (.ptr id off) 2=some (.ptr id (off+2)):=by kernel_rfl
@[simp] theorem lZ (id off:Nat) :aQ J 169 (.ptr id off) 0=some (.ptr id off):=by kernel_rfl
@[simp] theorem ow (id off:Nat) :aQ J 169 (.ptr id off) 1=some (.ptr id (off+1)):=by kernel_rfl
@[simp] theorem ox (id off:Nat) :aQ J 169 (.ptr id off) 2=some (.ptr id (off+2)):=by kernel_rfl
@[simp] theorem tw (id off:Nat) :aQ J 169 (.ptr id off) 3=some (.ptr id (off+3)):=by kernel_rfl
@[simp] theorem l0 (id off:Nat) :aQ J 169 (.ptr id off) 4=some (.ptr id (off+4)):=by kernel_rfl
@[simp] theorem HW (id off:Nat) :aQ J 178 (.ptr id off) 0=some (.ptr id off):=by kernel_rfl
@[simp] theorem qY (id off:Nat) :aQ J 178 (.ptr id off) 1=some (.ptr id (off+1)):=by kernel_rfl
@[simp] theorem ap2 (id off:Nat) :aQ J 182 (.ptr id off) 0=some (.ptr id off):=by kernel_rfl
@[simp] theorem ap3 (id off:Nat) :aQ J 182 (.ptr id off) 1=some (.ptr id (off+1)):=by kernel_rfl
@[simp] theorem HX (id off:Nat) :aQ J 204 (.ptr id off) 1=some (.ptr id (off+1)):=by kernel_rfl
@[simp] theorem Oj (id off:Nat) :aQ J 204 (.ptr id off) 2=some (.ptr id (off+2)):=by kernel_rfl
@[simp] theorem Yn (id off:Nat) :aQ J 206 (.ptr id off) 0=some (.ptr id off):=by kernel_rfl
@[simp] theorem Yo (id off:Nat) :aQ J 206 (.ptr id off) 1=some (.ptr id (off+1)):=by kernel_rfl
@[simp] theorem ap5 (id off:Nat) :aQ J 234 (.ptr id off) 0=some (.ptr id off):=by kernel_rfl
@[simp] theorem HY (id off:Nat) :aQ J 234 (.ptr id off) 2=some (.ptr id (off+2)):=by kernel_rfl
@[simp] theorem Yp (id off:Nat) :aQ J 244 (.ptr id off) 0=some (.ptr id off):=by kernel_rfl
@[simp] theorem Ol (id off:Nat) :aQ J 244 (.ptr id off) 1=some (.ptr id (off+1)):=by kernel_rfl
@[simp] theorem ap7 (id off:Nat) :aQ J 244 (.ptr id off) 2=some (.ptr id (off+2)):=by kernel_rfl
@[simp] theorem ap8 (id off:Nat) :aQ J 244 (.ptr id off) 3=some (.ptr id (off+3)):=by kernel_rfl
@[simp] theorem wW (id off:Nat) :aQ J 272 (.ptr id off) 0=some (.ptr id off):=by kernel_rfl
@[simp] theorem Om (id off:Nat) :aQ J 272 (.ptr id off) 1=some (.ptr id (off+1)):=by kernel_rfl
@[simp] theorem HZ (id off:Nat) :aQ J 272 (.ptr id off) 2=some (.ptr id (off+2)):=by kernel_rfl
@[simp] theorem Yq (id off:Nat) :aQ J 288 (.ptr id off) 0=some (.ptr id off):=by kernel_rfl
@[simp] theorem Yr (id off:Nat) :aQ J 288 (.ptr id off) 1=some (.ptr id (off+1)):=by kernel_rfl
@[simp] theorem tx (id off:Nat) :aQ J 288 (.ptr id off) 2=some (.ptr id (off+2)):=by kernel_rfl
@[simp] theorem DI (id off:Nat) :aQ J 288 (.ptr id off) 3=some (.ptr id (off+3)):=by kernel_rfl
@[simp] theorem A0 (id off:Nat) :aQ J 295 (.ptr id off) 0=some (.ptr id off):=by kernel_rfl
@[simp] theorem ap9 (id off:Nat) :aQ J 295 (.ptr id off) 1=some (.ptr id (off+1)):=by kernel_rfl
@[simp] theorem DJ (id off:Nat) :aQ J 295 (.ptr id off) 2=some (.ptr id (off+2)):=by kernel_rfl
@[simp] theorem wX (id off:Nat) :aQ J 295 (.ptr id off) 3=some (.ptr id (off+3)):=by kernel_rfl
@[simp] theorem On (id off:Nat) :aQ J 295 (.ptr id off) 4=some (.ptr id (off+4)):=by kernel_rfl
@[simp] theorem ap_ (id off:Nat) :aQ J 295 (.ptr id off) 5=some (.ptr id (off+5)):=by kernel_rfl
@[simp] theorem ap' (id off:Nat) :aQ J 295 (.ptr id off) 6=some (.ptr id (off+6)):=by kernel_rfl
@[simp] theorem Oo (id off:Nat) :aQ J 298 (.ptr id off) 0=some (.ptr id off):=by kernel_rfl
@[simp] theorem H0 (id off:Nat) :aQ J 298 (.ptr id off) 1=some (.ptr id (off+2)):=by kernel_rfl
@[simp] theorem Ys (id off:Nat) :aQ J 298 (.ptr id off) 2=some (.ptr id (off+3)):=by kernel_rfl
theorem tz{id off n:Nat}(aw:n<4) :cZ J 22 (.ptr id off) (.int .i64 n)=some (.ptr id (off+n)):=by have:=UY (E:=J) (t:=22) (i:=A') (ie:=lA) (by kernel_rfl) rfl (by kernel_rfl) aw (id:=id) (off:=off);rwa[show off+n*lA.size=off+n by show off+n*1=_;omega]at this
theorem qZ{id off len cap n:Nat}{ex:Bool}(aw:n<len) :cZ J 64 (.slice id off len cap 1 ex) (.int .i64 n)=some (.ptr id (off+n)):=by have:=uE (E:=J) (t:=64) (i:=vc) (ie:=lA) (by kernel_rfl) rfl (by kernel_rfl) aw (id:=id) (off:=off) (cap:=cap) (ex:=ex);rwa[show off+n*lA.size=off+n by show off+n*1=_;omega]at this
theorem DL{id off len cap n:Nat}{ex:Bool}(aw:n<len) :cZ J 75 (.slice id off len cap 1 ex) (.int .i64 n)=some (.ptr id (off+n)):=by have:=uE (E:=J) (t:=75) (i:=q5) (ie:=p7) (by kernel_rfl) rfl (by kernel_rfl) aw (id:=id) (off:=off) (cap:=cap) (ex:=ex);rwa[show off+n*p7.size=off+n by show off+n*1=_;omega]at this
theorem Yu{id off len cap n:Nat}{ex:Bool}(aw:n<len) :cZ J 126 (.slice id off len cap 6 ex) (.int .i64 n)=some (.ptr id (off+n*6)):=uE (E:=J) (t:=126) (i:=p5) (ie:=p6) (by kernel_rfl) rfl (by kernel_rfl) aw
theorem Ou{id off len cap n:Nat}{ex:Bool}(aw:n<len) :cZ J 175 (.slice id off len cap 6 ex) (.int .i64 n)=some (.ptr id (off+n*6)):=uE (E:=J) (t:=175) (i:=sc) (ie:=tC) (by kernel_rfl) rfl (by kernel_rfl) aw
theorem aqa{id off len cap n:Nat}{ex:Bool}(aw:n<len) :cZ J 179 (.slice id off len cap 2 ex) (.int .i64 n)=some (.ptr id (off+n*2)):=uE (E:=J) (t:=179) (i:=DW) (ie:=sf) (by kernel_rfl) rfl (by kernel_rfl) aw
theorem DK{id off len cap n:Nat}{ex:Bool}(aw:n<len) :cZ J 197 (.slice id off len cap 3 ex) (.int .i64 n)=some (.ptr id (off+n*3)):=uE (E:=J) (t:=197) (i:=yI) (ie:=A_) (by kernel_rfl) rfl (by kernel_rfl) aw
theorem Yv{id off len cap n:Nat}{ex:Bool}(aw:n<len) :cZ J 202 (.slice id off len cap 2 ex) (.int .i64 n)=some (.ptr id (off+n*2)):=uE (E:=J) (t:=202) (i:=sg) (ie:=vb) (by kernel_rfl) rfl (by kernel_rfl) aw
theorem Ov{id off len cap n:Nat}{ex:Bool}(aw:n<len) :cZ J 293 (.slice id off len cap 1 ex) (.int .i64 n)=some (.ptr id (off+n)):=by have:=uE (E:=J) (t:=293) (i:=q3) (ie:=q4) (by kernel_rfl) rfl (by kernel_rfl) aw (id:=id) (off:=off) (cap:=cap) (ex:=ex);rwa[show off+n*q4.size=off+n by show off+n*1=_;omega]at this
@[simp] theorem wZ (h:ae) (id off len cap cT:Nat) (ex:Bool) :dw J h 64 (.slice id off len cap cT ex)=some (.int .i64 len):=ye (i:=vc) (by kernel_rfl) rfl h id off len cap cT ex
@[simp] theorem aqj (h:ae) (id off len cap cT:Nat) (ex:Bool) :dw J h 75 (.slice id off len cap cT ex)=some (.int .i64 len):=ye (i:=q5) (by kernel_rfl) rfl h id off len cap cT ex
@[simp] theorem YA (h:ae) (id off len cap cT:Nat) (ex:Bool) :dw J h 126 (.slice id off len cap cT ex)=some (.int .i64 len):=ye (i:=p5) (by kernel_rfl) rfl h id off len cap cT ex
@[simp] theorem YB (h:ae) :dw J h 126 .bI=some (.int .i64 0):=Mf (i:=p5) (by kernel_rfl) rfl h
@[simp] theorem aqi (h:ae) (id off len cap cT:Nat) (ex:Bool) :dw J h 135 (.slice id off len cap cT ex)=some (.int .i64 len):=ye (i:=nK) (by kernel_rfl) rfl h id off len cap cT ex
@[simp] theorem YC (h:ae) (id off len cap cT:Nat) (ex:Bool) :dw J h 293 (.slice id off len cap cT ex)=some (.int .i64 len):=ye (i:=q3) (by kernel_rfl) rfl h id off len cap cT ex
@[simp] theorem DQ (h:ae) (a b:Nat) :ax J h .eql 32 (.ptr a b) .nilPtr=some (.bool false):=r5 (i:=yJ) (by kernel_rfl) rfl h a b
@[simp] theorem p4 (h:ae) (a b:Nat) :ax J h .eql 42 (.ptr a b) .nilPtr=some (.bool false):=r5 (i:=Ba) (by kernel_rfl) rfl h a b
@[simp] theorem YF (h:ae) (a b:Nat) :ax J h .eql 48 (.ptr a b) .nilPtr=some (.bool false):=r5 (i:=p7) (by kernel_rfl) rfl h a b
@[simp] theorem YD (h:ae) (a b:Nat) :ax J h .eql 152 (.ptr a b) .nilPtr=some (.bool false):=r5 (i:=w0) (by kernel_rfl) rfl h a b
@[simp] theorem aqm (h:ae) (a b:Nat) :ax J h .neq 152 (.ptr a b) .nilPtr=some (.bool true):=No (i:=w0) (by kernel_rfl) rfl h a b
@[simp] theorem A5 (h:ae) (a b:Nat) :ax J h .eql 153 (.ptr a b) .nilPtr=some (.bool false):=r5 (i:=DT) (by kernel_rfl) rfl h a b
@[simp] theorem A6 (h:ae) (a b:Nat) :ax J h .eql 154 (.ptr a b) .nilPtr=some (.bool false):=r5 (i:=DU) (by kernel_rfl) rfl h a b
@[simp] theorem YE (h:ae) (a b:Nat) :ax J h .eql 157 (.ptr a b) .nilPtr=some (.bool false):=r5 (i:=A9) (by kernel_rfl) rfl h a b
@[simp] theorem aqn (h:ae) (a b:Nat) :ax J h .neq 157 (.ptr a b) .nilPtr=some (.bool true):=No (i:=A9) (by kernel_rfl) rfl h a b
section
set_option maxRecDepth 100000
variable{PV:cn} [cN PV]
def Rh(a0:aa)(C:bW)(h:ae) :Option a1:=U (ax J h .eql 152 a0 .nilPtr) λv1=>bq v1 (some (.ret,[(.int .i64 0)],h)) (U (bB a0) λv2=>U (aQ J 268 v2 2) λv3=>U (ak J h 3 v3) λv4=>some (.ret,[v4],h))
theorem ako{a0:aa} :LT PV 80 [a0] (Rh a0):=
 cc (f:=Tryz.f80) (.seq (.ah []) (.seq (.seq (.ah []) (.cond (.seq (.ah []) .leaf) .leaf)) (.seq (.ah []) .leaf))) (by kernel_rfl) (b' rfl (by kernel_rfl)) λ_ _=>by kernel_rfl
def Rs(a0:aa)(C:bW)(h:ae) :Option a1:=U (ax J h .eql 152 a0 .nilPtr) λv1=>bq v1 (some (.ret,[(.int .i64 0)],h)) (U (bB a0) λv2=>U (aQ J 268 v2 1) λv3=>U (ak J h 64 v3) λv4=>U (dw J h 64 v4) λv5=>some (.ret,[v5],h))
theorem akz{a0:aa} :LT PV 92 [a0] (Rs a0):=
 cc (f:=Tryz.f92) (.seq (.ah []) (.seq (.seq (.ah []) (.cond (.seq (.ah []) .leaf) .leaf)) (.seq (.ah []) .leaf))) (by kernel_rfl) (b' rfl (by kernel_rfl)) λ_ _=>by kernel_rfl
def Rx(a0 ao:aa)(C:bW)(h:ae) :Option a1:=U (ax J h .eql 152 a0 .nilPtr) λv1=>bG (b7 v1 false (U (ax J h .lss 3 ao (.int .i64 0)) λv2=>some (.normal,[v2],h)) (some (.normal,[.undef],h))) λ_ aK h1=>a_ aK λv3 eJ=>br eJ (U (bZ v1 (.bool true) v3) λv4=>bG (b7 v4 false (U (bB a0) λv5=>U (aQ J 268 v5 1) λv6=>U (ak J h1 64 v6) λbl=>U (dw J h1 64 bl) λbA=>U (ax J h1 .geq 3 ao bA) λv9=>some (.normal,[v9],h1)) (some (.normal,[.undef],h1))) λ_ aK ab=>a_ aK λv10 fN=>br fN (U (bZ v4 (.bool true) v10) λv11=>bq v11 (some (.ret,[(.int .i64 0)],ab)) (U (bB a0) λv12=>U (aQ J 268 v12 1) λcd=>U (ak J ab 64 cd) λb9=>U (cZ J 64 b9 ao) λch=>U (ak J ab 3 ch) λcj=>some (.ret,[cj],ab))))
theorem akE{a0 ao:aa} :LT PV 98 [a0,ao] (Rx a0 ao):=
 cc (f:=Tryz.f98) (.seq (.ah []) (.seq (.seq (.ah [[9],[18]]) (.cond (.seq (.ah []) .leaf) .leaf)) (.seq (.ah []) .leaf))) (by kernel_rfl) (b' rfl (by kernel_rfl)) λ_ _=>by kernel_rfl
def Qm(a0 ao a2:aa)(C:bW)(h:ae) :Option a1:=U (ak J (ae.aB h 10) 152 ao) λv1=>U (bB v1) λv2=>U (aQ J 268 v2 1) λv3=>U (ak J (ae.aB h 10) 64 v3) λv4=>U (ak J (ae.aB h 10) 3 a2) λv5=>U (cZ J 64 v4 v5) λv6=>U (ak J (ae.aB h 10) 3 v6) λbl=>U (ax J (ae.aB h 10) .add 3 bl (.int .i64 1)) λbA=>U (cZ J 64 v4 v5) λv9=>U (bN J (ae.aB h 10) 3 v9 bA) λh1=>bx [] (λg=>ak J g 3 v6) bl (bx [] (λg=>ak J g 3 a2) v5 (bx [] (λg=>ak J g 64 v3) v4 (bx [] (λg=>ak J g 152 ao) v1 (some (.ret,[(.int .i64 0)],h1)))))
theorem ajs{a0 ao a2:aa} :LT PV 184 [a0,ao,a2] (Qm a0 ao a2):=
 cc (f:=Tryz.f184) (.seq (.ah []) (.seq .drawn (.seq (.ah []) .leaf))) (by kernel_rfl) (b' rfl (by kernel_rfl)) λ_ _=>by kernel_rfl
def PR(a0 ao:aa)(C:bW)(h:ae) :Option a1:=ca (c9 J 152 a0) h λv1 h1=>ca (c9 J 3 ao) h1 λv2 ab=>U (ak J ab 152 v1) λv3=>U (ak J ab 3 v2) λv4=>a7 (C (.func 183 [] []) [v3,v4,(.func 184 [] [v1,v2])] ab) λv5 al=>some (.ret,[v5],al)
theorem aiX{a0 ao:aa} :LT PV 110 [a0,ao] (PR a0 ao):=
 cc (f:=Tryz.f110) (.seq (.ah []) (.seq (.ah []) .leaf)) (by kernel_rfl) (b' rfl (by kernel_rfl)) λ_ _=>by kernel_rfl
def IM(a0 ao a2:aa)(C:bW)(h:ae) :Option a1:=U (ak J (ae.aB h 10) 152 ao) λv1=>U (bB v1) λv2=>U (aQ J 268 v2 1) λv3=>U (ak J (ae.aB h 10) 64 v3) λv4=>U (ak J (ae.aB h 10) 3 a2) λv5=>U (cZ J 64 v4 v5) λv6=>U (ak J (ae.aB h 10) 3 v6) λbl=>U (ax J (ae.aB h 10) .sub 3 bl (.int .i64 1)) λbA=>U (cZ J 64 v4 v5) λv9=>U (bN J (ae.aB h 10) 3 v9 bA) λh1=>bx [] (λg=>ak J g 3 v6) bl (bx [] (λg=>ak J g 3 a2) v5 (bx [] (λg=>ak J g 64 v3) v4 (bx [] (λg=>ak J g 152 ao) v1 (U (ak J (ae.aB h1 8) 152 ao) λv10=>U (bB v10) λv11=>U (aQ J 268 v11 1) λv12=>U (ak J (ae.aB h1 8) 64 v12) λcd=>U (ak J (ae.aB h1 8) 3 a2) λb9=>U (cZ J 64 cd b9) λch=>U (ak J (ae.aB h1 8) 3 ch) λcj=>U (ax J (ae.aB h1 8) .eql 3 cj (.int .i64 0)) λcC=>bx [] (λg=>ak J g 3 ch) cj (bx [] (λg=>ak J g 3 a2) b9 (bx [] (λg=>ak J g 64 v12) cd (bx [] (λg=>ak J g 152 ao) v10 (bG (bq cC (U (ak J (ae.aB h1 8) 152 ao) λcx=>U (bB cx) λcL=>U (aQ J 268 cL 2) λv20=>U (ak J (ae.aB h1 8) 3 v20) λv21=>U (ax J (ae.aB h1 8) .add 3 v21 (.int .i64 1)) λv22=>U (bB cx) λv23=>U (aQ J 268 v23 2) λv24=>U (bN J (ae.aB h1 8) 3 v24 v22) λab=>some (.normal,[],ab)) (some (.normal,[],(ae.aB h1 8)))) λjS aK al=>br aK (jF jS (some (.ret,[(.int .i64 0)],al)) (some (.ret,[(.int .i64 0)],al)) λi=>none)))))))))
theorem Vp{a0 ao a2:aa} :LT PV 263 [a0,ao,a2] (IM a0 ao a2):=
 cc (f:=Tryz.f263) (.seq (.ah []) (.seq .drawn (.seq (.seq .drawn (.cut [] [] (.cond (.ah []) .leaf))) (.seq (.ah []) .leaf)))) (by kernel_rfl) (b' rfl (by kernel_rfl)) λ_ _=>by kernel_rfl
def IH(a0 ao:aa)(C:bW)(h:ae) :Option a1:=ca (c9 J 152 a0) h λv1 h1=>ca (c9 J 3 ao) h1 λv2 ab=>U (ak J ab 152 v1) λv3=>U (ak J ab 3 v2) λv4=>a7 (C (.func 183 [] []) [v3,v4,(.func 263 [] [v1,v2])] ab) λv5 al=>some (.ret,[v5],al)
theorem Vk{a0 ao:aa} :LT PV 175 [a0,ao] (IH a0 ao):=
 cc (f:=Tryz.f175) (.seq (.ah []) (.seq (.ah []) .leaf)) (by kernel_rfl) (b' rfl (by kernel_rfl)) λ_ _=>by kernel_rfl
def QV(a0 ao:aa)(C:bW)(h:ae) :Option a1:=U (gB J h 135 9 a0) λv1=>U (bN J h 9 ao v1) λh1=>some (.ret,[(.int .i64 0)],h1)
theorem aj3{a0 ao:aa} :LT PV 305 [a0,ao] (QV a0 ao):=
 cc (f:=Tryz.f305) (.seq (.ah []) (.seq (.ah []) (.seq (.ah []) .leaf))) (by kernel_rfl) (b' rfl (by kernel_rfl)) λ_ _=>by kernel_rfl
def Qv(a0 ao:aa)(C:bW)(h:ae) :Option a1:=ca (dz J 9) h λv1 h1=>U (bN J h1 9 v1 (.str 0 0)) λab=>a7 (C (.func 183 [] []) [a0,ao,(.func 305 [] [v1])] ab) λv2 al=>U (ak J al 9 v1) λv3=>some (.ret,[v3,v2],al)
theorem ajB{a0 ao:aa} :LT PV 227 [a0,ao] (Qv a0 ao):=
 cc (f:=Tryz.f227) (.seq (.ah []) (.seq (.ah []) (.seq (.ah []) (.seq (.ah []) .leaf)))) (by kernel_rfl) (b' rfl (by kernel_rfl)) λ_ _=>by kernel_rfl
def Q8(a0 ao:aa)(C:bW)(h:ae) :Option a1:=U (ak J h 9 ao) λv1=>U (dw J h 9 v1) λv2=>U (ax J h .neq 3 v2 (.int .i64 64)) λv3=>bq v3 (some (.ret,[(.int .i64 1)],h)) (U (ak J h 9 ao) λv4=>a7 (pg J h 135 a0 v4) λv5 h1=>some (.ret,[(.int .i64 0)],h1))
theorem ake{a0 ao:aa} :LT PV 379 [a0,ao] (Q8 a0 ao):=
 cc (f:=Tryz.f379) (.seq (.ah []) (.seq (.seq (.ah []) (.cond (.seq (.ah []) .leaf) .leaf)) (.seq (.ah []) (.seq (.ah []) .leaf)))) (by kernel_rfl) (b' rfl (by kernel_rfl)) λ_ _=>by kernel_rfl
def Q0(a0 ao a2:aa)(C:bW)(h:ae) :Option a1:=ca (c9 J 9 a2) h λv1 h1=>a7 (C (.func 183 [] []) [a0,ao,(.func 379 [] [v1])] h1) λv2 ab=>some (.ret,[v2],ab)
theorem aj8{a0 ao a2:aa} :LT PV 319 [a0,ao,a2] (Q0 a0 ao a2):=
 cc (f:=Tryz.f319) (.seq (.ah []) (.seq (.ah []) .leaf)) (by kernel_rfl) (b' rfl (by kernel_rfl)) λ_ _=>by kernel_rfl
def Q2(a0 ao a2:aa)(C:bW)(h:ae) :Option a1:=U (ak J h 152 ao) λv1=>a7 (C (.func 159 [] []) [v1] h) λv2 h1=>U (cm v2 0) λv3=>U (cm v2 1) λv4=>U (ax J h1 .eql 29 v4 (.int .i64 0)) λv5=>bG (bq v5 (U (ak J h1 152 ao) λv6=>a7 (C (.func 241 [] []) [v6,v3] h1) λbl ab=>a7 (pg J ab 135 bl a0) λbA al=>U (bN J al 3 a2 v3) λaE=>some (.normal,[],aE)) (some (.normal,[],h1))) λkH aK aL=>br aK (jF kH (some (.ret,[v4],aL)) (some (.ret,[(.int .i64 0)],aL)) λi=>none)
theorem aj_{a0 ao a2:aa} :LT PV 320 [a0,ao,a2] (Q2 a0 ao a2):=
 cc (f:=Tryz.f320) (.seq (.ah []) (.seq (.ah []) (.seq (.seq (.ah []) (.cut [] [] (.cond (.seq (.ah []) (.ah [])) .leaf))) (.seq (.ah []) .leaf)))) (by kernel_rfl) (b' rfl (by kernel_rfl)) λ_ _=>by kernel_rfl
def QH(a0 ao:aa)(C:bW)(h:ae) :Option a1:=ca (c9 J 152 a0) h λv1 h1=>ca (dz J 3) h1 λv2 ab=>U (bN J ab 3 v2 (.int .i64 0)) λal=>U (ak J al 152 v1) λv3=>a7 (C (.func 183 [] []) [v3,ao,(.func 320 [] [v1,v2])] al) λv4 aE=>U (ak J aE 3 v2) λv5=>some (.ret,[v5,v4],aE)
theorem ajN{a0 ao:aa} :LT PV 248 [a0,ao] (QH a0 ao):=
 cc (f:=Tryz.f248) (.seq (.ah []) (.seq (.ah []) (.seq (.ah []) (.seq (.ah []) .leaf)))) (by kernel_rfl) (b' rfl (by kernel_rfl)) λ_ _=>by kernel_rfl
def Qs(a0 ao:aa)(C:bW)(h:ae) :Option a1:=U (pP ao [(.int .i64 0)]) λv1=>U (rX v1 [(.int .i64 8)]) λv2=>ca (mn J 135 v2 v2) h λv3 h1=>U (dw J h1 135 v3) λv4=>bG (eM 14 (λaK ab=>a_ aK λv5 gf=>br gf (U (ax J ab .lss 3 v5 v4) λv6=>bq v6 (U (ax J ab .mul 3 (.int .i64 8) v5) λbl=>U (ax J ab .shr 67 a0 bl) λbA=>U (gB J ab 67 5 bA) λv9=>U (cZ J 135 v3 v5) λv10=>U (bN J ab 5 v10 v9) λaE=>U (ax J aE .add 3 v5 (.int .i64 1)) λv11=>some (.normal,[v11],aE)) (some ((.exit 0),[v5],ab)))) [(.int .i64 0)] h1) λjS aK al=>a_ aK λv12 q9=>br q9 (gD 0 jS (U (gB J al 135 9 v3) λcd=>some (.ret,[cd],al)) (some (.ret,[(.str 0 0)],al)) λi=>none)
theorem ajy{a0 ao:aa} :LT PV 214 [a0,ao] (Qs a0 ao):=
 cc (f:=Tryz.f214) (.seq (.ah []) (.seq (.ah []) (.seq (.seq (.ah []) (.loop [13] [] (.seq (.ah []) (.seq (.cond .leaf .leaf) (.seq (.dW (.seq (.ah []) (.ah []))) (.ah [])))))) (.seq (.ah []) .leaf)))) (by kernel_rfl) (b' rfl (by kernel_rfl)) λ_ _=>by kernel_rfl
def QL(a0 ao:aa)(C:bW)(h:ae) :Option a1:=a7 (C (.func 254 [] []) [a0] h) λv1 h1=>a7 (C (.func 214 [] []) [ao,v1] h1) λv2 ab=>some (.ret,[v2],ab)
theorem ajR{a0 ao:aa} :LT PV 252 [a0,ao] (QL a0 ao):=
 cc (f:=Tryz.f252) (.seq (.ah []) (.seq (.ah []) .leaf)) (by kernel_rfl) (b' rfl (by kernel_rfl)) λ_ _=>by kernel_rfl
def QK(a0 ao a2:aa)(C:bW)(h:ae) :Option a1:=U (ak J h 3 ao) λv1=>U (ak J h 67 a2) λv2=>a7 (C (.func 252 [] []) [v1,v2] h) λv3 h1=>a7 (pg J h1 135 a0 v3) λv4 ab=>some (.ret,[],ab)
theorem ajQ{a0 ao a2:aa} :LT PV 251 [a0,ao,a2] (QK a0 ao a2):=
 cc (f:=Tryz.f251) (.ah []) (by kernel_rfl) (b' rfl (by kernel_rfl)) λ_ _=>by kernel_rfl
def Qa(a0 ao a2 a3 a4:aa)(C:bW)(h:ae) :Option a1:=ca (c9 J 3 a3) h λv1 h1=>ca (c9 J 67 a4) h1 λv2 ab=>U (ak J ab 3 v1) λv3=>a7 (C (.func 168 [] []) [a0,ao,a2,v3,(.func 251 [] [v1,v2])] ab) λv4 al=>some (.ret,[v4],al)
theorem ajf{a0 ao a2 a3 a4:aa} :LT PV 167 [a0,ao,a2,a3,a4] (Qa a0 ao a2 a3 a4):=
 cc (f:=Tryz.f167) (.seq (.ah []) (.seq (.ah []) .leaf)) (by kernel_rfl) (b' rfl (by kernel_rfl)) λ_ _=>by kernel_rfl
def IF(a0:aa)(C:bW)(h:ae) :Option a1:=U (ax J h .eql 152 a0 .nilPtr) λv1=>bq v1 (some (.ret,[(.int .i64 0),(.int .i64 1)],h)) (U (bB a0) λv2=>U (aQ J 268 v2 2) λv3=>U (ak J h 3 v3) λv4=>U (ax J h .eql 3 v4 (.int .i64 0)) λv5=>bq v5 (some (.ret,[(.int .i64 0),(.int .i64 18)],h)) (U (bB a0) λv6=>U (aQ J 268 v6 1) λbl=>U (ak J h 64 bl) λbA=>U (dw J h 64 bA) λv9=>bG (eM 14 (λaK h1=>a_ aK λv10 fN=>a_ fN λv11 mC=>br mC (U (ax J h1 .lss 3 v11 v9) λv12=>bq v12 (U (cZ J 64 bA v11) λcd=>U (ak J h1 3 cd) λb9=>U (ax J h1 .eql 3 b9 (.int .i64 0)) λch=>bq ch (some ((.exit 0),[v11,v11],h1)) (U (ax J h1 .add 3 v11 (.int .i64 1)) λcj=>some (.normal,[v10,cj],h1))) (some ((.exit 0),[v10,v11],h1)))) [(.int .i64 0),(.int .i64 0)] h) λeY aK ab=>a_ aK λcC p'=>a_ p' λcx qa=>br qa (gD 0 eY (a7 (C (.func 241 [] []) [a0,cC] ab) λcL al=>U (pf J al 135 cL) λaE=>U (bB a0) λv20=>U (aQ J 268 v20 1) λv21=>U (ak J aE 64 v21) λv22=>U (cZ J 64 v22 cC) λv23=>U (bN J aE 3 v23 (.int .i64 1)) λaL=>U (bB a0) λv24=>U (aQ J 268 v24 2) λv25=>U (ak J aL 3 v25) λv26=>U (ax J aL .sub 3 v26 (.int .i64 1)) λv27=>U (bB a0) λv28=>U (aQ J 268 v28 2) λv29=>U (bN J aL 3 v29 v27) λbm=>some (.ret,[cC,(.int .i64 0)],bm)) (some (.ret,[(.int .i64 0),(.int .i64 0)],ab)) λi=>none)))
theorem Vi{a0:aa} :LT PV 159 [a0] (IF a0):=
 cc (f:=Tryz.f159) (.seq (.ah []) (.wT (.seq (.seq (.ah []) (.cond (.seq (.ah []) .leaf) .leaf)) (.seq (.seq (.ah []) (.cond (.seq (.ah []) .leaf) .leaf)) (.seq (.ah []) (.seq .leaf (.seq (.seq (.ah []) (.loop [4,19] [] (.seq (.ah []) (.seq (.cond .leaf .leaf) (.seq (.dW (.seq (.ah []) (.seq (.ah []) (.cond (.seq (.ah []) .leaf) .leaf)))) (.ah [])))))) (.seq (.ah []) (.seq (.ah []) (.seq (.ah []) (.seq (.ah []) .leaf))))))))))) (by kernel_rfl) (b' rfl (by kernel_rfl)) λ_ _=>by kernel_rfl
end
section
variable{PV:cn} [cN PV]
theorem Dz{h:ae}{id off:Nat}(n:Int) :bN J h 3 (.ptr id off) (.int .i64 n)=j9 h id off [.int .i64 n]:=by
 have e:J.ty 3=some lA:=by kernel_rfl
 simp only[bN,storeT,e];rfl
section
variable{h:ae}{A:gw}{mem held:Nat->Nat}{free:Nat}
theorem NR(aI:er h A mem held free){f:Nat}(aJ:f<A.n)(v:Nat) :∃g,bN J h 3 (.ptr A.q f) (.int .i64 v)=some g/\er g A mem (az held f v) free/\aM (λi=>i=A.q) h g:=by
 obtain⟨ob,h1,ab⟩:=aI.arr.write (i:=f) (by simpa using aJ) (v:=.int .i64 v) rfl;refine⟨_,by rw[Dz];exact h1,?_,aM.put _ rfl⟩
 exact{
  n:=aI.n,lt:=aI.lt,ne:=aI.ne
  str:=let⟨aG,aT,o⟩:=aI.str;⟨aG,aT,o.pV (ke aI.ne.2.1)⟩
  bytes:=by rw[ke aI.ne.2.2];exact aI.bytes
  arr:=by
   have e:((List.range A.n).map λj=>aa.int .i64 (held j)).set f (.int .i64 v)=(List.range A.n).map λj=>aa.int .i64 (az (α:=Nat) held f v j:Nat):=by
    apply List.ext_getElem?;intro j;rw[List.getElem?_set];by_cases aO:f=j
    ·subst aO;simp[aJ,az]
    ·have py:¬j=f:=λe=>aO e.symm
     rw[if_neg aO];by_cases Cl:j<A.n
     ·simp[Cl,az,py]
     ·simp[Cl]
   rw[<-e]
   exact ab}
theorem XK(aI:er h A mem held free)(v:Nat) :∃g,bN J h 3 (.ptr A.p 2) (.int .i64 v)=some g/\er g A mem held v/\aM (λi=>i=A.p) h g:=by
 obtain⟨aG,aT,o⟩:=aI.str;obtain⟨ob,h1,ab⟩:=o.write (i:=2) (by simp) (v:=.int .i64 v) rfl;refine⟨_,by rw[Dz];exact h1,?_,aM.put _ rfl⟩
 exact{
  n:=aI.n,lt:=aI.lt,ne:=aI.ne
  str:=⟨aG,aT,ab⟩
  bytes:=by rw[ke (λe=>aI.ne.1 e.symm)];exact aI.bytes
  arr:=aI.arr.pV (ke (λe=>aI.ne.2.1 e.symm))}
theorem zz(aI:er h A mem held free) :call J PV (.func 80 [] []) [.ptr A.p 0] h=some (.int .i64 free,h):=by refine ako (x:=.ret) (vs:=[.int .i64 free]) (first:=[]) (cap:=[]) ?_ rfl;simp[Rh,Aw,zw,jM,aI.f2]
theorem aex(aI:er h A mem held free) :call J PV (.func 92 [] []) [.ptr A.p 0] h=some (.int .i64 A.n,h):=by obtain⟨ex,aF⟩:=aI.f1;refine akz (x:=.ret) (vs:=[.int .i64 A.n]) (first:=[]) (cap:=[]) ?_ rfl;simp[Rs,Aw,vS,wu,aF,GM]
theorem FO(aI:er h A mem held free){f:Nat}(aJ:f<A.n) :call J PV (.func 98 [] []) [.ptr A.p 0,.int .i64 f] h=some (.int .i64 (held f),h):=by
 obtain⟨ex,aF⟩:=aI.f1;refine akE (x:=.ret) (vs:=[.int .i64 (held f)]) (first:=[]) (cap:=[]) ?_ rfl;have h0:¬(f:Int) <0:=by omega
 have h1:¬(A.n:Int)<=f:=by omega
 simp[Rx,Aw,vS,wu,jM,aF,GM,h0,h1,wo f aJ,aI.hold f aJ]
theorem Jm(a b:Nat) :c9 J 152 (.ptr a b)=some (λid=>aa.ptr id 0,eV (.ptr a b)):=by kernel_rfl
theorem OF(h:ae)(a b:aa) :let g:=(h.new (eV a)).new (eV b)
  bf h g/\bP g h.next 0=some a/\bP g (h.next+1) 0=some b/\g.next=h.next+2:=by
 refine⟨(aM.new _ _ _).trans (aM.new _ _ _),?_,tq _ _,rfl⟩;rw[mw (by simp),tq]
theorem Lp(aI:er h A mem held free){f:Nat}(aJ:f<A.n)(aD:held f≠0)(aj:held f<2^60) :
  ∃g,call J PV (.func 110 [] []) [.ptr A.p 0,.int .i64 f] h=some (.int .i64 0,g)/\er g A mem (az held f (held f+1)) free/\aM (λi=>i=A.q) h g:=by
 obtain⟨bn,cS,dm,eN⟩:=OF h (.ptr A.p 0) (.int .i64 f);let ab:=(h.new (eV (.ptr A.p 0))).new (eV (.int .i64 f));have nw:er ab A mem held free:=aI.az bn ⟨λe=>e,λe=>e,λe=>e⟩;have pB:er (ab.aB 10) A mem held free:=nw.az (aM.aB (λ_=>False) ab 10) ⟨λe=>e,λe=>e,λe=>e⟩;obtain⟨g,s1,n',ia⟩:=NR pB aJ (held f+1);obtain⟨ex,aF⟩:=pB.f1;have b6:=aI.lt;refine⟨g,?_,n',?_⟩
 ·have aG:b0 .i64 ((held f:Int) +1)=((held f+1:Nat) :Int):=by rw[wrap_i64 (by omega) (by omega)];simp
  have hw:∀gi,call J PV (.func 184 [] [.ptr h.next 0,.ptr (h.next+1) 0]) [.slice A.b (64*f) 64 (64*A.n-64*f) 1 gi] ab=some (.int .i64 0,g):=λgi=>by refine ajs (x:=.ret) (vs:=[.int .i64 0]) (first:=[]) (mid:=[_]) (cap:=[_,_]) ?_ rfl;have uX:bP (ab.aB 10) h.next 0=some (.ptr A.p 0):=cS;have yq:bP (ab.aB 10) (h.next+1) 0=some (.int .i64 f):=dm;simp only[Qm,yc,wu,jM,uX,yq,ar,cl,vS,Nat.zero_add,aF,wo f aJ,pB.hold f aJ,du,aG,s1,eh]
  have pI:=w8 nw aJ aD hw;refine aiX (x:=.ret) (vs:=[.int .i64 0]) (first:=[]) (cap:=[]) ?_ rfl;simp only[PR,Jm,xe,oG,yc,jM];show U (bP ab h.next 0) _=_;rw[cS,ar];show U (bP ab (h.next+1) 0) _=_;rw[dm,ar];show a7 (call J PV (.func 183 [] []) [.ptr A.p 0,.int .i64 f,.func 184 [] [.ptr h.next 0,.ptr (h.next+1) 0]] ab) _=_;rw[pI];rfl
 ·exact((bn.mono λi _ e=>e.elim).trans (aM.aB _ ab 10)).trans ia
end
section
variable{h:ae}{A:gw}{mem held:Nat->Nat}{free:Nat}
theorem BM(aI:er h A mem held free){f:Nat}(aJ:f<A.n)(aD:held f≠0)(aj:held f<2^60)(fw:free<2^60) :
  ∃g,call J PV (.func 175 [] []) [.ptr A.p 0,.int .i64 f] h=some (.int .i64 0,g)/\er g A mem (az held f (held f-1)) (if held f=1 then free+1 else free)/\aM (λi=>i=A.q\/i=A.p) h g:=by
 obtain⟨bn,cS,dm,eN⟩:=OF h (.ptr A.p 0) (.int .i64 f);let ab:=(h.new (eV (.ptr A.p 0))).new (eV (.int .i64 f));have nw:er ab A mem held free:=aI.az bn ⟨λe=>e,λe=>e,λe=>e⟩;have pB:er (ab.aB 10) A mem held free:=nw.az (aM.aB (λ_=>False) ab 10) ⟨λe=>e,λe=>e,λe=>e⟩;obtain⟨g1,s1,Cv,bO⟩:=NR pB aJ (held f-1);have Cw:er (g1.aB 8) A mem (az held f (held f-1)) free:=Cv.az (aM.aB (λ_=>False) g1 8) ⟨λe=>e,λe=>e,λe=>e⟩;obtain⟨g2,s2,Cx,cJ⟩:=XK Cw (free+1);obtain⟨ex,aF⟩:=pB.f1;obtain⟨BX,Ur⟩:=Cw.f1;have b6:=aI.lt;have v8:=Cw.f2;have mR:=Cw.hold f aJ;have fU:az held f (held f-1) f=held f-1:=if_pos rfl;rw[fU]at mR;have aG:b0 .i64 ((held f:Int) -1)=((held f-1:Nat) :Int):=by rw[wrap_i64 (by omega) (by omega)];omega
 have aT:b0 .i64 ((free:Int) +1)=((free+1:Nat) :Int):=by rw[wrap_i64 (by omega) (by omega)];simp
 have uX:bP (ab.aB 10) h.next 0=some (.ptr A.p 0):=cS;have yq:bP (ab.aB 10) (h.next+1) 0=some (.int .i64 f):=dm;have gp:(ab.aB 10).next=h.next+12:=rfl
 have eS:bP (g1.aB 8) h.next 0=some (.ptr A.p 0):=by rw[dd,Nu bO (by omega) (by omega)];exact uX
 have fp:bP (g1.aB 8) (h.next+1) 0=some (.int .i64 f):=by rw[dd,Nu bO (by omega) (by omega)];exact yq
 have l1:aM (λi=>i=A.q\/i=A.p) h (g1.aB 8):=((bn.mono λi _ e=>e.elim).trans (aM.aB _ ab 10)).trans ((bO.mono λi _ e=>.inl e).trans (aM.aB _ g1 8));by_cases h1:held f=1
 ·refine⟨g2,?_,by rw[if_pos h1];exact Cx,l1.trans (cJ.mono λi _ e=>.inr e)⟩;have dp:((held f-1:Nat) :Int)=0:=by omega
  have hw:∀gi,call J PV (.func 263 [] [.ptr h.next 0,.ptr (h.next+1) 0]) [.slice A.b (64*f) 64 (64*A.n-64*f) 1 gi] ab=some (.int .i64 0,g2):=λgi=>by refine Vp (x:=.ret) (vs:=[.int .i64 0]) (first:=[]) (mid:=[_]) (cap:=[_,_]) ?_ rfl;simp only[IM,yc,wu,jM,uX,yq,eS,fp,ar,cl,vS,zw,Nat.zero_add,aF,Ur,wo f aJ,pB.hold f aJ,fT,aG,s1,eh,mR,dn,ba,decide_eq_true_eq,if_pos dp,v8,du,aT,s2,c4,bp,jd]
  have pI:=w8 nw aJ aD hw;refine Vk (x:=.ret) (vs:=[.int .i64 0]) (first:=[]) (cap:=[]) ?_ rfl;simp only[IH,Jm,xe,oG,yc,jM];show U (bP ab h.next 0) _=_;rw[cS,ar];show U (bP ab (h.next+1) 0) _=_;rw[dm,ar];show a7 (call J PV (.func 183 [] []) [.ptr A.p 0,.int .i64 f,.func 263 [] [.ptr h.next 0,.ptr (h.next+1) 0]] ab) _=_;rw[pI];rfl
 ·refine⟨g1.aB 8,?_,by rw[if_neg h1];exact Cw,l1⟩;have dp:¬((held f-1:Nat) :Int)=0:=by omega
  have hw:∀gi,call J PV (.func 263 [] [.ptr h.next 0,.ptr (h.next+1) 0]) [.slice A.b (64*f) 64 (64*A.n-64*f) 1 gi] ab=some (.int .i64 0,g1.aB 8):=λgi=>by refine Vp (x:=.ret) (vs:=[.int .i64 0]) (first:=[]) (mid:=[_]) (cap:=[_,_]) ?_ rfl;simp only[IM,yc,wu,jM,uX,yq,eS,fp,ar,cl,vS,zw,Nat.zero_add,aF,Ur,wo f aJ,pB.hold f aJ,fT,aG,s1,eh,mR,dn,ba,decide_eq_true_eq,if_neg dp,c4,bp,jd]
  have pI:=w8 nw aJ aD hw;refine Vk (x:=.ret) (vs:=[.int .i64 0]) (first:=[]) (cap:=[]) ?_ rfl;simp only[IH,Jm,xe,oG,yc,jM];show U (bP ab h.next 0) _=_;rw[cS,ar];show U (bP ab (h.next+1) 0) _=_;rw[dm,ar];show a7 (call J PV (.func 183 [] []) [.ptr A.p 0,.int .i64 f,.func 263 [] [.ptr h.next 0,.ptr (h.next+1) 0]] ab) _=_;rw[pI];rfl
theorem abc:dz J 9=some (λid=>aa.ptr id 0,eV (.str 0 0)):=by kernel_rfl
theorem Vd(h:ae)(id off:Nat) :ak J h 9 (.ptr id off)=bP h id off:=hS (i:=oz) (by kernel_rfl) rfl h id off
theorem X8{h:ae}{id:Nat}{st:Bool}{z:List aa}{t:bu aa}(aN:h.get id=.cells 1 st z t)(l n:Nat) :bN J h 9 (.ptr id 0) (.str l n)=some (h.put id (.cells 1 st z (t.set 0 (.str l n)))):=by
 have e:J.ty 9=some oz:=by kernel_rfl
 simp only[bN,storeT,e];show j9 h id 0 [aa.str l n]=_;unfold j9;rw[aN];rfl
theorem ab8(aI:er h A mem held free){f:Nat}(aJ:f<A.n)(aD:held f≠0) :
  ∃g,call J PV (.func 227 [] []) [.ptr A.p 0,.int .i64 f] h=some (.tuple [.str 64 (mem f),.int .i64 0],g)/\bf h g:=by
 let h1:=h.new (eV (.str 0 0));have g1:h1.get h.next=eV (.str 0 0):=ks _ _;let ab:=h1.put h.next (.cells 1 false [] ((bu.ofList [aa.str 0 0]).set 0 (.str 0 0)));have bn:bf h ab:=(aM.new _ _ _).uW _ (Nat.le_refl _);have g2:ab.get h.next=.cells 1 false [] ((bu.ofList [aa.str 0 0]).set 0 (.str 0 0)):=ln _ _ _;have nw:er ab A mem held free:=aI.az bn ⟨λe=>e,λe=>e,λe=>e⟩;obtain⟨st,N,aj,hm⟩:=nw.bytes;let g:=ab.put h.next (.cells 1 false [] (((bu.ofList [aa.str 0 0]).set 0 (.str 0 0)).set 0 (.str 64 (mem f))))
 have hw:∀gi,call J PV (.func 305 [] [.ptr h.next 0]) [.slice A.b (64*f) 64 (64*A.n-64*f) 1 gi] ab=some (.int .i64 0,g):=λgi=>by refine aj3 (x:=.ret) (vs:=[.int .i64 0]) (first:=[]) (mid:=[_]) (cap:=[_]) ?_ rfl;have aH:=zn ab (id:=A.b) (off:=64*f) (len:=64) (cap:=64*A.n-64*f) (ex:=gi) aj (by omega) (by omega);rw[hm f aJ]at aH;simp only[QV,aH,ar,X8 g2];rfl
 have pI:=w8 nw aJ aD hw;refine⟨g,ajB (x:=.ret) (vs:=[.str 64 (mem f),.int .i64 0]) (first:=[]) (cap:=[]) ?_ rfl,bn.uW _ (Nat.le_refl _)⟩;simp only[Qv,abc,oG];show U (bN J h1 9 (.ptr h.next 0) (.str 0 0)) _=_;rw[X8 g1,ar];show a7 (call J PV (.func 183 [] []) [.ptr A.p 0,.int .i64 f,.func 305 [] [.ptr h.next 0]] ab) _=_;rw[pI,c3,Vd];show U (bP g h.next 0) _=_;rw[W6,ar]
end
end
def e8(N o w m:Nat) :Nat:=N-cB N o w*2^(8*o) +m*2^(8*o)
theorem parts(N o w:Nat) :N=2^(8*o+8*w) *(N/2^(8*o+8*w)) +(2^(8*o) *cB N o w+N%2^(8*o)):=by unfold cB;rw[Nat.pow_add,<-Nat.div_div_eq_div_mul,Nat.mul_assoc,<-Nat.add_assoc,<-Nat.mul_add,Nat.div_add_mod,Nat.div_add_mod]
theorem anj(N o w m:Nat) :e8 N o w m=2^(8*o+8*w) *(N/2^(8*o+8*w)) +(2^(8*o) *m+N%2^(8*o)):=by
 have h:=parts N o w;unfold e8;have e:cB N o w*2^(8*o)=2^(8*o) *cB N o w:=Nat.mul_comm _ _;have aT:m*2^(8*o)=2^(8*o) *m:=Nat.mul_comm _ _;rw[e,aT];generalize 2^(8*o) *cB N o w=x at*
 generalize 2^(8*o) *m=y at*
 generalize 2^(8*o+8*w) *(N/2^(8*o+8*w))=z at*
 generalize N%2^(8*o)=u at*
 omega
theorem tS(N o w j:Nat) :(cB N o w).testBit j=(decide (j<8*w) &&N.testBit (8*o+j)):=by unfold cB;rw[Nat.testBit_mod_two_pow,Nat.testBit_div_two_pow,Nat.add_comm]
theorem zh{N o w m:Nat}(hm:m<2^(8*w))(j:Nat) :(e8 N o w m).testBit j=if 8*o<=j/\j<8*o+8*w then m.testBit (j-8*o)else N.testBit j:=by
 have ay:N%2^(8*o) <2^(8*o):=Nat.mod_lt _ (Nat.two_pow_pos _)
 have aj:2^(8*o) *m+N%2^(8*o) <2^(8*o+8*w):=by rw[Nat.pow_add];have:2^(8*o) *(m+1)<=2^(8*o) *2^(8*w):=Nat.mul_le_mul_left _ hm;rw[Nat.mul_add,Nat.mul_one]at this;omega
 rw[anj,Nat.testBit_two_pow_mul_add _ aj,Nat.testBit_two_pow_mul_add _ ay];by_cases h1:j<8*o+8*w
 ·rw[if_pos h1];by_cases ab:j<8*o
  ·rw[if_pos ab,if_neg (by omega),Nat.testBit_mod_two_pow];simp[ab]
  ·rw[if_neg ab,if_pos (by omega)]
 ·rw[if_neg h1,if_neg (by omega),Nat.testBit_div_two_pow];congr 1;omega
theorem ti{N o w m:Nat}(hm:m<2^(8*w)) :cB (e8 N o w m) o w=m:=by
 apply Nat.eq_of_testBit_eq;intro j;rw[tS,zh hm];by_cases h:j<8*w
 ·rw[if_pos (by omega)];simp[h]
 ·have:m.testBit j=false:=Nat.testBit_lt_two_pow (Nat.lt_of_lt_of_le hm (Nat.pow_le_pow_right (by omega) (by omega)));simp[h,this]
theorem G5{N o w m cg aZ:Nat}(hm:m<2^(8*w))(h:cg+aZ<=o\/o+w<=cg) :cB (e8 N o w m) cg aZ=cB N cg aZ:=by
 apply Nat.eq_of_testBit_eq;intro j;rw[tS,tS,zh hm];by_cases aO:j<8*aZ
 ·rw[if_neg (by omega)]
 ·simp[aO]
theorem alY{N b a w m:Nat}(hm:m<2^(8*w))(h:a+w<=64) :cB (e8 N (b+a) w m) b 64=e8 (cB N b 64) a w m:=by
 apply Nat.eq_of_testBit_eq;intro j;rw[tS,zh hm,zh hm,tS];by_cases aO:j<8*64
 ·by_cases ab:8*a<=j/\j<8*a+8*w
  ·rw[if_pos (by omega),if_pos ab];simp only[aO,decide_true,Bool.true_and];congr 1;omega
  ·rw[if_neg (by omega),if_neg ab]
 ·rw[if_neg (by omega:¬(8*a<=j/\j<8*a+8*w))];simp[aO]
theorem Nr{N w a m K:Nat}(e6:N<2^(8*K))(hm:m<2^(8*w))(h:a+w<=K) :e8 N a w m<2^(8*K):=by apply Nat.lt_pow_two_of_testBit;intro j aO;rw[zh hm,if_neg (by omega)];exact Nat.testBit_lt_two_pow (Nat.lt_of_lt_of_le e6 (Nat.pow_le_pow_right (by omega) aO))
section
variable{PV:cn} [cN PV]
theorem y1{h:ae}{id off len m size N:Nat}{st:Bool}(aN:h.get id=.bytes size st N)(aA:off+len<=size) :qd h id off len m=some (h.put id (.bytes size st (e8 N off len m))):=by unfold qd;rw[aN];show(bif Nat.ble (off+len) size then some (h.put id (.bytes size st (N-((N>>> (8*off)) %2^(8*len)) <<< (8*off) +m<<< (8*off))))else none)=_;rw[ec.2 aA,cond_true,Nat.shiftRight_eq_div_pow,Nat.shiftLeft_eq,Nat.shiftLeft_eq];rfl
theorem JM{h:ae}{id off l len cap m size N:Nat}{ex st:Bool}(aN:h.get id=.bytes size st N)(h0:0<l)(ay:l<=len)(aA:off+l<=size) :
  pg J h 135 (.slice id off len cap 1 ex) (.str l m)=some (.int .i64 l,h.put id (.bytes size st (e8 N off l (m%2^(8*l))))):=by
 have aG:J.ty 135=some nK:=by kernel_rfl
 have bJ:J.ty 5=some m6:=by kernel_rfl
 obtain⟨n,rfl⟩ :∃n,l=n+1:=⟨l-1,by omega⟩;have rN:min (n+1) len=n+1:=Nat.min_eq_left ay;have hw:=y1 (m:=m%2^(8*(n+1))) aN aA;unfold pg;rw[aG]
 show(match J.ty 5 with
  |none=>none
  |some ie=>
  match min (n+1) len with
  |0=>some (aa.int .i64 (.ofNat 0),h)
  |k+1=>bif Nat.beq 1 ie.size then
   match jh ie.desc with
   |true=>bif Nat.beq ie.size 1 then match BE h (.str (n+1) m) (k+1)with
    |some new=>match qd h id off (k+1) new with
     |some h=>some (aa.int .i64 (.ofNat (k+1)),h)
     |none=>none
    |none=>none else none
   |false=>none
   else none)=_
 rw[bJ,rN]
 show(match qd h id off (n+1) (m%2^(8*(n+1)))with
  |some h=>some (aa.int .i64 (.ofNat (n+1)),h)
  |none=>none)=_
 rw[hw];rfl
section
variable{h:ae}{A:gw}{mem held:Nat->Nat}{free:Nat}
theorem er.GX(aI:er h A mem held free){f:Nat}(aJ:f<A.n) :mem f<2^(8*64):=by obtain⟨st,N,_,hm⟩:=aI.bytes;rw[<-hm f aJ];exact uO _ _ _
theorem HH(aI:er h A mem held free){f a w m:Nat}(aJ:f<A.n)(fZ:a+w<=64)(hm:m<2^(8*w)){N:Nat}{st:Bool}(aN:h.get A.b=.bytes (64*A.n) st N)(e6:∀f,f<A.n->cB N (64*f) 64=mem f) :
  er (h.put A.b (.bytes (64*A.n) st (e8 N (64*f+a) w m))) A (az mem f (e8 (mem f) a w m)) held free where
 n:=aI.n
 lt:=aI.lt
 ne:=aI.ne
 str:=let⟨aG,aT,o⟩:=aI.str;⟨aG,aT,o.pV (ke aI.ne.1)⟩
 bytes:=⟨st,_,ln _ _ _,λj aO=>by
  by_cases e:j=f
  ·subst e;rw[alY hm fZ,e6 j aO];exact(if_pos rfl).symm
  ·rw[G5 hm (by omega),e6 j aO]
   exact(if_neg e).symm⟩
 arr:=aI.arr.pV (ke (λe=>aI.ne.2.2 e.symm))
theorem abY(l n:Nat) :c9 J 9 (.str l n)=some (λid=>aa.ptr id 0,eV (.str l n)):=by kernel_rfl
theorem Tf(aI:er h A mem held free){f m:Nat}(aJ:f<A.n)(aD:held f≠0)(hm:m<2^(8*64)) :
  ∃g,call J PV (.func 319 [] []) [.ptr A.p 0,.int .i64 f,.str 64 m] h=some (.int .i64 0,g)/\er g A (az mem f m) held free/\aM (λi=>i=A.b) h g:=by
 let h1:=h.new (eV (.str 64 m));have bb:bf h h1:=aM.new _ _ _;have we:er h1 A mem held free:=aI.az bb ⟨λe=>e,λe=>e,λe=>e⟩;obtain⟨st,N,aj,e6⟩:=we.bytes;have pE:=HH we (a:=0) (w:=64) aJ (by omega) hm aj e6
 have e:e8 (mem f) 0 64 m=m:=by have:=ti (N:=mem f) (o:=0) hm;unfold cB at this;simp only[Nat.mul_zero,Nat.pow_zero,Nat.div_one]at this;rw[Nat.mod_eq_of_lt (Nr (aI.GX aJ) hm (by omega))]at this;exact this
 rw[e,Nat.add_zero]at pE;refine⟨_,?_,pE,(bb.mono λi _ e=>e.elim).trans (aM.put _ rfl)⟩
 have hw:∀gi,call J PV (.func 379 [] [.ptr h.next 0]) [.slice A.b (64*f) 64 (64*A.n-64*f) 1 gi] h1=some (.int .i64 0,h1.put A.b (.bytes (64*A.n) st (e8 N (64*f) 64 m))):=λgi=>by refine ake (x:=.ret) (vs:=[.int .i64 0]) (first:=[]) (mid:=[_]) (cap:=[_]) ?_ rfl;have cS:bP h1 h.next 0=some (.str 64 m):=tq _ _;have aH:=JM (id:=A.b) (off:=64*f) (l:=64) (len:=64) (cap:=64*A.n-64*f) (m:=m) (ex:=gi) aj (by omega) (by omega) (by omega);rw[Nat.mod_eq_of_lt hm]at aH;simp only[Q8,Vd,cS,ar,Af,dP,ba];simp only[aH,c3];simp
 have pI:=w8 we aJ aD hw;refine aj8 (x:=.ret) (vs:=[.int .i64 0]) (first:=[]) (cap:=[]) ?_ rfl;simp only[Q0,abY,oG];show a7 (call J PV (.func 183 [] []) [.ptr A.p 0,.int .i64 f,.func 379 [] [.ptr h.next 0]] h1) _=_;rw[pI];rfl
end
end
section
variable{PV:cn} [cN PV]
theorem ak'(w:Nat)(hw:w<=1048576) :mn J 135 (.int .i64 w) (.int .i64 w)=some (λid=>aa.slice id 0 w w 1 true,.bytes w false 0):=by
 have aG:J.ty 135=some nK:=by kernel_rfl
 have bJ:J.ty 5=some m6:=by kernel_rfl
 have:wx J 135 (.int .i64 w) (.int .i64 w)=some (w,w,1,.bytes w false 0):=by
  unfold wx;rw[aG]
  show(match J.ty 5 with
   |some ie=>
    bif Nat.ble w w&&Nat.ble (ie.bytes*w) 140737488355328&&Nat.ble 1 ie.bytes then
     match jh ie.desc,ie.zero with
     |true,[.int .u8 (.ofNat 0)]=>some (w,w,ie.size,bT.bytes w false 0)
     |_,_=>some (w,w,ie.size,.cells (w*ie.size) false ie.zero .nil)
    else none
   |none=>none)=_
  rw[bJ];show(bif Nat.ble w w&&Nat.ble (1*w) 140737488355328&&Nat.ble 1 1 then some (w,w,1,bT.bytes w false 0)else none)=_;rw[ec.2 (Nat.le_refl w),ec.2 (show 1*w<=140737488355328 by omega)];rfl
 unfold mn;rw[this]
theorem SD(h:ae)(n:Int) :gB J h 67 5 (.int .u64 n)=some (.int .u8 (b0 .u8 n)):=by
 have aG:J.ty 67=some w2:=by kernel_rfl
 have aT:J.ty 5=some m6:=by kernel_rfl
 simp only[gB,aG,aT];rfl
theorem aiL(h:ae)(id off len cap cT:Nat)(ex:Bool) :dw J h 135 (.slice id off len cap cT ex)=some (.int .i64 len):=by
 have e:J.ty 135=some nK:=by kernel_rfl
 simp only[dw,e];rfl
theorem aid{id off len cap:Nat}{ex:Bool}(n:Nat)(aw:n<len) :cZ J 135 (.slice id off len cap 1 ex) (.int .i64 n)=some (.ptr id (off+n)):=by
 have aG:J.ty 135=some nK:=by kernel_rfl
 have aT:J.ty 5=some m6:=by kernel_rfl
 have:oe (n:Int) len=some n:=by show(bif Nat.blt n len then some n else none)=some n;rw[dM.2 aw];rfl
 simp only[cZ,aG];show(match J.ty 5,oe (n:Int) len with|some ie,some j=>bif Nat.beq ie.size 1 then some (aa.ptr id (off+j*1))else none|_,_=>none)=_;rw[aT,this];show some (aa.ptr id (off+n*1))=_;rw[Nat.mul_one]
theorem apj{h:ae}{id off size N b:Nat}{st:Bool}(aN:h.get id=.bytes size st N)(bg:off<size)(aj:b<256) :bN J h 5 (.ptr id off) (.int .u8 b)=some (h.put id (.bytes size st (e8 N off 1 b))):=by
 have e:J.ty 5=some m6:=by kernel_rfl
 simp only[bN,storeT,e];show j9 h id off [aa.int .u8 (.ofNat b)]=_;unfold j9;rw[aN];simp only[bT.writes,bT.write,dM.2 bg,dM.2 aj,Bool.and_true,cond_true];have aG:dN N off=cB N off 1:=jE N off;rw[aG,Nat.shiftLeft_eq,Nat.shiftLeft_eq];rfl
theorem alW(N bits i w:Nat)(h:N=cB bits 0 i) :e8 N i 1 (dN bits i)=cB bits 0 (i+1):=by
 subst h;apply Nat.eq_of_testBit_eq;intro j;have aj:dN bits i<2^(8*1):=vI bits i;have aG:dN bits i=cB bits i 1:=jE bits i;rw[zh aj,tS,tS,aG,tS];by_cases h1:8*i<=j/\j<8*i+8*1
 ·rw[if_pos h1];simp only[show j-8*i<8*1 by omega,show j<8*(i+1)by omega,decide_true,Bool.true_and];congr 1;omega
 ·rw[if_neg h1];by_cases ab:j<8*i
  ·simp[ab,show j<8*(i+1)by omega]
  ·simp[ab,show¬j<8*(i+1)by omega]
theorem anm(h:ae){bits w:Nat}(aj:bits<2^64)(h1:1<=w)(cz:w<=8) :∃g,call J PV (.func 214 [] []) [.int .u64 bits,.int .i64 w] h=some (.str w (cB bits 0 w),g)/\bf h g:=by
 have adw:pP (.int .i64 w) [.int .i64 0]=some (.int .i64 w):=by
  have:mm (w:Int) 0=false:=by rw[oi];simp
  simp only[pP,this,cond_false]
 have adx:rX (.int .i64 w) [.int .i64 8]=some (.int .i64 w):=by
  have:mm (8:Int) w=false:=by rw[oi];simp;omega
  simp only[rX,this,cond_false]
 let I:Nat->List aa->ae->Prop:=λi vs g=>vs=[.int .i64 i]/\g.get h.next=.bytes w false (cB bits 0 i)/\bf h g
 let Q:eb->List aa->ae->Prop:=λx vs g=>x=.exit 0/\vs=[.int .i64 w]/\g.get h.next=.bytes w false (cB bits 0 w)/\bf h g
 have z:cB bits 0 0=0:=by simp[cB,Nat.mod_one]
 have aeW:I 0 [.int .i64 0] (h.new (.bytes w false 0)):=⟨rfl,by rw[ks,z],aM.new _ _ _⟩
 obtain⟨x,vs,g,ay,rfl,rfl,aN,hu⟩:=Mi I w Q (k:=14) (by omega) (f:=λaK ab=>
  a_ aK λv5 gf=>br gf (
  U (ax J ab .lss 3 v5 (.int .i64 w)) λv6=>
  bq v6 (
  U (ax J ab .mul 3 (.int .i64 8) v5) λbl=>
  U (ax J ab .shr 67 (.int .u64 bits) bl) λbA=>
  U (gB J ab 67 5 bA) λv9=>
  U (cZ J 135 (.slice h.next 0 w w 1 true) v5) λv10=>
  U (bN J ab 5 v10 v9) λaE=>
  U (ax J aE .add 3 v5 (.int .i64 1)) λv11=>
  some (.normal,[v11],aE)) (
  some ((.exit 0),[v5],ab)))) (by
   rintro i vs g af ⟨rfl,aN,hu⟩;by_cases b6:i<w
   ·refine .inl ⟨b6,[.int .i64 ((i+1:Nat) :Int)],g.put h.next (.bytes w false (e8 (cB bits 0 i) i 1 (dN bits i))),?_,rfl,?_,hu.uW _ (Nat.le_refl _)⟩
    ·have aG:(i:Int) <w:=by omega
     have e0:b0 .i64 (8*(i:Int))=Int.ofNat (8*i):=by rw[wrap_i64 (by omega) (by omega)];simp
     have fJ:b0 .i64 ((i:Int) +1)=((i+1:Nat) :Int):=by rw[wrap_i64 (by omega) (by omega)];simp
     have hm:min (8*i) IntKind.u64.bits=8*i:=Nat.min_eq_left (by show 8*i<=64;omega)
     have kc:((bits:Int)).fdiv (2^(8*i))=((bits/2^(8*i) :Nat) :Int):=by
      have:((2:Int) ^(8*i))=((2^(8*i) :Nat) :Int):=by simp
      rw[this,Int.fdiv_eq_ediv_of_nonneg _ (Int.natCast_nonneg _),<-Int.natCast_ediv]
     have vQ:b0 .u8 ((bits/2^(8*i) :Nat) :Int)=((dN bits i:Nat) :Int):=by rw[m_,jE];simp only[IntKind.wrap,IntKind.bits,IntKind.signed];simp
     have es:=apj aN b6 (vI bits i);simp only[bz,bp,dk,ar,ba,decide_eq_true_eq,if_pos aG,nh,e0,R0,hm,kc,SD,vQ,aid i b6,Nat.zero_add,es,du,fJ]
    ·rw[ln,alW _ bits i w rfl]
   ·obtain rfl:i=w:=by omega
    have aG:¬(i:Int) <i:=by omega
    exact .inr ⟨.exit 0,[.int .i64 i],g,by simp,by simp only[bz,bp,dk,ar,ba,decide_eq_true_eq,if_neg aG],rfl,rfl,aN,hu⟩) aeW
 refine⟨g,ajy (x:=.ret) (vs:=[.str w (cB bits 0 w)]) (first:=[]) (cap:=[]) ?_ rfl,hu⟩;have aH:=zn g (id:=h.next) (off:=0) (len:=w) (cap:=w) (ex:=true) aN (by omega) (by omega);have fA:cB (cB bits 0 w) 0 w=cB bits 0 w:=by unfold cB;simp
 rw[fA]at aH;unfold Qs;simp only[adw,adx,ar,ak' w (by omega),oG,aiL];rw[ay];simp[aH]
theorem arQ{h:ae}(hw:lE h){k:Nat}(av:wF k){bits:Nat}(aj:bits<2^64) :∃g,call J PV (.func 252 [] []) [.int .i64 k,.int .u64 bits] h=some (.str (di k) (cB bits 0 (di k)),g)/\bf h g:=by
 have xK:k<10:=by rcases av with rfl|rfl|rfl|rfl<;>omega
 obtain⟨ck,hL⟩:=y0 (k:=k);obtain⟨g,aI,hu⟩:=anm h aj ck hL;refine⟨g,ajR (x:=.ret) (vs:=[.str (di k) (cB bits 0 (di k))]) (first:=[]) (cap:=[]) ?_ rfl,hu⟩;simp only[QL,Iq hw k xK,Ip av,c3,aI]
theorem abX(n:Int) :c9 J 67 (.int .u64 n)=some (λid=>aa.ptr id 0,eV (.int .u64 n)):=by kernel_rfl
section
variable{h:ae}{A:gw}{mem held:Nat->Nat}{free:Nat}
theorem X'(hw:lE h)(aI:er h A mem held free)(asQ:A.b≠0){k:Nat}(av:wF k){f:Nat}(aJ:f<A.n)(aD:held f≠0){at':Nat}(fZ:at'+di k<=64){bits:Nat}(aj:bits<2^64) :
  ∃g,call J PV (.func 167 [] []) [.ptr A.p 0,.int .i64 f,.int .i64 at',.int .i64 k,.int .u64 bits] h=some (.int .i64 0,g)/\er g A (az mem f (e8 (mem f) at' (di k) (cB bits 0 (di k)))) held free/\aM (λi=>i=A.b) h g:=by
 have aw:=aI.n;obtain⟨ck,hL⟩:=y0 (k:=k);obtain⟨bn,cS,dm,eN⟩:=OF h (.int .i64 k) (.int .u64 bits);let ab:=(h.new (eV (.int .i64 k))).new (eV (.int .u64 bits));let aE:=ab.new (eV (.int .i64 at'));let aL:=aE.new (eV (.int .i64 k));let bm:=aL.new (eV (.func 251 [] [.ptr h.next 0,.ptr (h.next+1) 0]));have bO:bf h aE:=aM.trans bn (aM.new _ _ _);have cD:bf h aL:=bO.trans (aM.new _ _ _);have cJ:bf h bm:=cD.trans (aM.new _ _ _);have fk:bf h (bm.aB 8):=cJ.trans (aM.aB _ _ _);have dr:ab.next=h.next+2:=rfl;have hU:aE.next=h.next+3:=rfl;have n5:aL.next=h.next+4:=rfl;have n6:bm.next=h.next+5:=rfl;have uX:bP (bm.aB 8) h.next 0=some (.int .i64 k):=by rw[dd,mw (by omega),mw (by omega),mw (by omega)];exact cS
 have yq:bP (bm.aB 8) (h.next+1) 0=some (.int .u64 bits):=by rw[dd,mw (by omega),mw (by omega),mw (by omega)];exact dm
 have gr:bP bm aE.next 0=some (.int .i64 k):=by rw[mw (by omega),tq]
 have jO:bP bm ab.next 0=some (.int .i64 at'):=by rw[mw (by omega),mw (by omega),tq]
 have h9:bP bm aL.next 0=some (.func 251 [] [.ptr h.next 0,.ptr (h.next+1) 0]):=tq _ _;have Cx:er bm A mem held free:=aI.az cJ ⟨λe=>e,λe=>e,λe=>e⟩;obtain⟨g8,LF,u8⟩:=arQ (hw.az fk (λe=>e)) av aj;have gy:bf h g8:=fk.trans u8;have Um:er g8 A mem held free:=aI.az gy ⟨λe=>e,λe=>e,λe=>e⟩;obtain⟨st,N,vW,e6⟩:=Um.bytes;have pE:=HH Um (a:=at') (w:=di k) aJ fZ (uO bits 0 (di k)) vW e6;refine⟨_,?_,pE,(gy.mono λi _ e=>e.elim).trans (aM.put _ rfl)⟩
 have ay:∀ex,call J PV (.func 251 [] [.ptr h.next 0,.ptr (h.next+1) 0]) [.slice A.b (64*f+at') (di k) (64*A.n-64*f-at') 1 ex] (bm.aB 8)=some (.undef,g8.put A.b (.bytes (64*A.n) st (e8 N (64*f+at') (di k) (cB bits 0 (di k))))):=λex=>by refine ajQ (x:=.ret) (vs:=[]) (first:=[]) (mid:=[_]) (cap:=[_,_]) ?_ rfl;have aH:=JM (id:=A.b) (off:=64*f+at') (l:=di k) (len:=di k) (cap:=64*A.n-64*f-at') (m:=cB bits 0 (di k)) (ex:=ex) vW (by omega) (Nat.le_refl _) (by omega);rw[Nat.mod_eq_of_lt (uO bits 0 (di k))]at aH;simp only[QK,jM,Vc,uX,yq,ar,LF,c3,aH]
 have aH:∀ex,call J PV (.func 253 [] [.ptr aE.next 0,.ptr ab.next 0,.ptr aL.next 0]) [.slice A.b (64*f) 64 (64*A.n-64*f) 1 ex] bm=some (.int .i64 0,_):=λex=>
  RQ (hw.az cJ (λe=>e)) av gr jO h9 fZ (by omega) (ay ex)
 have pI:=w8 Cx aJ aD aH
 have KG:call J PV (.func 168 [] []) [.ptr A.p 0,.int .i64 f,.int .i64 at',.int .i64 k,.func 251 [] [.ptr h.next 0,.ptr (h.next+1) 0]] ab=some (.int .i64 0,g8.put A.b (.bytes (64*A.n) st (e8 N (64*f+at') (di k) (cB bits 0 (di k))))):=by refine Vj (x:=.ret) (vs:=[.int .i64 0]) (first:=[]) (cap:=[]) ?_ rfl;simp only[IG,xe,R6,oG];show a7 (call J PV (.func 183 [] []) [.ptr A.p 0,.int .i64 f,.func 253 [] [.ptr aE.next 0,.ptr ab.next 0,.ptr aL.next 0]] bm) _=_;rw[pI];rfl
 refine ajf (x:=.ret) (vs:=[.int .i64 0]) (first:=[]) (cap:=[]) ?_ rfl;simp only[Qa,xe,abX,oG,jM];show U (bP ab h.next 0) _=_;rw[cS,ar];show a7 (call J PV (.func 168 [] []) [.ptr A.p 0,.int .i64 f,.int .i64 at',.int .i64 k,.func 251 [] [.ptr h.next 0,.ptr (h.next+1) 0]] ab) _=_;rw[KG];rfl
end
end
section
variable{PV:cn} [cN PV]
theorem acz{h:ae}{id off len cap size N:Nat}{ex st:Bool}(aN:h.get id=.bytes size st N)(h0:0<len)(aA:off+len<=size) :
  pf J h 135 (.slice id off len cap 1 ex)=some (h.put id (.bytes size st (e8 N off len 0))):=by
 have aG:J.ty 135=some nK:=by kernel_rfl
 have bJ:J.ty 5=some m6:=by kernel_rfl
 obtain⟨n,rfl⟩ :∃n,len=n+1:=⟨len-1,by omega⟩;have hw:=y1 (m:=0) aN aA;unfold pf;rw[aG]
 show(match J.ty 5 with
  |none=>none
  |some ie=>bif Nat.beq 1 ie.size then match jh ie.desc,ie.zero with
   |true,[.int .u8 (.ofNat 0)]=>bif Nat.beq ie.size 1 then qd h id off (n+1) 0 else none
   |_,_=>bif Nat.ble 1 ie.size then j9 h id off (j5 (n+1) ie.zero)else none else none)=_
 rw[bJ];exact hw
section
variable{h:ae}{A:gw}{mem held:Nat->Nat}{free:Nat}
theorem Yk(aI:er h A mem held free)(fw:free≠0)(rG:free<2^60){f:Nat}(aJ:f<A.n)(aP:held f=0)(ay:∀j,j<f->held j≠0) :
  ∃g,call J PV (.func 159 [] []) [.ptr A.p 0] h=some (.tuple [.int .i64 f,.int .i64 0],g)/\er g A (az mem f 0) (az held f 1) (free-1)/\aM (λi=>i=A.b\/i=A.q\/i=A.p) h g:=by
 have aw:=aI.n;obtain⟨ex,aF⟩:=aI.f1;obtain⟨gi,afU⟩:=Kj aI aJ;obtain⟨st,N,aj,e6⟩:=aI.bytes;have pE:=HH aI (a:=0) (w:=64) (m:=0) aJ (by omega) (Nat.two_pow_pos _) aj e6
 have e:e8 (mem f) 0 64 0=0:=by have:=ti (N:=mem f) (o:=0) (w:=64) (m:=0) (Nat.two_pow_pos _);unfold cB at this;simp only[Nat.mul_zero,Nat.pow_zero,Nat.div_one]at this;rw[Nat.mod_eq_of_lt (Nr (aI.GX aJ) (Nat.two_pow_pos _) (by omega))]at this;exact this
 rw[e,Nat.add_zero]at pE;obtain⟨g2,s2,nw,bn⟩:=NR pE aJ 1;obtain⟨g3,dE,pB,bR⟩:=XK nw (free-1);refine⟨g3,?_,pB,((aM.put _ (.inl rfl)).trans (bn.mono λi _ e=>.inr (.inl e))).trans (bR.mono λi _ e=>.inr (.inr e))⟩;have aH:=acz (id:=A.b) (off:=64*f) (len:=64) (cap:=64*A.n-64*f) (ex:=gi) aj (by omega) (by omega);obtain⟨adO,ux⟩:=pE.f1;have afS:=nw.f2;have aG:b0 .i64 ((free:Int) -1)=((free-1:Nat) :Int):=by rw[wrap_i64 (by omega) (by omega)];omega
 have qo:¬(free:Int)=0:=by omega
 refine Vi (x:=.ret) (vs:=[.int .i64 f,.int .i64 0]) (first:=[]) (cap:=[]) ?_ rfl;unfold IF;simp only[Aw,ar,ba,Bool.false_eq_true,if_false,cl,zw,vS,Nat.zero_add,jM,wu,aI.f2,aF,dn,decide_eq_true_eq,if_neg qo,GM];rw[VF (λi=>([aa.int .i64 0,.int .i64 (i:Nat)],h)) f (x:=.exit 0) (vs:=[.int .i64 f,.int .i64 f]) (vs0:=[.int .i64 0,.int .i64 0]) (h0:=h) (g:=h) (by simp) (by omega) (by simp) rfl]
 ·simp only[c4,bz,bp,hs,if_true,afU,c3,aH,ar,cl,vS,zw,wu,ux,wo f aJ,Nat.zero_add];rw[show((1:Int))=((1:Nat) :Int)by rfl];simp only[s2,ar,jM,afS,fT];rw[show(((1:Nat) :Int))=(1:Int)by rfl];simp only[aG,dE,ar]
 ·intro i af;have aT:(i:Int) <A.n:=by omega
  have bJ:¬(held i:Int)=0:=by have:=ay i af;omega
  have fJ:b0 .i64 ((i:Int) +1)=((i+1:Nat) :Int):=by rw[wrap_i64 (by omega) (by omega)];simp
  simp only[bz,bp,dk,ar,ba,decide_eq_true_eq,if_pos aT,wo i (show i<A.n by omega),Nat.zero_add,jM,aI.hold i (by omega),dn,if_neg bJ,du,fJ]
 ·have aT:(f:Int) <A.n:=by omega
  have bJ:(held f:Int)=0:=by omega
  simp only[bz,bp,dk,ar,ba,decide_eq_true_eq,if_pos aT,wo f aJ,Nat.zero_add,jM,aI.hold f aJ,dn,if_pos bJ]
end
section
variable{h:ae}{A:gw}{mem held:Nat->Nat}{free:Nat}
theorem apK(aI:er h A mem held 0) :call J PV (.func 159 [] []) [.ptr A.p 0] h=some (.tuple [.int .i64 0,.int .i64 18],h):=by refine Vi (x:=.ret) (vs:=[.int .i64 0,.int .i64 18]) (first:=[]) (cap:=[]) ?_ rfl;have:=aI.f2;simp[IF,Aw,zw,jM,this]
end
end
end Go.Proofs.YtkdjcmpgnkecfaaGreatDoor
namespace Go.a8
section
variable{E:Env}{p:cn}
theorem iA.step{ro:Option Nat}{c:Code}{s aY:cU}{x:eb}{k:Nat}(h:hj E (fns E p k) ro c s=some (x,aY)) :iA E p ro c s x aY:=⟨k+1,h⟩
theorem iA.mono{ro:Option Nat}{c:Code}{s aY:cU}{x:eb}(h:iA E p ro c s x aY) :∃m,∀k,m<=k->(fns E p k).code ro c s=some (x,aY):=by obtain⟨m,hm⟩:=h;exact⟨m,λk av=>(vT E p av).code _ _ _ _ hm⟩
theorem acr{f:aa}{args:List aa}{h:ae}{r:aa×ae}(aH:call E p f args h=some r) :∃m,∀k,m<=k->(fns E p k).call f args h=some r:=by obtain⟨m,hm⟩:=pe.1 aH;exact⟨m,λk av=>(vT E p av).call _ _ _ _ hm⟩
theorem ru{ro:Option Nat}{a b:Code}{s s1 s2:cU}{x:eb}(h1:iA E p ro a s .normal s1)(ab:iA E p ro b s1 x s2) :iA E p ro (.seq a b) s x s2:=by obtain⟨c5,g1⟩:=h1.mono;obtain⟨dr,g2⟩:=ab.mono;refine iA.step (k:=max c5 dr) ?_;unfold hj;dsimp only;rw[g1 _ (Nat.le_max_left _ _)];exact g2 _ (Nat.le_max_right _ _)
theorem aeS{ro:Option Nat}{a b:Code}{s s1:cU}{x:eb}(h1:iA E p ro a s x s1)(ag:x≠.normal) :iA E p ro (.seq a b) s x s1:=by obtain⟨c5,g1⟩:=h1.mono;refine iA.step (k:=c5) ?_;unfold hj;dsimp only;rw[g1 _ (Nat.le_refl _)];cases x<;>first|rfl|contradiction
theorem Ku{ro:Option Nat}{i:Nat}{a:Code}{s s1:cU}{x:eb}(h1:iA E p ro a s x s1)(ag:x=.normal\/x=.ret) :iA E p ro (.block i a) s x s1:=by obtain⟨c5,g1⟩:=h1.mono;refine iA.step (k:=c5) ?_;unfold hj;dsimp only;rw[g1 _ (Nat.le_refl _)];rcases ag with rfl|rfl<;>rfl
theorem Kv{s:cU}{f:Operand}{fv:aa}{params:Array Tmp}{assign body:Code}(FT:ek E s.r f=some fv){v:aa}{h1:ae}
  (aH:call E p fv [.yield (s.h.next+1)] ((s.h.new .deferred).new (.loop .ready none s.n s.r params assign body s.h.next))=some (v,h1))
  {st:LoopState} {pend:Option Code} {n:Nat} {r:bE} {ps:Array Tmp} {a b:Code} {d:Nat} (ay:h1.get (s.h.next+1)=.loop st pend n r ps a b d) (ea:st≠.busy)
  {x:eb} {s2:cU} (aI:match pend with
    |none=>x=.normal/\s2={s with h:=h1.put (s.h.next+1) (.loop .exhausted pend n r ps a b d),ds:=s.h.next::s.ds}
    |some c=>iA E p none c {s with h:=h1.put (s.h.next+1) (.loop .exhausted pend n r ps a b d),ds:=s.h.next::s.ds} x s2) :
  iA E p none (.rangeFunc f params assign body) s x s2:=by
 obtain⟨c5,g1⟩:=acr aH;cases pend with
 |none=>
  obtain⟨rfl,rfl⟩:=aI;refine iA.step (k:=c5) ?_;unfold hj;dsimp only;rw[FT];dsimp only[Di];unfold wM;dsimp only[Am];rw[g1 _ (Nat.le_refl _)];dsimp only;rw[ay];cases st<;>first|rfl|contradiction
 |some c=>
  obtain⟨dr,g2⟩:=iA.mono aI;refine iA.step (k:=max c5 dr) ?_;unfold hj;dsimp only;rw[FT];dsimp only[Di];unfold wM;dsimp only[Am];rw[g1 _ (Nat.le_max_left _ _)];dsimp only;rw[ay];have:=g2 _ (Nat.le_max_right c5 dr);cases st<;>first|exact this|contradiction
def ar_(x:eb)(n:Nat)(r:bE)(ps:Array Tmp)(a b:Code)(d:Nat) :bT:=match x with
 | .normal=>.loop .ready none n r ps a b d
 | .exit i=>.loop .done (some (.exit i)) n r ps a b d
 | .goto g=>.loop .done (some (.goto g)) n r ps a b d
 | .ret=>.loop .done (some .ret) n r ps a b d
def aic:eb->Bool
 | .normal=>true
 |_=>false
theorem Sk{l:Nat}{g:ae}{De:Option Code}{n:Nat}{r cR:bE}{params:Array Tmp}{assign body:Code}{d:Nat}(aN:g.get l=.loop .ready De n r params assign body d){args:List aa}(aI:wU params.toList args n r=some cR)
  {s1 s2:cU} {x:eb} (bc:iA E p (some l) assign {r:=cR,n,ds:=[],h:=g} .normal s1)
  (afY:s1.h.get l=.loop .ready De n r params assign body d)
  (aj:iA E p (some l) body {s1 with h:=s1.h.put l (.loop .busy De n r params assign body d)} x s2) (zJ:s2.ds=[])
  (Ch:s2.h.get l=.loop .busy De n r params assign body d) :
  call E p (.yield l) args g=some (.bool (aic x),s2.h.put l (ar_ x n r params assign body d)):=by
 obtain⟨c5,g1⟩:=bc.mono;obtain⟨dr,g2⟩:=aj.mono;refine pe.2 ⟨max c5 dr+1,?_⟩;show qn E p (fns E p (max c5 dr)) (.yield l) args g=_;unfold qn;dsimp only;unfold lF;dsimp only;rw[aN];dsimp only;rw[aI];dsimp only;rw[g1 _ (Nat.le_max_left _ _)];dsimp only;rw[afY];dsimp only;rw[g2 _ (Nat.le_max_right _ _)];dsimp only;rw[Ch,zJ];cases x<;>rfl
theorem JC{f:FuncId}{fn:Func}(aJ:E.fn f=some fn)(aI:p f=none){c:Code}(aH:fn.body=some c){args:List aa}{h g:ae}{x:eb}{s:cU}{vs:List aa}
  (aN:iA E p none c {r:=r7 args 0 .nil,n:=max fn.ntmps args.length,ds:=[],h} x s) (ag:x=.normal\/x=.ret) (aC:nT s.ds s.h=some g) (an:jB E s.r g fn.results.toList=some vs)
  {first mid cap:List aa} (he:first++mid++cap=args) :call E p (.func f first cap) mid h=some (kE vs,g):=by
 obtain⟨m,aN⟩:=aN;refine pe.2 ⟨m+1,?_⟩
 have oa:lF E (fns E p m) (.func f first cap) mid h=some (kE vs,g):=by
  unfold lF;dsimp only;rw[aJ];dsimp only;rw[aH];dsimp only;rw[he,aN];dsimp only;cases x<;>first|(rcases ag with h|h<;>cases h;done) |skip
  all_goals
   dsimp only;rw[aC];dsimp only;rw[an];rcases vs with _|⟨v1,_|⟨v2,l⟩⟩<;>rfl
 show qn E p (fns E p m) (.func f first cap) mid h=_;unfold qn;split
 ·rename_i q e;injection e with aG aT bJ;subst aG;rw[aI];subst aT bJ;exact oa
 ·exact oa
def pR:List (Nat×aa)->bE
 |[]=>.nil
 |(t,v)::l=>(pR l).set t v
theorem qJ{r:bE} :∀{l:List (Nat×aa)},(∀q,q∈l->bE.get r q.1=q.2)->fQ (pR l) r
 |[],_=>λt v h=>by cases h
 |(t,v)::l,h=>fQ.set (qJ λq aF=>h q (List.mem_cons_of_mem _ aF)) (h (t,v) (List.mem_cons_self ..))
theorem piece{ro:Option Nat}{n:Nat}{RI:m'}{c:Code}{ρ:bE}{s:cU}{outs:List Tmp}{x:eb}{vs:List aa}{g:ae}(aC:den E (call E p) n RI c (lT outs) ρ s.h=some (x,vs,g))(av:fQ ρ s.r)(aw:s.n=n) :
  ∃aY,iA E p ro c s x aY/\aY.h=g/\aY.n=s.n/\aY.ds=s.ds/\vs=outs.map (bE.get aY.r):=by
 obtain⟨y,aY,bD,w,kX,fX⟩:=SH ro RI c _ ρ s _ aC av aw;unfold lT at fX;cases aN:getAll bD outs with
 |none=>rw[aN]at fX;cases fX
 |some ws=>
  rw[aN]at fX;simp only[Option.some.injEq,Prod.mk.injEq]at fX;obtain⟨rfl,rfl,rfl⟩:=fX;exact⟨aY,w.goes,rfl,w.n,w.ds,zA kX aN⟩
theorem Kt(r:bE)(t:Nat)(v:aa) :bE.get (bu.set r t v) t=v:=by unfold bE.get;rw[bu.lL,if_pos rfl]
theorem Ks(r:bE){t k:Nat}(v:aa)(h:k≠t) :bE.get (bu.set r t v) k=bE.get r k:=by unfold bE.get;rw[bu.lL,if_neg h]
end
def R4(f:Func) :Code:=match f.body with
 |some c=>c
 |none=>.skip
def d_:Code->Code
 | .seq a _=>a
 | .block _ a=>a
 | .rangeFunc _ _ a _=>a
 |c=>c
def d':Code->Code
 | .seq _ b=>b
 | .rangeFunc _ _ _ b=>b
 |c=>c
end Go.a8
namespace Go.Proofs.YtkdjcmpgnkecfaaGreatDoor
open Go.a8
section
variable{PV:cn} [cN PV]
theorem bh.ex{o:Option (aa×ae)}{v:aa}{P:ae->Prop}(h:∃g,o=some (v,g)/\P g) :bh o λw g=>w=v/\P g:=let⟨g,e,q⟩:=h;⟨v,g,e,rfl,q⟩
structure fI(h:ae)(A:gw)(mem held:Nat->Nat)(free:Nat) :Prop where
 w:lE h
 p:er h A mem held free
 ji:A.p≠0/\A.b≠0/\A.q≠0
def gq(A:gw)(i:Nat) :Prop:=i=A.b\/i=A.q\/i=A.p
section
variable{h g:ae}{A:gw}{mem held:Nat->Nat}{free:Nat}
theorem fI.c0(s:fI h A mem held free){S:Nat->Prop}(u:aM S h g)(aA:¬S A.p/\¬S A.b/\¬S A.q/\¬S 0) :fI g A mem held free:=⟨s.w.az u aA.2.2.2,s.p.az u ⟨aA.1,aA.2.1,aA.2.2.1⟩,s.ji⟩
theorem fI.ext(s:fI h A mem held free)(u:bf h g) :fI g A mem held free:=s.c0 u ⟨λe=>e,λe=>e,λe=>e,λe=>e⟩
theorem fI.wid{S:Nat->Prop}(s:fI h A mem held free)(u:aM S h g)(aA:¬S 0) :lE g:=s.w.az u aA
theorem fI.Ng(s:fI h A mem held free) :¬gq A 0:=by
 rintro(e|e|e)
 ·exact s.ji.2.1 e.symm
 ·exact s.ji.2.2 e.symm
 ·exact s.ji.1 e.symm
theorem fI.lt(s:fI h A mem held free){i:Nat}(af:gq A i) :i<h.next:=by have:=s.p.lt;rcases af with e|e|e<;>omega
end
@[simp] theorem asF (a b:Nat) :(aa.ptr a b).cells=[aa.ptr a b]:=rfl
theorem Hi{a b:Nat}(bc:a<2^64)(aj:b<2^64) :r4 .u64 (a:Int) (b:Int)=((a|||b:Nat) :Int):=by
 unfold r4
 have e:(BitVec.ofInt IntKind.u64.bits (a:Int) |||BitVec.ofInt IntKind.u64.bits (b:Int)).toNat=a|||b:=by rw[BitVec.toNat_or,BitVec.ofInt_natCast,BitVec.ofInt_natCast,BitVec.toNat_ofNat,BitVec.toNat_ofNat];show a%2^64|||b%2^64=_;rw[Nat.mod_eq_of_lt bc,Nat.mod_eq_of_lt aj]
 rw[e,<-m_];have:a|||b<2^64:=Nat.or_lt_two_pow bc aj;exact wrap_u64 (by omega) (by omega)
def ey(b:Bool)(n:Nat) :Nat:=if b then n else 0
def pX(s:bj) :Nat:=16*s.n.toNat+(((ey s.here 1|||ey s.write 2) |||ey s.copy 4) |||ey s.out 8)
theorem am6(n:Nat)(a b c d:Bool) :(((n*16|||ey a 1) |||ey b 2) |||ey c 4) |||ey d 8=16*n+(((ey a 1|||ey b 2) |||ey c 4) |||ey d 8):=by
 have ay:(((ey a 1|||ey b 2) |||ey c 4) |||ey d 8) <2^4:=by cases a<;>cases b<;>cases c<;>cases d<;>decide
 have:=Nat.two_pow_add_eq_or_of_lt ay n;rw[show(16:Nat)=2^4 by rfl,this,Nat.mul_comm n,Nat.or_assoc,Nat.or_assoc,Nat.or_assoc,Nat.or_assoc,Nat.or_assoc]
theorem aax{s:bj}(h:s.may=true) :l2 (pX s)=s/\pX s<2^64:=by
 obtain⟨a,b,c,d,n⟩:=s;have hm:=h;simp[bj.may]at h;obtain⟨⟨⟨h1,ab⟩,al⟩,aE⟩:=h;obtain⟨m,rfl⟩:=Int.eq_ofNat_of_zero_le ab;have ay:(((ey a 1|||ey b 2) |||ey c 4) |||ey d 8) <16:=by cases a<;>cases b<;>cases c<;>cases d<;>decide
 have aF:pX ⟨a,b,c,d,(m:Int)⟩ /16=m:=by unfold pX;simp only[Int.toNat_natCast];omega
 have aI:pX ⟨a,b,c,d,(m:Int)⟩=2^4*m+(((ey a 1|||ey b 2) |||ey c 4) |||ey d 8):=rfl
 have aW:∀j,j<4->(pX ⟨a,b,c,d,(m:Int)⟩).testBit j=(((ey a 1|||ey b 2) |||ey c 4) |||ey d 8).testBit j:=λj aO=>by rw[aI,Nat.testBit_two_pow_mul_add _ ay,if_pos aO]
 refine⟨?_,by rw[aI];omega⟩;unfold l2;rw[aF,if_neg (by omega),aW 0 (by omega),aW 1 (by omega),aW 2 (by omega),aW 3 (by omega)]
 have e:(⟨(((ey a 1|||ey b 2) |||ey c 4) |||ey d 8).testBit 0,(((ey a 1|||ey b 2) |||ey c 4) |||ey d 8).testBit 1,(((ey a 1|||ey b 2) |||ey c 4) |||ey d 8).testBit 2,(((ey a 1|||ey b 2) |||ey c 4) |||ey d 8).testBit 3,(m:Int)⟩ :bj)=⟨a,b,c,d,m⟩:=by cases a<;>cases b<;>cases c<;>cases d<;>rfl
 dsimp only;rw[e,if_pos hm]
theorem aqR:l2 0=.zero:=by simp[l2,bj.may,bj.zero]
theorem aqD{m i bits:Nat}(af:i<8)(aj:bits<2^64) :y_ m (e8 m (8*i) 8 (cB bits 0 8)) i (l2 bits):=λj aO=>by
 have vW:cB bits 0 8=bits:=by unfold cB;simp;omega
 have b6:bits<2^(8*8):=aj;show l2 (cB (e8 m (8*i) 8 (cB bits 0 8)) (8*j) 8)=_;rw[vW];by_cases e:j=i
 ·subst e;rw[ti b6,if_pos rfl]
 ·rw[G5 b6 (by omega),if_neg e];rfl
theorem aec(h:ae)(b:Bool)(n:Nat) :call J PV (.func 325 [] []) [.bool b,.int .u64 n] h=some (.int .u64 (ey b n:Nat),h):=by refine aka (x:=.ret) (vs:=[.int .u64 (ey b n:Nat)]) (first:=[]) (cap:=[]) ?_ rfl;cases b<;>simp[Q4,ey]
theorem acQ(h:ae)(n:Int) :gB J h 3 67 (.int .i64 n)=some (.int .u64 (b0 .u64 n)):=by
 have aG:J.ty 67=some w2:=by kernel_rfl
 have aT:J.ty 3=some lA:=by kernel_rfl
 simp only[gB,aG,aT];rfl
theorem am5(h:ae){s:bj}(aA:s=.zero\/s.may=true) :bh (call J PV (.func 265 [] []) [s.eo] h) λv g=>v=.int .u64 (pX s:Nat)/\bf h g:=by
 refine bh.mk (λe=>ajZ (first:=[]) (cap:=[]) e rfl) ?_;unfold QS;refine cM (u6 (cs:=s.vs) rfl) λg o n u=> ?_
 refine vp (k1 o) ?_;refine b4 (bh.ex (Mz g s)) λv g2 ⟨cQ,bn⟩=> ?_
 subst cQ;have cE:=o.ext bn (by omega);rcases aA with rfl|aA
 ·rw[show bj.may .zero=false by rfl];simp only[fD,ar,ba,Bool.not_false,if_true];exact aV.pure ⟨rfl,u.trans bn⟩
 ·rw[aA];simp only[fD,ar,ba,Bool.not_true,Bool.false_eq_true,if_false,l0,lZ,ow,ox,tw,cW,km,dd,cE.rd,bj.vs,List.getElem?_cons_zero,List.getElem?_cons_succ,acQ,nh,Nat.zero_add];have aG:∀b n aD,call J PV (.func 325 [] []) [.bool b,.int .u64 (n:Nat)] aD=some (.int .u64 (ey b n:Nat),aD):=λb n aD=>aec aD b n
  have f1:∀aD,call J PV (.func 325 [] []) [.bool s.here,.int .u64 1] aD=some (.int .u64 (ey s.here 1:Nat),aD):=aG s.here 1;have f2:∀aD,call J PV (.func 325 [] []) [.bool s.write,.int .u64 2] aD=some (.int .u64 (ey s.write 2:Nat),aD):=aG s.write 2;have f3:∀aD,call J PV (.func 325 [] []) [.bool s.copy,.int .u64 4] aD=some (.int .u64 (ey s.copy 4:Nat),aD):=aG s.copy 4;have f4:∀aD,call J PV (.func 325 [] []) [.bool s.out,.int .u64 8] aD=some (.int .u64 (ey s.out 8:Nat),aD):=aG s.out 8;simp only[f1,f2,f3,f4,c3,RY,ar,eh,dd,cE.rd,bj.vs,List.getElem?_cons_zero,List.getElem?_cons_succ];have hm:=aA;simp[bj.may]at hm;obtain⟨⟨⟨c5,dr⟩,eu⟩,e2⟩:=hm;obtain⟨k,av⟩:=Int.eq_ofNat_of_zero_le dr;have ck:b0 .u64 s.n=(k:Int):=by rw[av];exact wrap_u64 (by omega) (by omega)
  have dT:b0 .u64 ((k:Int) *16)=((k*16:Nat) :Int):=by rw[wrap_u64 (by omega) (by omega)];simp
  have fS:∀b n,n<2^64->ey b n<2^64:=λb n aw=>by cases b<;>simp[ey];exact aw
  have bo:=fS s.here 1 (by decide);have cp:=fS s.write 2 (by decide);have ed:=fS s.copy 4 (by decide);have gh:=fS s.out 8 (by decide);have fm:k*16<2^64:=by omega
  have d1:=Nat.or_lt_two_pow fm bo;have d2:=Nat.or_lt_two_pow d1 cp;have d3:=Nat.or_lt_two_pow d2 ed;rw[ck,dT,Hi fm bo,Hi d1 cp,Hi d2 ed,Hi d3 gh,am6];have:pX s=16*k+(((ey s.here 1|||ey s.write 2) |||ey s.copy 4) |||ey s.out 8):=by unfold pX;rw[av];rfl
  rw[<-this];have fin:aV (some (.ret,[aa.int .u64 (pX s:Nat)],g2.aB 21)) λ_ vs cw=>kE vs=.int .u64 (pX s:Nat)/\bf h cw:=aV.pure ⟨rfl,(u.trans bn).trans (aM.aB _ _ _)⟩
  simpa [bx,aa.beq_refl,cE.rd,dd,bj.vs,a8.ni]using fin
section
variable{h:ae}{A:gw}{mem held:Nat->Nat}{free:Nat}
theorem Fj(s:fI h A mem held free){t r nn:Nat}(hf:a8.Obj h t [.ptr A.p 0,.int .i64 r,.int .i64 nn])(aW:t<h.next){node i:Nat}(aw:node<A.n)(aD:held node≠0)(af:i<8){x:bj}(ag:x=.zero\/x.may=true) :
  bh (call J PV (.func 182 [] []) [.ptr t 0,.int .i64 node,.int .i64 i,x.eo] h) λv g=>v=.undef/\(∃fB,y_ (mem node) fB i x/\fI g A (az mem node fB) held free)/\aM (λj=>j=A.b) h g:=by
 refine bh.mk (λe=>ajq (first:=[]) (cap:=[]) e rfl) ?_;unfold Qk;refine cM (u6 (cs:=x.vs) rfl) λg1 ct dR bb=> ?_
 have Nc:=hf.ext bb aW;have aG:b0 .i64 ((i:Int) *8)=((8*i:Nat) :Int):=by rw[wrap_i64 (by omega) (by omega)];omega
 simp only[cl,ar,wW,ha,dd,Nc.rd,List.getElem?_cons_zero,nh,aG];have cf:bf g1 (g1.aB 10):=aM.aB _ _ _;refine vp (k1 (ct.ext cf (by omega))) ?_;refine b4 (am5 _ ag) λv g2 ⟨cQ,bn⟩=> ?_
 subst cQ;have kF:bf h g2:=(bb.trans cf).trans bn;have s2:=s.ext kF
 have aj:pX x<2^64:=by
  rcases ag with rfl|ag
  ·decide
  ·exact(aax ag).2
 have ahp:l2 (pX x)=x:=by
  rcases ag with rfl|ag
  ·exact aqR
  ·exact(aax ag).1
 have ea:=X' s2.w s2.p s2.ji.2.1 (k:=4) (.inr (.inr (.inr rfl))) aw aD (at':=8*i) (by show 8*i+8<=64;omega) aj;refine b4 (bh.ex ea) λv g3 ⟨cQ,ym,bR⟩=> ?_
 subst cQ;have amP:=hf.ext kF aW;have ay:ak J g2 152 (.ptr t 0)=some (.ptr A.p 0):=by rw[ha,amP.rd];rfl
 rw[eh,ze ay,eh];refine aV.pure ⟨rfl,⟨_,by have aW:=aqD (m:=mem node) af aj;rw[ahp]at aW;exact aW,s2.wid bR (λe=>s2.ji.2.1 e.symm),ym,s2.ji⟩,?_⟩;exact(aM.ext kF).trans bR
end
end
section
variable{PV:cn} [cN PV]
theorem S3(h:ae)(x y:bj) :gE J h 9 169 x.eo y.eo=some (decide (x=y)):=by
 obtain⟨a,b,c,d,n⟩:=x;obtain⟨e',dK,h3,fc,ho⟩:=y;have e:gE J h 9 169 (bj.mk a b c d n).eo (bj.mk e' dK h3 fc ho).eo=bif a==e' then(bif b==dK then(bif c==h3 then(bif d==fc then(bif jW n ho then some true else some false)else some false)else some false)else some false)else some false:=by kernel_rfl
 have sM:∀x y:Bool,(x==y)=decide (x=y):=by decide
 have kf:jW n ho=decide (n=ho):=by rw[rn,Bool.eq_iff_iff];simp
 rw[e,kf,sM,sM,sM,sM];by_cases h1:a=e'<;>by_cases ab:b=dK<;>by_cases al:c=h3<;>by_cases aE:d=fc<;>by_cases aL:n=ho<;>simp[h1,ab,al,aE,aL]
@[simp] theorem J8 (h:ae) (x y:bj) :ax J h .eql 169 x.eo y.eo=some (.bool (decide (x=y))):=by show(bif true then(match BinOp.eql,gE J h 9 169 x.eo y.eo with| .eql,some b=>some (aa.bool b) | .neq,some b=>some (.bool (!b)) |_,_=>none)else none)=_;rw[S3];rfl
@[simp] theorem alF (h:ae) (x y:bj) :ax J h .neq 169 x.eo y.eo=some (.bool (decide (x≠y))):=by show(bif true then(match BinOp.neq,gE J h 9 169 x.eo y.eo with| .eql,some b=>some (aa.bool b) | .neq,some b=>some (.bool (!b)) |_,_=>none)else none)=_;rw[S3];simp
def mM(p i:Nat) :aa:=.int .i64 ((p/8^(3-i) %8:Nat) :Int)
def l_(p:Nat) :List aa:=[mM p 0,mM p 1,mM p 2,mM p 3]
def vL(p:Nat) :Nat->List aa
 |0=>[.int .i64 0,.int .i64 0,.int .i64 0,.int .i64 0]
 |1=>[.int .i64 0,.int .i64 0,.int .i64 0,mM p 3]
 |2=>[.int .i64 0,.int .i64 0,mM p 2,mM p 3]
 |3=>[.int .i64 0,mM p 1,mM p 2,mM p 3]
 |_=>l_ p
theorem BJ(p l:Nat) :mM p l=.int .i64 ((pre p (l+1) %8:Nat) :Int):=by unfold mM pre;rw[show 4-(l+1)=3-l by omega]
theorem JS(h:ae){p:Nat}(aI:p<2^60) :bh (call J PV (.func 181 [] []) [.int .i64 p] h) λv g=>v=.agg (l_ p)/\bf h g:=by
 refine bh.mk (λe=>ajp (first:=[]) (cap:=[]) e rfl) ?_;unfold Qj;refine cM tu λg1 ct dR bb=> ?_
 refine cM tu λg2 cE eN bn=> ?_
 have kF:=bb.trans bn
 refine hX (I:=λj vs g=>vs=[.int .i64 ((p/8^j:Nat) :Int),.int .i64 (3-(j:Int))]/\a8.Obj g g1.next (vL p j)/\bf h g/\g.next=g2.next/\a8.Obj g h.next (vL p 0)) 4 (by omega)
  (P:=λx vs g=>x=.exit 0/\(∃a b,vs=[a,b])/\a8.Obj g g1.next (l_ p)/\bf h g/\g.next=g2.next/\a8.Obj g h.next (vL p 0))
  ⟨by simp,cE,kF,rfl,ct.ext bn (by omega)⟩ ?_ ?_
 ·intro j vs g aO ⟨cQ,o,u,aw,wB⟩;subst cQ;have aC:((p/8^j:Nat) :Int).tmod 8=((p/8^j%8:Nat) :Int):=rfl;have aF:((p/8^j:Nat) :Int).tdiv 8=((p/8^(j+1) :Nat) :Int):=by rw[Nat.pow_succ,<-Nat.div_div_eq_div_mul];rfl
  have aj:p/8^(j+1) <2^60:=Nat.lt_of_le_of_lt (Nat.div_le_self _ _) aI
  have hw:b0 .i64 ((p/8^(j+1) :Nat) :Int)=((p/8^(j+1) :Nat) :Int):=by generalize p/8^(j+1)=X at aj|-;exact wrap_i64 (by omega) (by omega)
  have ay:(vL p j).length=4:=by rcases(by omega:j=0\/j=1\/j=2\/j=3\/j=4)with rfl|rfl|rfl|rfl|rfl<;>rfl
  by_cases aE:j=4
  ·subst aE;simp only[bz,bp,gA,ar,ba];rw[if_neg (by decide)];exact aV.pure (.inr ⟨by simp,rfl,⟨_,_,rfl⟩,o,u,aw,wB⟩)
  ·have bJ:(3:Int) -(j:Int)=((3-j:Nat) :Int):=by omega
   have fm:(0:Int)<=((3-j:Nat) :Int):=by omega
   simp only[bz,bp,gA,ar,ba,bJ,decide_eq_true_eq,if_pos fm,tR .i64 (show(8:Int)≠0 by decide),vF .i64 (show(8:Int)≠0 by decide),aC,aF,hw,tz (show 3-j<4 by omega)];refine cX (m5 o (by rw[ay];omega) rfl rfl) λcw ⟨cg,eD,ho⟩=> ?_
   simp only[fT,ar];have qp:b0 .i64 (((3-j:Nat) :Int) -1)=3-((j+1:Nat) :Int):=by rw[wrap_i64 (by omega) (by omega)];omega
   rw[qp];refine aV.pure (.inl ⟨rfl,by omega,rfl,?_,u.local eD (λi af e=>by have:=bb.next;omega),by omega,wB.az eD (by omega) (by omega)⟩)
   have:(vL p j).set (0+(3-j)) (.int .i64 ((p/8^j%8:Nat) :Int))=vL p (j+1):=by rcases(by omega:j=0\/j=1\/j=2\/j=3)with rfl|rfl|rfl|rfl<;>rfl
   rw[this]at cg;exact cg
 ·rintro x vs g ⟨rfl,⟨a,b,rfl⟩,o,u,aw,wB⟩;simp only[bz,bp,hs,if_true];rw[DM o (by simp[l_])];simp only[ar];refine cX (u' (cs:=(l_ p)) wB rfl (by simp[vL,l_]) rfl) λcw ⟨cg,eD,ho⟩=> ?_
  rw[DM cg (by simp[vL,l_])];refine aV.pure ⟨?_,u.local eD (λi af e=>by omega)⟩;rfl
section
variable{h:ae}{A:gw}{mem held:Nat->Nat}{free:Nat}
def hh(h:ae)(A:gw)(t r nn:Nat) :Prop:=a8.Obj h t [.ptr A.p 0,.int .i64 r,.int .i64 nn]
theorem RP{t r nn:Nat}(hf:hh h A t r nn)(p:Int) :call J PV (.func 178 [] []) [.ptr t 0,.int .i64 p] h=some (.int .i64 (if p<0\/4096<=p then 14 else 0),h):=by
 refine ajm (x:=.ret) (vs:=[.int .i64 (if p<0\/4096<=p then 14 else 0)]) (first:=[]) (cap:=[]) ?_ rfl;have r0:=Obj.get hf (i:=0) rfl;by_cases h1:p<0
 ·simp[EA,h1]
 ·by_cases ab:4096<=p
  ·simp[EA,h1,ab]
  ·simp[EA,h1,ab,r0]
def nodeAt(T:dt)(p l:Nat) :Nat:=(T.bd l (pre p l)).getD 0
def fP(T:dt)(p k:Nat) :List aa:=(List.range 4).map λl=>.int .i64 ((if l<k then nodeAt T p l else 0:Nat) :Int)
theorem aaI{T:dt}{p k:Nat}(av:k<4) :(fP T p k).set k (.int .i64 (nodeAt T p k))=fP T p (k+1):=by
 apply List.ext_getElem?;intro j;rw[List.getElem?_set];unfold fP;by_cases aO:j<4
 ·by_cases e:k=j
  ·subst e;simp[av]
  ·have:(j<k+1)↔j<k:=by omega
   simp[e,aO,this]
 ·have:¬k=j:=by omega
  simp[this,aO]
theorem BR(s:fI h A mem held free){t r nn:Nat}(hf:hh h A t r nn)(aW:t<h.next){node i:Nat}(aw:node<A.n)(aD:held node≠0)(af:i<8) :
  bh (call J PV (.func 245 [] []) [.ptr t 0,.int .i64 node,.int .i64 i] h) λv g=>v=(gC mem node i).eo/\bf h g:=
 bh.ex (adA s.w s.p s.ji aW (hf.rd 0) aw aD af)
theorem wA{T:dt}{p l:Nat}(h:T.bd l (pre p l)≠none) :T.bd l (pre p l)=some (nodeAt T p l):=by
 unfold nodeAt;cases e:T.bd l (pre p l)with
 |none=>exact absurd e h
 |some f=>rfl
theorem Pq(s:fI h A mem held free){t nn:Nat}{T:dt}(hf:hh h A t (nodeAt T 0 0) nn)(aW:t<h.next)(lq:hB (gC mem) A.n T)(aD:∀f,IsNode T f->held f≠0){p:Nat}(aI:p<4096) :
  bh (call J PV (.func 180 [] []) [.ptr t 0,.int .i64 p] h) λv g=>∃k,v=.tuple [.agg (fP T p k),.int .i64 k]/\1<=k/\k<=4/\(∀l,l<k->T.bd l (pre p l)≠none)/\(k<4->T.bd k (pre p k)=none)/\bf h g:=by
 refine bh.mk (λe=>ajo (first:=[]) (cap:=[]) e rfl) ?_;unfold Qi;refine cM tu λg1 ct dR bb=> ?_
 have Nc:hh g1 A t _ nn:=Obj.ext hf bb aW;have cS:=Obj.get Nc (i:=1) rfl;simp only[cl,ar,Om,Nat.zero_add,cW,cS];refine b4 (JS g1 (p:=p) (by omega)) λv g2 ⟨cQ,bn⟩=> ?_
 subst cQ;refine cM tu λg3 cO gp bR=> ?_
 have Ch:=bn.next;have k9:=bn.trans bR;have fM:=bb.trans k9;have jz:=ct.ext k9 (by omega);refine cX (u' (cs:=l_ p) cO rfl (by simp[l_]) rfl) λg4 ⟨dG,bO,hU⟩=> ?_
 have iX:=jz.az bO (by omega) (by omega);have nL:bf h g4:=fM.local bO (λi af e=>by omega);have Ga:T.bd 0 (pre p 0)≠none:=by rw[yp aI];exact lq.root
 have ns:nodeAt T 0 0=nodeAt T p 0:=by unfold nodeAt;rw[yp aI];rfl
 refine hX (I:=λi vs g=>vs=[.int .i64 (i:Int),.int .i64 (nodeAt T p i:Nat),.int .i64 (i:Int)]/\(∀l,l<=i->T.bd l (pre p l)≠none)/\a8.Obj g h.next (fP T p i)/\a8.Obj g g2.next (l_ p)/\bf h g/\g4.next<=g.next) 3 (by omega)
  (P:=λx vs g=>x=.exit 0/\(∃k a b,vs=[.int .i64 (k:Nat),a,b]/\1<=k/\k<=4/\(∀l,l<k->T.bd l (pre p l)≠none)/\(k<4->T.bd k (pre p k)=none)/\a8.Obj g h.next (fP T p k))/\bf h g)
  ⟨by rw[ns];rfl,λl ay=>by rw[Nat.le_zero.1 ay];exact Ga,iX,dG,nL,Nat.le_refl _⟩ ?_ ?_
 ·rintro i vs g af ⟨rfl,ay,k3,hH,u,aw⟩;have db:=wA (ay i (Nat.le_refl _));have mi:=lq.lvl _ _ _ db;have gh:(i:Int) <4:=by omega
  have aG:b0 .i64 ((i:Int) +1)=((i+1:Nat) :Int):=by rw[wrap_i64 (by omega) (by omega)];simp
  simp only[bz,bp,dk,ar,ba,decide_eq_true_eq,if_pos gh,tz (show i<4 by omega),Nat.zero_add];refine cX (m5 k3 (by simp[fP];omega) rfl rfl) λcw ⟨cg,eD,ho⟩=> ?_
  rw[aaI (by omega)]at cg;have Hd:=hH.az eD (by omega) (by omega);have D0:bf h cw:=u.local eD (λj aO e=>by omega);have xE:bP cw g2.next i=some (mM p i):=by rw[Hd.rd];rcases(by omega:i=0\/i=1\/i=2\/i=3)with rfl|rfl|rfl|rfl<;>rfl
  simp only[du,aG,ar,cW,xE];rw[BJ];refine b4 (BR (s.ext D0) (show hh cw A t _ nn from Obj.ext hf D0 aW) (Nat.lt_of_lt_of_le aW D0.next) mi.2.2 (aD _ ⟨_,_,db⟩) (show pre p (i+1) %8<8 by omega)) λv g5 ⟨cQ,cD⟩=> ?_
  subst cQ;refine cM (h:=g5) u5 λg6 eO n6 cJ=> ?_
  have as5:=cD.next;have amj:=cg.ext (cD.trans cJ) (by omega);refine cX (q1 (cs:=(gC mem (nodeAt T p i) (pre p (i+1) %8)).vs) eO rfl (by simp[bj.vs]) rfl) λg7 ⟨fj,fk,n7⟩=> ?_
  have r0:=Obj.get fj (i:=0) rfl;have fp:=Obj.get fj (i:=4) rfl;have MV:=amj.az fk (by omega) (by omega);have amp:=(Hd.ext (cD.trans cJ) (by omega)).az fk (by omega) (by omega);have vd:bf h g7:=(D0.trans (cD.trans cJ)).local fk (λj aO e=>by have:=D0.next;omega);simp only[lZ,l0,Nat.zero_add,cW,km,r0,fp,ar,fD,cP];by_cases al:i=3
  ·subst al
   have fin:∀a b,aV (some (.exit 0,[aa.int .i64 ((3+1:Nat) :Int),a,b],g7)) λx dJ g=>(x=.normal/\3<3/\dJ=[.int .i64 ((3+1:Nat) :Int),.int .i64 (nodeAt T p (3+1) :Nat),.int .i64 ((3+1:Nat) :Int)]/\(∀l,l<=3+1->T.bd l (pre p l)≠none)/\a8.Obj g h.next (fP T p (3+1))/\a8.Obj g g2.next (l_ p)/\bf h g/\g4.next<=g.next)\/(x≠.normal/\x=.exit 0/\(∃k a b,dJ=[.int .i64 (k:Nat),a,b]/\1<=k/\k<=4/\(∀l,l<k->T.bd l (pre p l)≠none)/\(k<4->T.bd k (pre p k)=none)/\a8.Obj g h.next (fP T p k))/\bf h g):=λa b=>
    aV.pure (.inr ⟨by simp,rfl,⟨4,a,b,rfl,by omega,by omega,λl kv=>ay l (by omega),by omega,MV⟩,vd⟩)
   cases(gC mem (nodeAt T p 3) (pre p (3+1) %8)).here
   ·simp only[Bool.not_false,Bool.true_eq_false,if_false,c4,bz,bp,cF,if_true,ar,ba];exact fin _ _
   ·simp only[Bool.not_true,if_true,dn,ar,c4,bz,bp,cF,Bool.false_eq_true,if_false,ba];exact fin _ _
  ·have qx:=lq.s9 i (pre p i) (nodeAt T p i) (pre p (i+1) %8) (by omega) db (by omega);have xQ:8*pre p i+pre p (i+1) %8=pre p (i+1):=by have:=o6 p (l:=i) (by omega);omega
   rw[xQ]at qx;cases kx:T.bd (i+1) (pre p (i+1))with
   |none=>
    rw[kx]at qx;rw[qx];simp only[bj.zero,Bool.not_false,Bool.true_eq_false,if_false,c4,bz,bp,cF,if_true,ar,ba];exact aV.pure (.inr ⟨by simp,rfl,⟨i+1,_,_,rfl,by omega,by omega,λl kv=>ay l (by omega),λ_=>kx,MV⟩,vd⟩)
   |some f=>
    rw[kx]at qx;have aJ:nodeAt T p (i+1)=f:=by unfold nodeAt;rw[kx];rfl
    have c':¬(i:Int)=3:=by omega
    have anB:bP g7 g5.next 4=some (.int .i64 (f:Nat)):=by rw[fp,qx];rfl
    rw[qx];simp only[tg,Bool.not_true,if_true,dn,ar,c4,bz,bp,cF,Bool.false_eq_true,if_false,ba,decide_eq_true_eq,if_neg c',aG,du,anB];refine aV.pure (.inl ⟨rfl,by omega,by rw[aJ],λl kv=> ?_,MV,amp,vd,by omega⟩);by_cases e:l=i+1
    ·subst e;rw[kx];simp
    ·exact ay l (by omega)
 ·rintro x vs g ⟨rfl,⟨k,a,b,rfl,bk,c7,lQ,uI,k3⟩,u⟩;simp only[bz,bp,hs,if_true];rw[DM k3 (by simp[fP])];simp only[ar];refine cX (u' (cs:=fP T p k) k3 (by simp[fP]) (by simp[fP]) (by simp[fP,dH])) λcw ⟨cg,eD,ho⟩=> ?_
  have e:List.take 0 (fP T p k)++fP T p k++List.drop (0+(fP T p k).length) (fP T p k)=fP T p k:=by simp
  rw[e]at cg;rw[DM cg (by simp[fP])];refine aV.pure ⟨k,?_,bk,c7,lQ,uI,u.local eD (λi af e=>by omega)⟩;rfl
end
end
section
variable{PV:cn} [cN PV]
theorem abI(f:Nat) :dY J 169 [(0,.bool true),(4,.int .i64 f)]=some (tg f).eo:=by kernel_rfl
theorem yY{T:dt}{p k l:Nat}(ay:l<k)(av:k<=4) :(fP T p k)[l]? =some (.int .i64 (nodeAt T p l:Nat)):=by unfold fP;simp[ay,show l<4 by omega]
theorem aeH{l cs:List aa}(ay:cs.length=l.length) :List.take 0 l++cs++List.drop (0+cs.length) l=cs:=by simp[ay]
theorem ff{h:ae}{id:Nat}{l cs:List aa}(o:a8.Obj h id (List.take 0 l++cs++List.drop (0+cs.length) l))(ay:cs.length=l.length) :a8.Obj h id cs:=by rwa[aeH ay]at o
section
variable{h:ae}{A:gw}{mem held:Nat->Nat}{free:Nat}
structure nf(h:ae)(A:gw)(mem held:Nat->Nat)(t nn:Nat)(T:dt) :Prop where
 obj:hh h A t (nodeAt T 0 0) nn
 lt:t<h.next
 ok:hB (gC mem) A.n T
 held:∀f,IsNode T f->held f≠0
theorem nf.ext{g:ae}{t nn:Nat}{T:dt}(s:nf h A mem held t nn T)(u:bf h g) :nf g A mem held t nn T:=⟨Obj.ext s.obj u s.lt,Nat.lt_of_lt_of_le s.lt u.next,s.ok,s.held⟩
theorem VX{dec:Nat->Nat->bj}{n:Nat}{T:dt}(h:hB dec n T){p k:Nat}(av:k<4)(aw:T.bd k (pre p k)=none) :T.ent p=.zero:=by
 have down:∀d l,l+d=3->k<=l->T.bd l (pre p l)=none:=by
  intro d l ay xN;induction l with
  |zero=>obtain rfl:k=0:=by omega
         exact aw
  |succ l b1=>
   by_cases e:k=l+1
   ·subst e;exact aw
   ·cases aH:T.bd (l+1) (pre p (l+1))with
    |none=>rfl
    |some f=>
     have h1:=h.par l _ (by rw[aH];simp);rw[o6 p (by omega)]at h1
     have b6:∀j,j<=l->k<=j->T.bd j (pre p j)=none:=by
      intro j aO atc;induction j with
      |zero=>obtain rfl:k=0:=by omega
             exact aw
      |succ j ah3=>
       by_cases e:k=j+1
       ·subst e;exact aw
       ·cases sQ:T.bd (j+1) (pre p (j+1))with
        |none=>rfl
        |some ht=>
         have ab:=h.par j _ (by rw[sQ];simp);rw[o6 p (by omega)]at ab;exact absurd (ah3 (by omega) (by omega)) ab
     exact absurd (b6 l (Nat.le_refl _) (by omega)) h1
 apply Classical.byContradiction;intro aH;have:=h.own p aH;rw[<-tp]at this;exact this (down 0 3 rfl (by omega))
theorem Yt{t nn:Nat}{T:dt}(s:fI h A mem held free)(x:nf h A mem held t nn T)(p:Nat) :
  bh (call J PV (.func 163 [] []) [.ptr t 0,.int .i64 p] h) λv g=>v=.tuple [(T.ent p).eo,.int .i64 (if 4096<=p then 14 else if T.ent p=.zero then 12 else 0)]/\bf h g:=by
 refine bh.mk (λe=>ajb (first:=[]) (cap:=[]) e rfl) ?_;unfold P8;refine cM u5 λg1 ct dR bb=> ?_
 have ct:a8.Obj g1 h.next bj.zero.vs:=ct;rw[RP (x.ext bb).obj];simp only[c3];by_cases aE:4096<=p
 ·have xx:(p:Int) <0\/(4096:Int)<=p:=.inr (by omega)
  have aP:T.ent p=.zero:=by apply Classical.byContradiction;intro aH;have:=x.ok.bM aH;omega
  rw[if_pos xx,if_pos aE,aP];simp only[dP,ar,ba];rw[if_pos (by decide),rk,ar];refine cX (q1 (cs:=bj.zero.vs) ct rfl (by simp[bj.vs]) rfl) λg2 ⟨cE,bn,eN⟩=> ?_
  have cE:=ff cE rfl;rw[k1 cE];exact aV.pure ⟨rfl,bb.local bn (λi af e=>by omega)⟩
 ·have xx:¬((p:Int) <0\/(4096:Int)<=p):=by omega
  rw[if_neg xx,if_neg aE];simp only[dP,ar,ba];rw[if_neg (by decide)];have bU:=x.ext bb;refine b4 (Pq (s.ext bb) bU.obj bU.lt x.ok x.held (by omega)) ?_;rintro _ g2 ⟨k,rfl,bk,c7,lQ,uI,bn⟩;have qz:=bn.next;simp only[dA,List.getElem?_cons_zero,List.getElem?_cons_succ,ar];refine cM tu λg3 cO gp bR=> ?_
  have jz:=ct.ext (bn.trans bR) (by omega);refine cX (u' (cs:=fP T p k) cO (by simp[fP]) (by simp[fP]) (by simp[fP,dH])) λg4 ⟨dG,bO,hU⟩=> ?_
  have dG:=ff dG (by simp[fP]);have iX:=jz.az bO (by omega) (by omega);have nL:bf h g4:=((bb.trans bn).trans bR).local bO (λi af e=>by have:=bb.next;omega);simp only[dk,ar,ba,decide_eq_true_eq];by_cases av:k<4
  ·rw[if_pos (by omega),rk,ar,VX x.ok av (uI av)];refine cX (q1 (cs:=bj.zero.vs) iX rfl (by simp[bj.vs]) rfl) λg5 ⟨eH,cD,n5⟩=> ?_
   have eH:=ff eH rfl;rw[k1 eH];exact aV.pure ⟨rfl,nL.local cD (λi af e=>by omega)⟩
  ·obtain rfl:k=4:=by omega
   have db:=wA (lQ 3 (by omega));have mi:=x.ok.lvl _ _ _ db;have aG:b0 .i64 (((4:Nat) :Int) -1)=((3:Nat) :Int):=by decide
   have aT:((p:Int)).tmod 8=((p%8:Nat) :Int):=rfl;rw[if_neg (by omega)];simp only[fT,aG,ar,tz (show 3<4 by omega),cW,dG.rd,yY (show 3<4 by omega) (Nat.le_refl 4),Nat.zero_add,tR .i64 (show(8:Int)≠0 by decide),aT];have mD:=x.ext nL;refine b4 (BR (s.ext nL) mD.obj mD.lt mi.2.2 (x.held _ ⟨_,_,db⟩) (show p%8<8 by omega)) λv g5 ⟨cQ,cD⟩=> ?_
   subst cQ
   have lr:gC mem (nodeAt T p 3) (p%8)=T.ent p:=by have:=x.ok.leaf _ _ (p%8) db (by omega);rw[this,tp];congr 1;omega
   rw[lr];refine cM (h:=g5) u5 λg6 eO n6 cJ=> ?_
   have uu:=cD.next;have r2:=iX.ext (cD.trans cJ) (by omega);refine cX (q1 (cs:=(T.ent p).vs) eO rfl (by simp[bj.vs]) rfl) λg7 ⟨fj,fk,n7⟩=> ?_
   have fj:=ff fj rfl;have G8:=r2.az fk (by omega) (by omega);have vd:bf h g7:=((nL.trans cD).trans cJ).local fk (λi af e=>by have:=nL.next;omega);rw[k1 fj];simp only[ar,rk,J8,ba,decide_eq_true_eq];by_cases aP:T.ent p=.zero
   ·rw[if_pos aP,if_pos aP,aP];refine cX (q1 (cs:=bj.zero.vs) G8 rfl (by simp[bj.vs]) rfl) λg8 ⟨iM,u8,n8⟩=> ?_
    have iM:=ff iM rfl;rw[k1 iM];exact aV.pure ⟨rfl,vd.local u8 (λi af e=>by omega)⟩
   ·rw[if_neg aP,if_neg aP];refine cX (q1 (cs:=(T.ent p).vs) G8 rfl (by simp[bj.vs]) rfl) λg8 ⟨iM,u8,n8⟩=> ?_
    have iM:=ff iM rfl;rw[k1 iM];exact aV.pure ⟨rfl,vd.local u8 (λi af e=>by omega)⟩
end
theorem alE{f:Nat}(aJ:f<4096) :(tg f).may=true:=by show((true !=false) &&decide (0<=(f:Int)) &&decide ((f:Int)<=1048576) && !(false&&false))=true;rw[decide_eq_true (show 0<=(f:Int)by omega),decide_eq_true (show(f:Int)<=1048576 by omega)];rfl
theorem E2(T:dt) :T.ee<=585:=by
 unfold dt.ee;have h0:=oJ (λq=>(T.bd 0 q).isSome) (8^0);have h1:=oJ (λq=>(T.bd 1 q).isSome) (8^1);have ab:=oJ (λq=>(T.bd 2 q).isSome) (8^2);have al:=oJ (λq=>(T.bd 3 q).isSome) (8^3);simp only[dx]at*
 omega
theorem hh.nodes{h:ae}{A:gw}{t r nn:Nat}(o:hh h A t r nn)(m:Nat) :∃g,bN J h 3 (.ptr t 2) (.int .i64 m)=some g/\(hh g A t r m/\aM (λj=>j=t) h g/\g.next=h.next):=by obtain⟨g,h1,ab,al,aE⟩:=m5 (k:=2) (v:=.int .i64 m) o (by simp) rfl rfl;exact⟨g,h1,ab,al,aE⟩
section
variable{h:ae}{A:gw}{mem held:Nat->Nat}{free:Nat}
theorem YM{t:Nat}{T:dt}(s:fI h A mem held free)(x:nf h A mem held t T.ee T)(h1:∀f,IsNode T f->held f=1)(mV:sx T)(n1:free=cq (λf=>held f==0) A.n)(kY:¬gq A t/\t≠0)
  {p:Nat} (aI:p<4096) {iQ:bj} (aA:iQ.may=true) (iG:3<=free\/T.bd 3 (p/8)≠none) :
  bh (call J PV (.func 109 [] []) [.ptr t 0,.int .i64 p,iQ.eo] h) λv g=>v=.int .i64 0/\∃cA cK cH aS,y7 A.n mem held free T p iQ cA cK cH aS/\fI g A cA cK cH/\nf g A cA cK t aS.ee aS/\
   aM (λi=>gq A i\/i=t) h g/\free<=cH+3/\cH<=free/\(T.bd 3 (p/8)≠none->cH=free/\aS.bd=T.bd):=by
 have rG:free<=4096:=by rw[n1];exact Nat.le_trans (oJ _ _) s.p.n
 refine bh.mk (λe=>aiW (first:=[]) (cap:=[]) e rfl) ?_;unfold PQ;refine cM (u6 (cs:=iQ.vs) rfl) λg1 ct dR bb=> ?_
 have bU:=x.ext bb;rw[RP bU.obj];have xx:¬((p:Int) <0\/(4096:Int)<=p):=by omega
 simp only[c3,if_neg xx,dP,ar,ba];rw[if_neg (by decide),k1 ct];simp only[ar];refine b4 (bh.ex (Mz g1 iQ)) λv g2 ⟨cQ,bn⟩=> ?_
 subst cQ;have qz:=bn.next;rw[aA];simp only[fD,ar,ba,Bool.not_true,Bool.false_eq_true,if_false];have eY:=bU.ext bn;refine b4 (Pq ((s.ext bb).ext bn) eY.obj eY.lt x.ok x.held aI) ?_;rintro _ g3 ⟨k,rfl,bk,c7,lQ,uI,bR⟩;have s0:=bR.next;simp only[dA,List.getElem?_cons_zero,List.getElem?_cons_succ,ar];refine cM tu λg4 dG hU bO=> ?_
 have jP:=(bn.trans bR).trans bO;have iX:=ct.ext jP (by omega);refine cX (u' (cs:=fP T p k) dG (by simp[fP]) (by simp[fP]) (by simp[fP,dH])) λg5 ⟨eH,cD,n5⟩=> ?_
 have eH:=ff eH (by simp[fP]);have nF:=iX.az cD (by omega) (by omega);have q6:bf h g5:=(bb.trans jP).local cD (λi af e=>by have:=bb.next;omega);have kH:=x.ext q6;have j6:=s.ext q6;have aG:b0 .i64 (4-(k:Int))=((4-k:Nat) :Int):=by rw[wrap_i64 (by omega) (by omega)];omega
 have r0:=Obj.get kH.obj (i:=0) rfl
 have atb:4-k<=free:=by
  rcases iG with an|an
  ·omega
  ·have:k=4:=by
    apply Classical.byContradiction;intro av;have:=x.ok.own;have aiy:=uI (by omega)
    have r3:∀d l,l+d=3->T.bd l (pre p l)≠none:=by
     intro d;induction d with
     |zero=>intro l ay;obtain rfl:l=3:=by omega
            rw[tp];exact an
     |succ d b1=>intro l ay;have:=x.ok.par l _ (b1 (l+1) (by omega));rwa[o6 p (by omega)]at this
    exact r3 (3-k) k (by omega) aiy
   omega
 have bo:¬(free:Int) <((4-k:Nat) :Int):=by omega
 simp only[fT,aG,ar,cl,wW,ha,r0,zz j6.p,c3,iT,ba,decide_eq_true_eq,if_neg bo];refine b4 (JS g5 (p:=p) (by omega)) λv g6 ⟨cQ,cJ⟩=> ?_
 subst cQ;have F4:=cJ.next;refine cM (h:=g6) tu λg7 fj n7 fk=> ?_
 refine cX (u' (cs:=l_ p) fj rfl (by simp[l_]) rfl) λg8 ⟨iM,u8,n8⟩=> ?_
 have iM:=ff iM rfl;have yN:=cJ.trans fk;have G9:=(nF.ext yN (by omega)).az u8 (by omega) (by omega);have MS:=(eH.ext yN (by omega)).az u8 (by omega) (by omega);have OR:bf h g8:=(q6.trans yN).local u8 (λi af e=>by have:=q6.next;omega);have Es:=x.ext OR;have NM:=s.ext OR;have b6:=x.lt
 refine hX (I:=λj vs g=>∃cA cK cH aS,vs=[.int .i64 0,.int .i64 ((k+j:Nat) :Int)]/\qf A.n mem held free T p cA cK cH aS/\(∀l,l<k+j->aS.bd l (pre p l)≠none)/\(k+j<4->aS.bd (k+j) (pre p (k+j))=none)/\
   fI g A cA cK cH/\hh g A t (nodeAt aS 0 0) aS.ee/\a8.Obj g h.next iQ.vs/\a8.Obj g g3.next (fP aS p (k+j))/\a8.Obj g g6.next (l_ p)/\aM (λi=>gq A i\/i=t) h g/\cH+j=free/\g8.next<=g.next) (4-k) (by omega)
  (P:=λx vs g=>x=.exit 0/\∃cA cK cH aS,vs=[.int .i64 0,.int .i64 4]/\qf A.n mem held free T p cA cK cH aS/\(∀l,l<4->aS.bd l (pre p l)≠none)/\
    fI g A cA cK cH/\hh g A t (nodeAt aS 0 0) aS.ee/\a8.Obj g h.next iQ.vs/\a8.Obj g g3.next (fP aS p 4)/\a8.Obj g g6.next (l_ p)/\aM (λi=>gq A i\/i=t) h g/\cH+(4-k)=free/\g8.next<=g.next)
  ⟨mem,held,free,T,rfl,qf.refl x.ok h1,lQ,uI,NM,Es.obj,G9,MS,iM,aM.ext OR,rfl,Nat.le_refl _⟩ ?_ ?_
 ·rintro j vs g aO ⟨cA,cK,cH,aS,rfl,M,pS,ME,p1,hf,fo,k3,hH,u,aJ,zU⟩;by_cases FX:k+j=4
  ·simp only[bz,bp,dk,ar,ba,decide_eq_true_eq];rw[if_neg (by omega)];refine aV.pure (.inr ⟨by simp,rfl,cA,cK,cH,aS,by rw[FX];rfl,M,by rw[<-FX];exact pS,p1,hf,fo,by rw[<-FX];exact k3,hH,u,by omega,zU⟩)
  ·have FZ:k+j<4:=by omega
   have asZ:=M.nW n1;have xI:0<cq (λf=>cK f==0) A.n:=by omega
   obtain⟨f,f1,f2,f3⟩:=least xI;have Ta:cK f=0:=by simpa using f2
   have r0:=Obj.get hf (i:=0) rfl;have gh:((k+j:Nat) :Int) <4:=by omega
   simp only[bz,bp,dk,ar,ba,decide_eq_true_eq,if_pos gh,cl,wW,ha,r0];have aj:∀i,gq A i->i<h.next:=λi af=>s.lt af
   refine b4 (bh.ex (Yk p1.p (by omega) (by omega) f1 Ta (λj aO=>by simpa using f3 j aO))) λv g9 ⟨cQ,am4,gy⟩=> ?_
   subst cQ;have pT:∀i,h.next<=i->¬(i=A.b\/i=A.q\/i=A.p):=λi af e=>by have:=aj i e;omega
   have alT:¬(t=A.b\/t=A.q\/t=A.p):=kY.1;have n4:=u.next;have as6:=gy.next;have aoD:fI g9 A (az cA f 0) (az cK f 1) (cH-1):=⟨p1.wid gy p1.Ng,am4,p1.ji⟩;have WM:hh g9 A t (nodeAt aS 0 0) aS.ee:=Obj.az hf gy (by omega) alT;have amX:=fo.az gy (by omega) (pT _ (by omega));have amk:=k3.az gy (by omega) (pT _ (by omega));have amq:=hH.az gy (by omega) (pT _ (by omega));have rB:=E2 aS;have aT:b0 .i64 ((aS.ee:Int) +1)=((aS.ee+1:Nat) :Int):=by rw[wrap_i64 (by omega) (by omega)];simp
   have dm:=Obj.get WM (i:=2) rfl;simp only[dA,List.getElem?_cons_zero,List.getElem?_cons_succ,ar,dP,ba];rw[if_neg (by decide)];simp only[cl,ar,HZ,Nat.zero_add,cW,dm,du,aT];refine cX (WM.nodes (aS.ee+1)) λg10 ⟨amM,iw,n10⟩=> ?_
   have cf:bf g10 (g10.aB 12):=aM.aB _ _ _;have aov:=(aoD.c0 iw ⟨λe=>kY.1 (.inr (.inr e.symm)),λe=>kY.1 (.inl e.symm),λe=>kY.1 (.inr (.inl e.symm)),λe=>kY.2 e.symm⟩).ext cf;have WJ:hh (g10.aB 12) A t (nodeAt aS 0 0) (aS.ee+1):=Obj.ext amM cf (by omega);have amU:=(amX.az iw (by omega) (by omega)).ext cf (by omega);have Wj:=(amk.az iw (by omega) (by omega)).ext cf (by omega);have Wo:=(amq.az iw (by omega) (by omega)).ext cf (by omega);have bJ:b0 .i64 (((k+j:Nat) :Int) -1)=((k+j-1:Nat) :Int):=by rw[wrap_i64 (by omega) (by omega)];omega
   have xE:bP (g10.aB 12) g6.next (k+j-1)=some (mM p (k+j-1)):=by rw[Wo.rd];rcases(by omega:k+j=1\/k+j=2\/k+j=3)with e|e|e<;>rw[e]<;>rfl
   have x0:bP (g10.aB 12) g3.next (k+j-1)=some (.int .i64 (nodeAt aS p (k+j-1) :Nat)):=by rw[Wj.rd];exact yY (by omega) (by omega)
   simp only[fT,bJ,ar,tz (show k+j-1<4 by omega),cW,Nat.zero_add,xE,x0,abI];have db:=wA (pS (k+j-1) (by omega));have mi:=M.ok.lvl _ _ _ db;have n4:nodeAt aS p (k+j-1)≠f:=λe=>by have:=M.node _ ⟨_,_,db⟩;rw[e]at this;omega
   have agr:(tg f).may=true:=alE (Nat.lt_of_lt_of_le f1 s.p.n);rw[BJ,show k+j-1+1=k+j by omega];refine b4 (Fj aov WJ (by show t<g10.next+12;omega) mi.2.2 (by rw[eE _ _ n4];have:=M.node _ ⟨_,_,db⟩;omega) (show pre p (k+j) %8<8 by omega) (.inr agr)) ?_;rintro _ g11 ⟨rfl,⟨fB,A3,Dt⟩,iZ⟩;have agx:=iZ.next;have Lt:(g10.aB 12).next=g10.next+12:=rfl
   have oD:=aj A.b (.inl rfl);have amV:=amU.az iZ (by omega) (by omega);have ami:=Wj.az iZ (by omega) (by omega);have amn:=Wo.az iZ (by omega) (by omega);have amN:hh g11 A t (nodeAt aS 0 0) (aS.ee+1):=Obj.az WJ iZ (by omega) (λe=>kY.1 (.inl e));simp only[eh,tz (show k+j<4 by omega),ar,Nat.zero_add];refine cX (m5 ami (by simp[fP];omega) rfl rfl) λg12 ⟨Hb,jC,n12⟩=> ?_
   have e0:b0 .i64 (((k+j:Nat) :Int) +1)=((k+(j+1) :Nat) :Int):=by rw[wrap_i64 (by omega) (by omega)];omega
   simp only[du,e0,ar];rw[eE _ _ n4]at A3;have RC:=M.step aI (l:=k+j-1) (g:=nodeAt aS p (k+j-1)) (f:=f) (m:=fB) (by omega) db (by rw[show k+j-1+1=k+j by omega];exact ME FZ) f1 Ta (by omega) (by rw[show k+j-1+1=k+j by omega];exact A3);rw[show k+j-1+1=k+j by omega]at RC;have agD:k+j≠0:=by omega
   have MH:∀l,l≠k+j->(c8 aS.bd (k+j) (pre p (k+j)) (some f)) l (pre p l)=aS.bd l (pre p l):=λl ay=>by simp[c8,ay]
   have VQ:(c8 aS.bd (k+j) (pre p (k+j)) (some f)) (k+j) (pre p (k+j))=some f:=by simp[c8]
   have iI:(fP aS p (k+j)).set (k+j) (.int .i64 (f:Nat))=fP {aS with bd:=c8 aS.bd (k+j) (pre p (k+j)) (some f)} p (k+(j+1)):=by
    have ag:∀l,l<k+j->nodeAt {aS with bd:=c8 aS.bd (k+j) (pre p (k+j)) (some f)} p l=nodeAt aS p l:=λl ay=>congrArg (λo=>Option.getD o 0) (MH l (by omega))
    have aq:nodeAt {aS with bd:=c8 aS.bd (k+j) (pre p (k+j)) (some f)} p (k+j)=f:=congrArg (λo=>Option.getD o 0) VQ;have aP:=aaI (T:={aS with bd:=c8 aS.bd (k+j) (pre p (k+j)) (some f)}) (p:=p) (k:=k+j) FZ;rw[aq]at aP;rw[show k+(j+1)=k+j+1 by omega,<-aP];congr 1;unfold fP;refine List.map_congr_left λl _=> ?_
    by_cases ay:l<k+j
    ·rw[if_pos ay,if_pos ay,ag l ay]
    ·rw[if_neg ay,if_neg ay]
   rw[iI]at Hb
   have Lv:nodeAt {aS with bd:=c8 aS.bd (k+j) (pre p (k+j)) (some f)} 0 0=nodeAt aS 0 0:=by unfold nodeAt;show(c8 aS.bd (k+j) (pre p (k+j)) (some f) 0 (pre 0 0)).getD 0=_;simp[c8,Ne.symm agD]
   have TO:({aS with bd:=c8 aS.bd (k+j) (pre p (k+j)) (some f)} :dt).ee=aS.ee+1:=by have:=E3 aS (l:=k+j) (q:=pre p (k+j)) (by omega) (Hq aI (by omega)) (some f) aS.ent;rw[ME FZ]at this;simpa using this
   refine aV.pure (.inl ⟨rfl,by omega,_,_,_,_,rfl,RC,?_,?_,Dt.c0 jC ⟨?_,?_,?_,?_⟩,?_,amV.az jC (by omega) (by omega),Hb,amn.az jC (by omega) (by omega),?_,by omega,by omega⟩)
   ·intro l ay;by_cases e:l=k+j
    ·subst e;show c8 aS.bd (k+j) (pre p (k+j)) (some f) (k+j) (pre p (k+j))≠none;rw[VQ];simp
    ·show c8 aS.bd (k+j) (pre p (k+j)) (some f) l (pre p l)≠none;rw[MH l e];exact pS l (by omega)
   ·intro ay;show c8 aS.bd (k+j) (pre p (k+j)) (some f) (k+(j+1)) (pre p (k+(j+1)))=none;rw[MH _ (by omega)];cases aH:aS.bd (k+(j+1)) (pre p (k+(j+1)))with
    |none=>rfl
    |some a=>
     have:=M.ok.par (k+j) _ (show aS.bd (k+j+1) (pre p (k+j+1))≠none by rw[show k+j+1=k+(j+1)by omega,aH];simp);rw[o6 p (by omega)]at this;exact absurd (ME FZ) this
   ·have:=aj A.p (.inr (.inr rfl));omega
   ·omega
   ·have:=aj A.q (.inr (.inl rfl));omega
   ·omega
   ·rw[Lv,TO];exact Obj.az amN jC (by omega) (by omega)
   ·have D6:aM (λi=>gq A i\/i=t) h g9:=u.trans (gy.mono λi _ e=>.inl e);have l1:aM (λi=>gq A i\/i=t) h g10:=D6.trans (iw.mono λi _ e=>.inr e);have D7:aM (λi=>gq A i\/i=t) h g11:=(l1.trans (aM.ext cf)).trans (iZ.mono λi _ e=>.inl (.inl e));exact D7.local jC (λi af e=>by omega)
 ·rintro _ vs g ⟨rfl,cA,cK,cH,aS,rfl,M,pS,p1,hf,fo,k3,hH,u,aJ,zU⟩;have cf:bf g (g.aB 11):=aM.aB _ _ _;have aj:∀i,gq A i->i<h.next:=λi af=>s.lt af
  have n4:=u.next;have bJ:b0 .i64 ((4:Int) -1)=((3:Nat) :Int):=by decide
  have x0:bP g g3.next 3=some (.int .i64 (nodeAt aS p 3:Nat)):=by rw[k3.rd];exact yY (by omega) (by omega)
  have xE:bP g g6.next 3=some (mM p 3):=by rw[hH.rd];rfl
  simp only[bz,bp,hs,if_true,fT,bJ,ar,tz (show 3<4 by omega),cW,dd,Nat.zero_add,x0,xE,k1 (fo.ext cf (by omega))];rw[BJ];have db:=wA (pS 3 (by omega));have mi:=M.ok.lvl _ _ _ db;have fJ:pre p (3+1)=p:=by simp[pre]
  rw[fJ];refine b4 (Fj (p1.ext cf) (show hh (g.aB 11) A t _ _ from Obj.ext hf cf (by omega)) (by show t<g.next+11;omega) mi.2.2 (by have:=M.node _ ⟨_,_,db⟩;omega) (show p%8<8 by omega) (.inr aA)) ?_;rintro _ aeJ ⟨rfl,⟨fB,A3,Dt⟩,iZ⟩;simp only[eh];rw[tp]at db;have R:=M.done mV aI db aA A3;have Dc:hh aeJ A t (nodeAt aS 0 0) aS.ee:=Obj.az (Obj.ext hf cf (by omega)) iZ (by show t<g.next+11;omega) (λe=>kY.1 (.inl e));refine aV.pure ⟨rfl,_,_,_,_,R,Dt,⟨Dc,?_,R.ok,λf aJ=>by have:=R.node f aJ;omega⟩,?_,by omega,by omega,λay=> ?_⟩
  ·have:=iZ.next;have:(g.aB 11).next=g.next+11:=rfl;omega
  ·exact(u.trans (aM.ext cf)).trans (iZ.mono λi _ e=>.inl (.inl e))
  ·have FX:k=4:=by
    apply Classical.byContradiction;intro av
    have r3:∀d l,l+d=3->T.bd l (pre p l)≠none:=by
     intro d;induction d with
     |zero=>intro l kv;obtain rfl:l=3:=by omega
            rw[tp];exact ay
     |succ d b1=>intro l kv;have:=x.ok.par l _ (b1 (l+1) (by omega));rwa[o6 p (by omega)]at this
    exact r3 (3-k) k (by omega) (uI (by omega))
   refine⟨by omega,?_⟩;funext l q;show aS.bd l q=T.bd l q;cases aH:T.bd l q with
   |some a=>exact M.c0 _ _ _ aH
   |none=>
    cases sQ:aS.bd l q with
    |none=>rfl
    |some a=>
     rcases M.only l q (by rw[sQ];simp)with e|e
     ·exact absurd aH e
     ·have atd:=(M.ok.lvl _ _ _ sQ).1;have:=lQ l (by omega);rw[<-e]at this;exact absurd aH this
end
end
end Go.Proofs.YtkdjcmpgnkecfaaGreatDoor
end
