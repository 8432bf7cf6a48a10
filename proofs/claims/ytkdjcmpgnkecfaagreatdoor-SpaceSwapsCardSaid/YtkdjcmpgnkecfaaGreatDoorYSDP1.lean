/-
  Texts B0 R1 W9 R5 W23 W60 M7, joined; own names made short.
-/
import Derived.Test.YtkdjcmpgnkecfaaGreatDoorZ7
set_option linter.unusedVariables false
set_option linter.unusedSimpArgs false
set_option linter.unusedSectionVars false
set_option exponentiation.threshold 600
noncomputable section
namespace Go.Proofs.YtkdjcmpgnkecfaaGreatDoor
instance:DecidableEq bj:=λa b=>
 if h:a.here=b.here/\a.write=b.write/\a.copy=b.copy/\a.out=b.out/\a.n=b.n then isTrue (by cases a;cases b;simp_all)else isFalse (by rintro rfl;simp at h)
instance:DecidableEq aU:=λa b=>
 if h:a.lo=b.lo/\a.af=b.af/\a.perm=b.perm/\a.kind=b.kind/\a.file=b.file/\a.bM=b.bM then isTrue (by cases a;cases b;simp_all)else isFalse (by rintro rfl;simp at h)
open Go.a8
section
set_option maxRecDepth 100000
variable{PV:cn} [cN PV]
def Bp(a0:aa)(C:bW)(h:ae) :Option a1:=U (ax J h .eql 154 a0 .nilPtr) λv1=>bq v1 (some (.ret,[(.int .i64 0)],h)) (U (bB a0) λv2=>U (aQ J 288 v2 3) λv3=>U (ak J h 3 v3) λv4=>some (.ret,[v4],h))
theorem Ma{a0:aa} :LT PV 101 [a0] (Bp a0):=
 cc (f:=Tryz.f101) (.seq (.ah []) (.seq (.seq (.ah []) (.cond (.seq (.ah []) .leaf) .leaf)) (.seq (.ah []) .leaf))) (by kernel_rfl) (b' rfl (by kernel_rfl)) λ_ _=>by kernel_rfl
end
section
variable{PV:cn} [cN PV]
section
variable{h g:ae}{R:ra}{D:ij}{bY:Nat->Nat}{used:Nat}{sec:Nat->Nat}{dh:Nat}
theorem N9(k:hp h R D bY used) :call J PV (.func 101 [] []) [.ptr R.a 0] h=some (.int .i64 (used:Nat),h):=by obtain⟨ex,o⟩:=k.str;refine Ma (x:=.ret) (vs:=[.int .i64 (used:Nat)]) (first:=[]) (cap:=[]) ?_ rfl;simp only[Bp,A6,ar,ba,Bool.false_eq_true,if_false,cl,DI,Nat.zero_add,cW,Obj.get o (i:=3) rfl]
end
end
section
set_option maxRecDepth 100000
variable{PV:cn} [cN PV]
def Bs(a0:aa)(C:bW)(h:ae) :Option a1:=U (ax J h .eql 42 a0 .nilPtr) λv1=>bq v1 (some (.ret,[(.int .i64 0)],h)) (U (bB a0) λv2=>U (aQ J 156 v2 3) λv3=>U (ak J h 154 v3) λv4=>a7 (C (.func 101 [] []) [v4] h) λv5 h1=>some (.ret,[v5],h1))
theorem Mc{a0:aa} :LT PV 40 [a0] (Bs a0):=
 cc (f:=Tryz.f40) (.seq (.ah []) (.seq (.seq (.ah []) (.cond (.seq (.ah []) .leaf) .leaf)) (.seq (.ah []) .leaf))) (by kernel_rfl) (b' rfl (by kernel_rfl)) λ_ _=>by kernel_rfl
end
section
variable{PV:cn} [cN PV]
section
variable{h g:ae}{X:ew}{ρ bD:Nat->Nat}{σ aR:b8}
theorem GZ(k:Sys h X ρ σ) :call J PV (.func 40 [] []) [.ptr X.M 0] h=some (.int .i64 (σ.used:Nat),h):=by refine Mc (x:=.ret) (vs:=[.int .i64 (σ.used:Nat)]) (first:=[]) (cap:=[]) ?_ rfl;simp only[Bs,p4,ar,ba,Bool.false_eq_true,if_false,cl,tv,Nat.zero_add,m3,k.field.2.2.2,N9 k.core.hi,c3]
end
end
section
variable{PV:cn} [cN PV]
theorem JG{dec:Nat->Nat->bj}{n:Nat}{T:dt}(h:hB dec n T) :1<=T.ee:=by
 unfold dt.ee;simp only[dx]
 have:(T.bd 0 0).isSome=true:=by
  cases e:T.bd 0 0 with
  |none=>exact absurd e h.root
  |some f=>rfl
 have h1:cq (λq=>(T.bd 0 q).isSome) (8^0)=1:=by show 0+((T.bd 0 0).isSome).toNat=1;rw[this];rfl
 generalize cq (λq=>(T.bd 1 q).isSome) (8^1)=ao at*
 generalize cq (λq=>(T.bd 2 q).isSome) (8^2)=a2 at*
 generalize cq (λq=>(T.bd 3 q).isSome) (8^3)=a3 at*
 generalize cq (λq=>(T.bd 0 q).isSome) (8^0)=a0 at*
 omega
theorem ML{l:List bH}{x:bH}(h:x∈l) :x.T.ee<=j2 l:=by obtain⟨a,b,rfl⟩:=List.append_of_mem h;rw[MK];show _<=_+(x.T.ee+j2 b);omega
def r1(s:bj) :Bool:=decide (s≠.zero)
def qR(σ:b8) :Nat:=da σ.au r1
structure hN(σ:b8)(s:Nat)(L:List aU)(N:Nat->Prop) :Prop where
 one:∃x,σ.au=[x]/\x.s=s/\x.L=L/\∀q,N q->x.T.ent q≠.zero
 wr:∀x p,x∈σ.au->(x.T.ent p).here=true->(x.T.ent p).write=true
 ring:σ.ring.length=0
 sum:qR σ<=gk σ+σ.used
section
variable{c:df}{σ aR:b8}{s:Nat}{L:List aU}{N:Nat->Prop}{dec:so}
theorem hN.clean(k:hN σ s L N) :∀x p,x∈σ.au->h7 (x.T.ent p)=false:=λx p ag=>by
 cases e:h7 (x.T.ent p)with
 |false=>rfl
 |true=>
  simp only[h7,Bool.and_eq_true,Bool.not_eq_true']at e;have:=k.wr x p ag e.1.1;rw[this]at e;cases e.1.2
theorem hN.idle(k:hN σ s L N)(i:Idle c σ aR) :hN aR s L N where
 one:=by rw[i.au];exact k.one
 wr:=by rw[i.au];exact k.wr
 ring:=by have:=i.ring;have:=k.ring;omega
 sum:=by
  have:=k.sum;unfold qR gk at*
  rw[i.au,i.used];exact this
theorem apa{x cG:bH}(h:view c σ=view c aR)(aA:σ.au=[x])(kj:aR.au=[cG]) :cG.s=x.s/\cG.L=x.L:=by unfold view at h;rw[aA,kj]at h;simp only[List.map_cons,List.map_nil,List.cons.injEq,Prod.mk.injEq,and_true]at h;exact⟨h.1.symm,h.2.1.symm⟩
theorem hN.made(k:hN σ s L N){b:Bool}(m:Made c σ aR b) :hN aR s L N:=by
 obtain⟨x,ag,gm,rR,e6⟩:=k.one;have hlen:=m.len;rw[ag]at hlen;obtain⟨cG,hl⟩:=List.length_eq_one_iff.1 hlen;obtain⟨aG,aT⟩:=apa m.view.symm ag hl;have gL:x∈σ.au:=by rw[ag];simp
 obtain⟨y,aq,f_,CK⟩:=m.sub cG (by rw[hl];simp);obtain rfl:y=x:=by rw[ag]at aq;simpa using aq
 have ji:∀p,cG.T.ent p=y.T.ent p\/((cG.T.ent p).here=false/\y.T.ent p≠.zero/\(cG.T.ent p).out=true):=λp=>by
  rcases CK p with h|⟨h1,ab,al⟩
  ·exact .inl h
  ·rw[k.clean y p gL]at al;exact .inr ⟨h1,ab,al.resolve_left (by decide)⟩
 refine⟨⟨cG,hl,aG.trans gm,aT.trans rR,λq aF=> ?_⟩,λz p aP aD=> ?_,by have:=m.ring;have:=k.ring;omega,?_⟩
 ·rcases ji q with h|⟨_,_,h⟩
  ·rw[h];exact e6 q aF
  ·exact wE h
 ·obtain rfl:z=cG:=by rw[hl]at aP;simpa using aP
  rcases ji p with h|⟨h,_⟩
  ·rw[h]at aD|-;exact k.wr y p gL aD
  ·rw[h]at aD;cases aD
 ·have h1:=m.sum k.clean;have ab:=k.sum
  have al:qR aR<=qR σ:=by
   unfold qR;rw[ag,hl,nG,nG]
   have:cG.T.h4 r1<=y.T.h4 r1:=by
    unfold dt.h4;refine E7 λp aI h=> ?_
    rcases ji p with bC|⟨_,bC,_⟩
    ·rw[bC]at h;exact h
    ·exact decide_eq_true bC
   exact Nat.add_le_add_right this _
  omega
theorem hN.oL(k:hN σ s L N)(af:Inv c σ (λ_=>0) (λ_=>0)){x:bH}(ag:x∈σ.au){p:Nat}{r:aU}{act:Int}(aI:p<4096)(m:Ez c x p r act σ aR)(bc:act=4\/act=5\/act=6\/act=7)(hw:n0 r.perm 2=true) :hN aR s L (λq=>N q\/q=p)/\gk aR<=gk σ+1:=by
 obtain⟨y,aq,f_,x3,e6⟩:=k.one;obtain rfl:x=y:=by rw[aq]at ag;simpa using ag
 obtain⟨a,b,aS,n,st,aA,kj,he,aw,ea⟩:=m.ent;have Gf:st=4\/st=5\/st=6\/st=7:=by rcases ea with rfl|⟨h,_⟩<;>omega
 have ma:je r st (n:Int)=⟨true,true,false,false,n⟩:=by unfold je;rw[if_neg (by omega),if_pos (by omega),hw];rfl
 rw[ma]at he
 have hO:a=[]/\b=[]:=by have:=congrArg List.length (aq.symm.trans aA);simp only[List.length_cons,List.length_nil,List.length_append]at this;exact⟨List.length_eq_zero_iff.1 (by omega),List.length_eq_zero_iff.1 (by omega)⟩
 have h1:=Dk (a:=a) (b:=b) (x:=x) aI he r1;have ab:=Dk (a:=a) (b:=b) (x:=x) aI he (λs=>s.here);rw[<-kj,<-aA]at h1 ab;have al:=m.w7;have aE:=k.sum
 have aL:(r1 (x.T.ent p)).toNat=((x.T.ent p).here).toNat+((x.T.ent p).out).toNat:=by
  unfold r1;by_cases aP:x.T.ent p=.zero
  ·rw[aP];rfl
  ·have:=af.jy ag aP;rw[decide_eq_true aP];cases h1:(x.T.ent p).here<;>cases ab:(x.T.ent p).out<;>simp[bj.may,h1,ab]at this|-
 have aG:(r1 (bj.mk true true false false (n:Int))).toNat=1:=by have:r1 (bj.mk true true false false (n:Int))=true:=decide_eq_true (gZ rfl);rw[this];rfl
 have aT:((bj.mk true true false false (n:Int)).here).toNat=1:=rfl;rw[aG]at h1;rw[aT]at ab;have sL:qR aR+(r1 (x.T.ent p)).toNat=qR σ+1:=h1;have xw:gk aR+((x.T.ent p).here).toNat=gk σ+1:=ab;rw[hO.1,hO.2]at kj;have kj:aR.au=[{x with T:=aS}]:=kj;refine⟨⟨⟨_,kj,f_,x3,λq aF=> ?_⟩,λz q aP aD=> ?_,?_,by omega⟩,by omega⟩
 ·show aS.ent q≠_;rw[he];by_cases e:q=p
  ·subst e;rw[e4];exact gZ rfl
  ·rw[eE _ _ e];exact e6 q (aF.resolve_right e)
 ·obtain rfl:z={x with T:=aS}:=by rw[kj]at aP;simpa using aP
  have aD:(aS.ent q).here=true:=aD;show(aS.ent q).write=true;rw[he]at aD|-;by_cases e:q=p
  ·subst e;rw[e4]
  ·rw[eE _ _ e]at aD|-;exact k.wr x q ag aD
 ·rw[m.ring (by omega)];exact k.ring
theorem hN.sub{IZ:Nat->Prop}(k:hN σ s L N)(h:∀q,IZ q->N q) :hN σ s L IZ:=let⟨x,a,b,d,e⟩:=k.one;⟨⟨x,a,b,d,λq aF=>e q (h q aF)⟩,k.wr,k.ring,k.sum⟩
theorem aqF{use:Int}{p i:Nat}{σ aR:b8}(t:lD c (dD use) s p i σ aR)(aI:p<4096){r:aU}(an:cv L p=some r)(av:r.kind≠1)(hw:n0 r.perm 2=true)(k:hN σ s L N) :
  hN aR s L N/\(i+o3 aR<=o3 σ\/((∀x,x∈aR.au->c_ (dD use) aR x p=1)/\i<=o3 σ+1)):=by
 have aaw:∀{σ:b8} {x y:bH},hN σ s L N->x∈σ.au->y∈σ.au->x=y:=λ{σ x y} k ag aq=>by obtain⟨z,aP,_⟩:=k.one;rw[aP]at ag aq;simp only[List.mem_singleton]at ag aq;rw[ag,aq]
 induction t with
 |nil=>exact⟨k,.inl (by omega)⟩
 |idle t jw K7 id b1=>
  rename_i aX b5;obtain⟨bk,h⟩:=b1 k;refine⟨bk.idle id,?_⟩;have aw:o3 b5=o3 aX:=by unfold o3 gk;rw[id.au,id.free]
  rw[aw];refine h.imp (λh=>h) λh=>⟨λx ag=> ?_,h.2⟩
  rw[id.au]at ag;have:c_ (dD use) b5 x p=c_ (dD use) aX x p:=by unfold c_ my;rw[id.held,id.bY]
  rw[this];exact h.1 x ag
 |make t ag aA h1 ab cr aJ af m b1=>
  rename_i i aX b5 x;obtain⟨bk,h⟩:=b1 k;refine⟨bk.made m,.inl ?_⟩;rcases h with h|⟨h,_⟩
  ·have g1:=m.go rfl;have g2:=m.free;have g3:=m.here;unfold o3 at*
   omega
  ·exact absurd (h x ag) h1
 |BL t af ag aA ki h1 ab aJ oL b1=>
  rename_i i aX b5 x cR;obtain⟨bk,h⟩:=b1 k;obtain⟨y,aq,f_,x3,_⟩:=bk.one;have LJ:x=y:=aaw bk ag (by rw[aq];simp);subst LJ;rw[x3,an]at ki;obtain rfl:=Option.some.inj ki;have aC:c_ (dD use) aX x p=dD use r true (x.T.ent p) (my aX (x.T.ent p)):=by unfold c_;rw[x3,an];rfl
  have hD:c_ (dD use) aX x p=1\/c_ (dD use) aX x p=2\/c_ (dD use) aX x p=3\/c_ (dD use) aX x p=4\/c_ (dD use) aX x p=5\/c_ (dD use) aX x p=6\/c_ (dD use) aX x p=7:=(vM use).all _ _ _ _;have al:c_ (dD use) aX x p≠3:=λe=>av (((vM use).d3 r _ _ (aC.symm.trans e)).2.2)
  have bc:c_ (dD use) aX x p=4\/c_ (dD use) aX x p=5\/c_ (dD use) aX x p=6\/c_ (dD use) aX x p=7:=by omega
  refine⟨((bk.oL af ag aI oL bc hw).1).sub λ_ h=>.inl h,.inr ⟨λz aP=> ?_,?_⟩⟩
  ·obtain⟨a,b,aS,n,st,iW,wi,he,aw,ea⟩:=oL.ent;have lP:({x with T:=aS} :bH)∈b5.au:=by rw[wi];simp
   obtain rfl:=aaw ((bk.oL af ag aI oL bc hw).1.sub λ_ h=>.inl h) lP aP;have Gf:st=4\/st=5\/st=6\/st=7:=by rcases ea with e|⟨e,_⟩<;>omega
   have kx:=SG (m:=(n:Int)) (sh:=my b5 (aS.ent p)) (by rw[<-aC];exact ab) (Or.inr Gf);unfold c_;show dD use ((cv x.L p).getD aU.zero) (cv x.L p).isSome (aS.ent p) _=_;rw[x3,an,he,e4]at*
   exact kx.resolve_right λh=>by omega
  ·rcases h with h|⟨h,_⟩
   ·omega
   ·exact absurd (h x ag) h1
theorem Yd{fl:bj->Bool}{l:List bH}{n:Nat}(aj:∀x p,x∈l->fl (x.T.ent p)=true->(x.T.ent p).n.toNat<n/\0<=(x.T.ent p).n) :dx (λf=>da l λs=>fl s&&s.n==(f:Int)) n=da l fl:=by
 induction l with
 |nil=>exact yB λi _=>uZ _
 |cons x l b1=>
  have fU:dx (λf=>da (x::l) λs=>fl s&&s.n==(f:Int)) n=dx (λf=>x.T.h4 λs=>fl s&&s.n==(f:Int)) n+dx (λf=>da l λs=>fl s&&s.n==(f:Int)) n:=by rw[<-AW];exact p2 λi _=>nG _ _ _
  rw[fU,nG,b1 λy p aq=>aj y p (List.mem_cons_of_mem _ aq)];refine congrArg (· +da l fl) ?_;have aT:dx (λf=>x.T.h4 λs=>fl s&&s.n==(f:Int)) n=dx (λf=>dx (λp=>(fl (x.T.ent p) &&(x.T.ent p).n==(f:Int)).toNat) 4096) n:=p2 λi _=>(ou _ _).symm
  have bJ:x.T.h4 fl=dx (λp=>(fl (x.T.ent p)).toNat) 4096:=(ou _ _).symm;rw[aT,DD,bJ];refine p2 λp _=> ?_
  show dx (λf=>(fl (x.T.ent p) &&(x.T.ent p).n==(f:Int)).toNat) n=_;rw[ou];cases aD:fl (x.T.ent p)with
  |false=>exact kS.2 λf _=>rfl
  |true=>
   obtain⟨h1,ab⟩:=aj x p List.mem_cons_self aD
   have:=tW (f:=λ_=>false) (g:=λf:Nat=>true&&(x.T.ent p).n==(f:Int)) (p:=(x.T.ent p).n.toNat) h1 (λi _ af=>by
    rw[Bool.true_and];cases aj:(x.T.ent p).n==(i:Int)with
    |false=>rfl
    |true=>rw[beq_iff_eq]at aj;omega)
   have z:cq (λ_=>false) n=0:=kS.2 λ_ _=>rfl
   have o:((true&&(x.T.ent p).n==(((x.T.ent p).n.toNat:Nat) :Int))).toNat=1:=by
    have:((x.T.ent p).n==(((x.T.ent p).n.toNat:Nat) :Int))=true:=by rw[beq_iff_eq];omega
    rw[this];rfl
   rw[z,o]at this;simpa using this
theorem hN.afI(k:hN σ s L N)(h:Inv c σ (λ_=>0) (λ_=>0)) :gk σ+1<=c.n:=by
 obtain⟨x,ag,gm,rR,e6⟩:=k.one;have gL:x∈σ.au:=by rw[ag];simp
 have h1:=h.room;have ab:=ML gL;have al:=JG (h.jl x gL);have aj:∀y p,y∈σ.au->(y.T.ent p).here=true->(y.T.ent p).n.toNat<c.n/\0<=(y.T.ent p).n:=λy p aq aD=>⟨h.here y p aq aD,(k2 (h.jy aq (gZ aD))).1⟩
 have aE:=Yd (fl:=λs=>s.here) aj
 have aL:dx (λf=>da σ.au λs=>s.here&&s.n==(f:Int)) c.n<=dx (λf=>(decide (refs σ f≠0)).toNat) c.n:=HS λf aJ=>by
  show da σ.au (b2 f)<=_;by_cases e:da σ.au (b2 f)=0
  ·rw[e];exact Nat.zero_le _
  ·have ml:refs σ f≠0:=by unfold refs;omega
   rw[decide_eq_true ml]
   obtain⟨p,aI,ju⟩ :∃p,p<4096/\b2 f (x.T.ent p)=true:=Classical.byContradiction λaw=>e (by
    rw[ag,nG,uZ];show cq _ 4096+0=0;rw[kS.2 λp aI=> ?_];cases aj:b2 f (x.T.ent p)with
    |false=>rfl
    |true=>exact absurd ⟨p,aI,aj⟩ aw)
   have FH:=ju;unfold b2 at FH;rw[Bool.and_eq_true,beq_iff_eq]at FH;have:=h.write x p gL FH.1 (k.wr x p gL FH.1);rw[show(x.T.ent p).n.toNat=f by omega]at this;unfold refs at this;show _<=1;omega
 rw[ou]at aL;unfold gk;omega
theorem hN.alS(k:hN σ s L N)(h:Inv c σ (λ_=>0) (λ_=>0))(e1:∀s p,¬c.loose s p)(aw:om L+4<=c.n)(aA:mu L<c.c1)(aJ:σ.free<4) :¬pa c σ:=by
 rintro⟨_,h1⟩;obtain⟨x,ag,gm,rR,e6⟩:=k.one;have gL:x∈σ.au:=by rw[ag];simp
 have iQ:∀f:bH->Nat,mz f σ.au=f x:=λf=>by rw[ag];show f x+0=_;omega
 rcases h1 with h1|h1
 ·have ab:da σ.au (λs=>s.here)=0:=by
   rw[ag,nG,uZ];show cq _ 4096+0=0;rw[kS.2 λp aI=> ?_];cases aD:(x.T.ent p).here with
   |false=>exact aD
   |true=>
    have al:=h1 x p gL (gZ aD);have aE:=k.wr x p gL aD;have aL:=h.write x p gL aD aE;have bm:=h.data _ (h.here x p gL aD) (λy aq=>h.pv gL aD aq);have cr:σ.held (x.T.ent p).n.toNat=1:=by omega
    unfold Ad at al;rw[aD,aE,cr]at al;cases al
  have al:=Xb σ c.n;have aE:=h.room;have aL:=VZ h e1;rw[iQ,rR]at aL;have:=k.ring;omega
 ·have aj:∀y p,y∈σ.au->(y.T.ent p).out=true->(y.T.ent p).n.toNat<c.c1/\0<=(y.T.ent p).n:=λy p aq aD=>⟨h.out y p aq aD,(k2 (h.jy aq (wE aD))).1⟩
  have ab:=Yd (fl:=λs=>s.out) aj;have al:=Nw h e1 (P:=λs=>s.out) rfl;rw[iQ,rR]at al
  have aE:dx (λ_=>(true).toNat) c.c1<=dx (λf=>da σ.au λs=>s.out&&s.n==(f:Int)) c.c1:=HS λi af=>by have aL:=h.slot i af;have bm:=h1 i af;unfold lY at aL;show 1<=da σ.au (dg i);omega
  rw[ou,JJ]at aE;omega
theorem hN.many(k:hN σ s L N)(h:Inv c σ (λ_=>0) (λ_=>0)){q:Nat}(aF:q<=4096)(e6:∀p,p<q->N p) :q+1<=σ.used+c.n:=by
 obtain⟨x,ag,gm,rR,lP⟩:=k.one;have h1:=k.afI h;have ab:=k.sum
 have al:q<=qR σ:=by
  unfold qR;rw[ag,nG,uZ];have aE:cq (λp=>decide (p<q)) 4096<=x.T.h4 r1:=E7 λp aI h=>decide_eq_true (lP p (e6 p (of_decide_eq_true h)))
  have aL:∀n,q<=n->cq (λp=>decide (p<q)) n=q:=by
   intro n aw;induction n with
   |zero=>show 0=q;omega
   |succ n b1=>
    rw[cq];by_cases e:q<=n
    ·rw[b1 e,decide_eq_false (by omega)];rfl
    ·have:q=n+1:=by omega
     subst this;rw[decide_eq_true (Nat.lt_succ_self n),xj (g:=λ_=>true) λi af=>decide_eq_true (by omega),JJ];rfl
  have:=aL 4096 aF;omega
 omega
end
section
variable{h g:ae}{X:ew}{c:df}{ρ bD:Nat->Nat}{σ aR:b8}{s:Nat}{L:List aU}{N:Nat->Prop}
theorem aaB(k:Good h X c ρ σ (λ_=>0) (λ_=>0))(e1:∀s p,¬c.loose s p)(Yf:hN σ s L N)(aw:om L+4<=c.n)(aA:mu L<c.c1)(dB:mu L<=190){f:Nat->Option Nat}(ai:view c σ=[(s,L,f)]){addr:Nat}(bc:addr<9223372036854775808)(use:Int)(ku:mE L (addr/64) use){r:aU}(an:cv L (addr/64:Nat)=some r)(av:r.kind≠1)(hw:n0 r.perm 2=true){b:Nat}(aj:b<256) :
  bh (call J PV (.func 33 [] []) [.ptr s 0,.int .i64 addr,.int .i64 use,.int .u8 b] h) λv g=>bX ρ h g/\∃b5 ev m fB,(∀i,i<h.next->ev i=ρ i)/\Good g X c ev b5 (λ_=>0) (λ_=>0)/\hN b5 s L (λq=>N q\/q=addr/64)/\f (addr/64)=some m/\fB=(if use=2 then e8 m (addr%64) 1 b else m)/\
   v=.tuple [.int .u8 (cB fB (addr%64) 1:Nat),.int .i64 0]/\view c b5=[(s,L,iu (addr/64) fB f)]:=by
 obtain⟨x,ag,rfl,rR,lP⟩:=Yf.one;have gL:x∈σ.au:=by rw[ag];simp
 have aI:addr/64<4096:=by have eK:=k.inv.hJ x gL;rw[rR]at eK;obtain⟨cR,_,h1,ab,al⟩:=NA eK (p:=addr/64) (by rw[an];simp);omega
 have afW:cont c σ x=f:=by unfold view at ai;rw[ag]at ai;simp only[List.map_cons,List.map_nil,List.cons.injEq,Prod.mk.injEq,and_true]at ai;exact ai.2.2
 have atr:o3 σ<=194:=by
  have h1:=Nw k.inv e1 (P:=λs=>s.here) rfl;have ab:mz (λx:bH=>mu x.L) σ.au=mu L:=by rw[ag,<-rR];show mu x.L+0=_;omega
  unfold o3 gk;omega
 refine bh.mono (aaz k gL bc use aj) ?_;rintro v g ⟨w,i,aX,bU,dy,us,aH⟩;refine⟨w,?_⟩;have UD:=us.mem;obtain⟨p3,aW⟩:=aqF us.dS aI an av hw Yf;rcases aH with⟨rfl,aC,bk⟩ |⟨rfl,ku,aC,bk⟩ |⟨aC,m,b5,hm,b_,ep,fw,F_,oZ,nt,nu,rfl⟩
 ·exact absurd ku (by rw[<-rR,<-us.L];exact JR.1 aC)
 ·exfalso;rcases aC with h1|⟨h1,ab,al,_⟩
  ·rcases aW with h|⟨_,h⟩<;>omega
  ·exact p3.alS bk.inv e1 aw aA h1 ab
 ·obtain⟨ku,uk,ahv,Bn,atH,aD⟩:=aay k gL us aC hm b_.ids ep nt nu;obtain⟨y,aq,f_,x3,rS⟩:=p3.one;have z7:bU=y:=by rw[aq]at UD;simpa using UD
  refine⟨b5,dy,m,_,us.ro,b_,⟨⟨y,by rw[ep];exact aq,f_,x3,λq aF=> ?_⟩,by rw[ep];exact p3.wr,by rw[F_];exact p3.ring,?_⟩,by rw[<-afW];exact uk,rfl,rfl,?_⟩
  ·rcases aF with aF|rfl
   ·exact rS q aF
   ·rw[<-z7];exact gZ aD
  ·have:=p3.sum;unfold qR gk at*
   rw[ep,oZ];exact this
  ·rw[ahv,ai];simp[m9]
end
end
theorem I'(a:Int){m:Nat}(hm:m<=1000) :∃n:Nat,n<=m/\jb .i64 a m=n:=by
 have hle:(BitVec.ofInt 64 a&&&BitVec.ofInt 64 (m:Int)).toNat<=m:=by rw[BitVec.toNat_and];refine Nat.le_trans Nat.and_le_right ?_;rw[BitVec.ofInt_natCast,BitVec.toNat_ofNat];exact Nat.mod_le _ _
 refine⟨_,hle,?_⟩;show IntKind.i64.wrap (((BitVec.ofInt 64 a&&&BitVec.ofInt 64 (m:Int)).toNat:Nat) :Int)=_;generalize (BitVec.ofInt 64 a&&&BitVec.ofInt 64 (m:Int)).toNat=n at hle;have h:=wrap_i64 (n:=(n:Int)) (by omega) (by omega);rw[m_]at h;exact h
def lW(c:df)(r:aU) :Nat->Option Nat:=λp=>if r.has p then some (base c r p)else none
section
variable{h g:ae}{X:ew}{c:df}{ρ bD:Nat->Nat}{σ aR:b8}{PV:cn} [cN PV]
theorem JL{σ:b8}{x:bH}{r:aU}(dB:x.L=[r])(aP:∀p,x.T.ent p=.zero) :cont c σ x=lW c r:=funext λp=>by
 rw[zm (aP p)];unfold zg lW;rw[dB,AG];by_cases aD:r.has p=true
 ·rw[if_pos aD,if_pos aD];rfl
 ·rw[if_neg aD,if_neg aD];rfl
theorem GU(k:Good h X c ρ σ (λ_=>0) (λ_=>0))(e1:∀s p,¬c.loose s p){a b:List (Nat×List aU×(Nat->Option Nat))}{s:Nat}{f:Nat->Option Nat}(ai:view c σ=a++(s,[],f)::b){r:aU}(hm:r.may=true) :
  bh (call J PV (.func 31 [] []) [.ptr s 0,.agg r.vs] h) λv g=>v=.int .i64 0/\bX ρ h g/\∃aR bD,(∀i,i<h.next->bD i=ρ i)/\Good g X c bD aR (λ_=>0) (λ_=>0)/\view c aR=a++(s,[r],lW c r)::b/\aR.free=σ.free/\aR.ring=σ.ring/\aR.used=σ.used/\∀y,y∈aR.au->y.s=s->∀p,y.T.ent p=.zero:=by
 unfold view at ai;obtain⟨A,aaU,aA,rfl,sM⟩:=List.map_eq_append_iff.1 ai;obtain⟨x,B,rfl,ag,rfl⟩:=List.map_eq_cons_iff.1 sM;simp only[Prod.mk.injEq]at ag;obtain⟨rfl,dB,aJ⟩:=ag;have gL:x∈σ.au:=by rw[aA];simp
 have aP:∀p,x.T.ent p=.zero:=λp=>Classical.byContradiction λaw=>by
  rcases k.inv.mL x p gL aw with h1|h1
  ·rw[dB]at h1;exact h1 rfl
  ·exact e1 _ _ h1
 refine bh.mono (GS k e1 aA r) ?_;rintro v g ⟨w,⟨hk,_⟩ |⟨_,⟨y,aq,_⟩,_⟩ |⟨_,_,rfl,oB,an,c7⟩⟩
 ·rw[hm]at hk;cases hk
 ·rw[dB]at aq;cases aq
 ·refine⟨rfl,w,_,oB,an,c7,?_,rfl,rfl,rfl,λy aq e=>by
   obtain rfl:=c7.iP aq (List.mem_append_right _ List.mem_cons_self) e
   exact aP⟩
  have aG:(iK r x.L).foldl e9 []=[r]:=by rw[dB];exact LU r (nE hm).2.1
  unfold view;simp only[aG,List.map_append,List.map_cons];rw[JL (x:={x with L:=[r]}) rfl aP];rfl
end
end Go.Proofs.YtkdjcmpgnkecfaaGreatDoor
end
