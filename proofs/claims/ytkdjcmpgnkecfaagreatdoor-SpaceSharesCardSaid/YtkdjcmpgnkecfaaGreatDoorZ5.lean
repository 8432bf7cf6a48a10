/-
  Texts W4 R1 W8 R2 L11 W10 W11 W12 W13 W14 R4 W17 W18 W5 W6 W7 D6 W16 W9 W19 W20 W21 W22, joined; own names made short.
-/
import Derived.Test.YtkdjcmpgnkecfaaGreatDoorZ4
set_option linter.unusedVariables false
set_option linter.unusedSimpArgs false
set_option linter.unusedSectionVars false
set_option exponentiation.threshold 600
noncomputable section
namespace Go.Proofs.YtkdjcmpgnkecfaaGreatDoor
open Go.a8
section
variable{PV:cn} [cN PV]
section
variable{h:ae}{A:gw}{mem held:Nat->Nat}{free:Nat}
theorem abv(s:fI h A mem held free){t r nn:Nat}(hf:hh h A t r nn)(aW:t<h.next){node:Nat}(aw:node<A.n)(aD:held node≠0) :
  bh (call J PV (.func 262 [] []) [.ptr t 0,.int .i64 node] h) λv g=>∃b,v=.bool b/\(b=true↔∀i,i<8->gC mem node i=.zero)/\bf h g:=by
 refine bh.mk (λe=>ajX (first:=[]) (cap:=[]) e rfl) ?_;unfold QQ
 refine hX (I:=λi vs g=>vs=[.bool false,.int .i64 (i:Nat)]/\(∀j,j<i->gC mem node j=.zero)/\bf h g) 8 (by omega)
  (P:=λx vs g=>bf h g/\((x=.exit 0/\(∃a b,vs=[a,b])/\∀i,i<8->gC mem node i=.zero)\/(x=.ret/\(∃b,vs=[.bool false,b])/\¬∀i,i<8->gC mem node i=.zero)))
  ⟨rfl,by omega,aM.refl _ _⟩ ?_ ?_
 ·rintro i vs g af ⟨rfl,aP,u⟩;simp only[bz,bp,dk,ar,ba,decide_eq_true_eq];by_cases cz:i=8
  ·rw[if_neg (by omega)];exact aV.pure (.inr ⟨by simp,u,.inl ⟨rfl,⟨_,_,rfl⟩,λj aO=>aP j (by omega)⟩⟩)
  ·rw[if_pos (by omega)];refine b4 (BR (s.ext u) (show hh g A t _ nn from Obj.ext hf u aW) (Nat.lt_of_lt_of_le aW u.next) aw aD (show i<8 by omega)) λv cw ⟨cQ,eD⟩=> ?_
   subst cQ;have aG:b0 .i64 ((i:Int) +1)=((i+1:Nat) :Int):=by rw[wrap_i64 (by omega) (by omega)];simp
   simp only[rk,ar,alF,ba,decide_eq_true_eq];by_cases aC:gC mem node i=.zero
   ·rw[if_neg (λe=>e aC)];simp only[du,aG,ar];refine aV.pure (.inl ⟨rfl,by omega,rfl,λj aO=> ?_,u.trans eD⟩);by_cases e:j=i
    ·subst e;exact aC
    ·exact aP j (by omega)
   ·rw[if_pos aC];exact aV.pure (.inr ⟨by simp,u.trans eD,.inr ⟨rfl,⟨_,rfl⟩,λaH=>aC (aH i (by omega))⟩⟩)
 ·rintro x vs g ⟨u,⟨rfl,⟨a,b,rfl⟩,aP⟩ |⟨rfl,⟨b,rfl⟩,aP⟩⟩
  ·simp only[bz,bp,hs,if_true];exact aV.pure ⟨true,rfl,by simpa using aP,u⟩
  ·simp only[bz,bp,pj];exact aV.pure ⟨false,rfl,by simpa using aP,u⟩
theorem Ym{t:Nat}{T:dt}(s:fI h A mem held free)(x:nf h A mem held t T.ee T)(h1:∀f,IsNode T f->held f=1)(mV:sx T)(rG:free<=4096)(kY:¬gq A t/\t≠0)
  {p:Nat} (he:T.ent p≠.zero) :
  bh (call J PV (.func 174 [] []) [.ptr t 0,.int .i64 p] h) λv g=>v=.tuple [(T.ent p).eo,.int .i64 0]/\∃cA cK cH aS,y7 A.n mem held free T p .zero cA cK cH aS/\fI g A cA cK cH/\nf g A cA cK t aS.ee aS/\
   aM (λi=>gq A i\/i=t) h g/\free<=cH/\cH<=free+3:=by
 have aI:=x.ok.bM he
 have r3:∀l,l<4->T.bd l (pre p l)≠none:=by
  have:∀d l,l+d=3->T.bd l (pre p l)≠none:=by
   intro d;induction d with
   |zero=>intro l ay;obtain rfl:l=3:=by omega
          rw[tp];exact x.ok.own p he
   |succ d b1=>intro l ay;have:=x.ok.par l _ (b1 (l+1) (by omega));rwa[o6 p (by omega)]at this
  exact λl ay=>this (3-l) l (by omega)
 refine bh.mk (λe=>ajj (first:=[]) (cap:=[]) e rfl) ?_;unfold Qe;refine cM u5 λg1 ct dR bb=> ?_
 have ct:a8.Obj g1 h.next bj.zero.vs:=ct;refine b4 (Yt (s.ext bb) (x.ext bb) p) ?_;rintro _ g2 ⟨rfl,bn⟩;rw[if_neg (by omega),if_neg he];have qz:=bn.next;simp only[dA,List.getElem?_cons_zero,List.getElem?_cons_succ,ar];refine cM u5 λg3 cO gp bR=> ?_
 have jz:=ct.ext (bn.trans bR) (by omega);refine cX (q1 (cs:=(T.ent p).vs) cO rfl (by simp[bj.vs]) rfl) λg4 ⟨dG,bO,hU⟩=> ?_
 have dG:=ff dG rfl;have iX:=jz.az bO (by omega) (by omega);have nL:bf h g4:=((bb.trans bn).trans bR).local bO (λi af e=>by have:=bb.next;omega);simp only[dP,ar,ba];rw[if_neg (by decide)];have mD:=x.ext nL;refine b4 (Pq (s.ext nL) mD.obj mD.lt x.ok x.held aI) ?_;rintro _ g5 ⟨k,rfl,bk,c7,lQ,uI,cD⟩
 obtain rfl:k=4:=by apply Classical.byContradiction;intro av;exact r3 k (by omega) (uI (by omega))
 have uu:=cD.next;simp only[dA,List.getElem?_cons_zero,List.getElem?_cons_succ,ar];refine cM (h:=g5) tu λg6 eO n6 cJ=> ?_
 refine cX (u' (cs:=fP T p 4) eO (by simp[fP]) (by simp[fP]) (by simp[fP,dH])) λg7 ⟨fj,fk,n7⟩=> ?_
 have fj:=ff fj (by simp[fP]);have D4:=cD.trans cJ;have G8:=(iX.ext D4 (by omega)).az fk (by omega) (by omega);have ame:=(dG.ext D4 (by omega)).az fk (by omega) (by omega);have vd:bf h g7:=(nL.trans D4).local fk (λi af e=>by have:=nL.next;omega);refine b4 (JS g7 (p:=p) (by omega)) λv g8 ⟨cQ,u8⟩=> ?_
 subst cQ;have agz:=u8.next;refine cM (h:=g8) tu λg9 uQ n9 gy=> ?_
 refine cX (u' (cs:=l_ p) uQ rfl (by simp[l_]) rfl) λg10 ⟨m0,iw,n10⟩=> ?_
 have m0:=ff m0 rfl;have Ia:=u8.trans gy;have cf:bf g10 (g10.aB 11):=aM.aB _ _ _;have al4:=((G8.ext Ia (by omega)).az iw (by omega) (by omega)).ext cf (by omega);have amf:=((ame.ext Ia (by omega)).az iw (by omega) (by omega)).ext cf (by omega);have Wd:=((fj.ext Ia (by omega)).az iw (by omega) (by omega)).ext cf (by omega);have V7:=m0.ext cf (by omega);have H_:bf h (g10.aB 11):=((vd.trans Ia).local iw (λi af e=>by have:=vd.next;omega)).trans cf;have tf:(g10.aB 11).next=g10.next+11:=rfl
 have bJ:b0 .i64 (((4:Nat) :Int) -1)=((3:Nat) :Int):=by decide
 have x0:bP (g10.aB 11) g5.next 3=some (.int .i64 (nodeAt T p 3:Nat)):=by rw[Wd.rd];exact yY (by omega) (by omega)
 have xE:bP (g10.aB 11) g8.next 3=some (mM p 3):=by rw[V7.rd];rfl
 simp only[fT,bJ,ar,tz (show 3<4 by omega),cW,Nat.zero_add,x0,xE,rk];rw[BJ,show pre p (3+1)=p by simp[pre]];have Lj:=wA (r3 3 (by omega));have agm:=x.ok.lvl _ _ _ Lj;have Ir:=x.ext H_;have b6:=x.lt;have aj:∀i,gq A i->i<h.next:=λi af=>s.lt af
 refine b4 (Fj (s.ext H_) Ir.obj Ir.lt agm.2.2 (x.held _ ⟨_,_,Lj⟩) (show p%8<8 by omega) (.inl rfl)) ?_;rintro _ g11 ⟨rfl,⟨fB,A3,Dt⟩,iZ⟩;have oD:=aj A.b (.inl rfl);have agx:=iZ.next;have atD:=H_.next;have aa2:=o'.start (p:=p) (free:=free) x.ok h1 (by rw[<-tp];exact Lj) A3;simp only[eh,fT,bJ,ar]
 refine hX (I:=λj vs g=>∃cA cK cH aS,vs=[.int .i64 ((3-j:Nat) :Int)]/\o' A.n mem held free T p (3-j) cA cK cH aS/\(∀l,l<=3-j->aS.bd l (pre p l)=some (nodeAt T p l))/\
   fI g A cA cK cH/\hh g A t (nodeAt aS 0 0) aS.ee/\a8.Obj g h.next bj.zero.vs/\a8.Obj g g2.next (T.ent p).vs/\a8.Obj g g5.next (fP T p 4)/\a8.Obj g g8.next (l_ p)/\aM (λi=>gq A i\/i=t) h g/\free<=cH/\cH<=free+j/\g11.next<=g.next) 3 (by omega)
  (P:=λx vs g=>x=.exit 0/\(∃a,vs=[a])/\∃cA cK cH aS k,o' A.n mem held free T p k cA cK cH aS/\(k=0\/∃f,k<=3/\aS.bd k (pre p k)=some f/\∃i,i<8/\rm (cA f) i≠.zero)/\
    fI g A cA cK cH/\hh g A t (nodeAt aS 0 0) aS.ee/\a8.Obj g h.next bj.zero.vs/\a8.Obj g g2.next (T.ent p).vs/\aM (λi=>gq A i\/i=t) h g/\free<=cH/\cH<=free+3/\g11.next<=g.next)
  ⟨_,_,_,_,rfl,aa2,λl ay=>wA (r3 l (by omega)),Dt,Obj.az Ir.obj iZ Ir.lt (λe=>kY.1 (.inl e)),al4.az iZ (by omega) (by omega),amf.az iZ (by omega) (by omega),Wd.az iZ (by omega) (by omega),V7.az iZ (by omega) (by omega),
   (aM.ext H_).trans (iZ.mono λi _ e=>.inl (.inl e)),Nat.le_refl _,by omega,Nat.le_refl _⟩ ?_ ?_
 ·rintro j vs g aO ⟨cA,cK,cH,aS,rfl,G,gl,p1,hf,k4,He,k3,hH,u,rF,v7,zU⟩;simp only[bz,bp,iT,ar,cP,decide_eq_true_eq];by_cases al:j=3
  ·subst al;have fm:¬(0:Int) <((3-3:Nat) :Int):=by omega
   rw[show decide ((0:Int) <((3-3:Nat) :Int))=false by decide];simp only[Bool.false_eq_true,if_false,c4,bz,bp,cF,ar,ba];exact aV.pure (.inr ⟨by simp,rfl,⟨_,rfl⟩,cA,cK,cH,aS,0,G,.inl rfl,p1,hf,k4,He,u,rF,v7,zU⟩)
  ·have fm:(0:Int) <((3-j:Nat) :Int):=by omega
   rw[decide_eq_true fm,if_pos fm];have n4:=u.next;have x0:bP g g5.next (3-j)=some (.int .i64 (nodeAt T p (3-j) :Nat)):=by rw[k3.rd];exact yY (by omega) (by omega)
   simp only[tz (show 3-j<4 by omega),ar,cW,Nat.zero_add,x0];have db:=gl (3-j) (Nat.le_refl _);have mi:=G.ok.lvl _ _ _ db;have uw:=G.node _ ⟨_,_,db⟩;refine fO (P:=λy vs cw=>y=.normal/\∃b,vs=[.bool b]/\(b=true↔∀i,i<8->gC cA (nodeAt T p (3-j)) i=.zero)/\bf g cw) (b4 (abv p1 hf (by omega) mi.2.2 (by omega)) ?_) ?_
   ·rintro _ cw ⟨b,rfl,gK,eD⟩;exact aV.pure ⟨rfl,b,rfl,gK,eD⟩
   ·rintro _ _ cw ⟨rfl,b,rfl,gK,eD⟩;have wc:=eD.next;have WO:=k4.ext eD (by omega);have Wq:=He.ext eD (by omega);have Wi:=k3.ext eD (by omega);have Hd:=hH.ext eD (by omega);have NV:=p1.ext eD;have Dc:hh cw A t _ _:=Obj.ext hf eD (by omega);have aau:aM (λi=>gq A i\/i=t) h cw:=u.trans (aM.ext eD);simp only[bz,bp,cF,if_true,ar,ba];cases b with
    |false=>
     simp only[Bool.false_eq_true,if_false]
     have agK:∃i,i<8/\rm (cA (nodeAt T p (3-j))) i≠.zero:=by
      apply Classical.byContradiction;intro aH
      have:false=true:=gK.2 λi af=>by apply Classical.byContradiction;exact λaP=>aH ⟨i,af,aP⟩
      cases this
     exact aV.pure (.inr ⟨by simp,rfl,⟨_,rfl⟩,cA,cK,cH,aS,3-j,G,.inr ⟨_,by omega,db,agK⟩,NV,Dc,WO,Wq,aau,rF,by omega,by omega⟩)
    |true=>
     have aP:∀i,i<8->rm (cA (nodeAt T p (3-j))) i=.zero:=gK.1 rfl;simp only[if_true];have tE:bf cw (cw.aB 8):=aM.aB _ _ _;have at4:(cw.aB 8).next=cw.next+8:=rfl
     have r0:=Obj.get (show hh (cw.aB 8) A t _ _ from Obj.ext Dc tE (by omega)) (i:=0) rfl;have LF:bP (cw.aB 8) g5.next (3-j)=some (.int .i64 (nodeAt T p (3-j) :Nat)):=by rw[(Wi.ext tE (by omega)).rd];exact yY (by omega) (by omega)
     simp only[cl,ar,wW,ha,r0,tz (show 3-j<4 by omega),cW,Nat.zero_add,LF];refine b4 (bh.ex (BM (NV.ext tE).p mi.2.2 (by omega) (by omega) (by omega))) ?_;rintro _ g12 ⟨rfl,Hl,jC⟩;rw[uw,if_pos rfl]at Hl;have atk:=jC.next
     have pT:∀i,h.next<=i->¬(i=A.q\/i=A.p):=λi af e=>by
      rcases e with e|e
      ·have:=aj i (.inr (.inl e));omega
      ·have:=aj i (.inr (.inr e));omega
     have aow:fI g12 A cA (az cK (nodeAt T p (3-j)) (1-1)) (cH+1):=⟨(NV.ext tE).wid jC (by rintro(e|e);exact s.ji.2.2 e.symm;exact s.ji.1 e.symm),Hl,s.ji⟩;have WK:hh g12 A t (nodeAt aS 0 0) aS.ee:=Obj.az (Obj.ext Dc tE (by omega)) jC (by omega) (λe=>kY.1 (e.elim (λe=>.inr (.inl e)) λe=>.inr (.inr e)));have am0:=(WO.ext tE (by omega)).az jC (by omega) (pT _ (by omega));have amr:=(Wq.ext tE (by omega)).az jC (by omega) (pT _ (by omega));have Hb:=(Wi.ext tE (by omega)).az jC (by omega) (pT _ (by omega));have amo:=(Hd.ext tE (by omega)).az jC (by omega) (pT _ (by omega));have rB:=E2 aS
     have TO:({aS with bd:=c8 aS.bd (3-j) (pre p (3-j)) none} :dt).ee+1=aS.ee:=by have:=E3 aS (l:=3-j) (q:=pre p (3-j)) (by omega) (Hq aI (by omega)) none aS.ent;rw[db]at this;simpa using this
     have fJ:b0 .i64 ((aS.ee:Int) -1)=(({aS with bd:=c8 aS.bd (3-j) (pre p (3-j)) none} :dt).ee:Int):=by rw[wrap_i64 (by omega) (by omega)];omega
     have dm:=Obj.get WK (i:=2) rfl;simp only[eh,cl,ar,HZ,Nat.zero_add,cW,dm,fT,fJ];refine cX (WK.nodes _) λg13 ⟨amO,k9,n13⟩=> ?_
     have yQ:bf g13 (g13.aB 11):=aM.aB _ _ _;have at5:(g13.aB 11).next=g13.next+11:=rfl
     have aox:=(aow.c0 k9 ⟨λe=>kY.1 (.inr (.inr e.symm)),λe=>kY.1 (.inl e.symm),λe=>kY.1 (.inr (.inl e.symm)),λe=>kY.2 e.symm⟩).ext yQ;have WL:hh (g13.aB 11) A t (nodeAt aS 0 0) _:=Obj.ext amO yQ (by omega);have am1:=(am0.az k9 (by omega) (by omega)).ext yQ (by omega);have ams:=(amr.az k9 (by omega) (by omega)).ext yQ (by omega);have Wk:=(Hb.az k9 (by omega) (by omega)).ext yQ (by omega);have Wp:=(amo.az k9 (by omega) (by omega)).ext yQ (by omega);have kc:b0 .i64 (((3-j:Nat) :Int) -1)=((3-(j+1) :Nat) :Int):=by rw[wrap_i64 (by omega) (by omega)];omega
     have ahy:bP (g13.aB 11) g5.next (3-(j+1))=some (.int .i64 (nodeAt T p (3-(j+1)) :Nat)):=by rw[Wk.rd];exact yY (by omega) (by omega)
     have afx:bP (g13.aB 11) g8.next (3-(j+1))=some (mM p (3-(j+1))):=by rw[Wp.rd];rcases(by omega:j=0\/j=1\/j=2)with rfl|rfl|rfl<;>rfl
     simp only[fT,kc,ar,tz (show 3-(j+1) <4 by omega),cW,Nat.zero_add,ahy,afx,rk];rw[BJ,show 3-(j+1) +1=3-j by omega];have Cs:=gl (3-(j+1)) (by omega);have agn:=G.ok.lvl _ _ _ Cs;have agE:nodeAt T p (3-(j+1))≠nodeAt T p (3-j):=λe=>by rw[e]at Cs;have:=G.ok.inj _ _ _ _ _ Cs db;omega
     refine b4 (Fj aox WL (by omega) agn.2.2 (by rw[eE _ _ agE];have:=G.node _ ⟨_,_,Cs⟩;omega) (show pre p (3-j) %8<8 by omega) (.inl rfl)) ?_;rintro _ g14 ⟨rfl,⟨atS,aqh,aoy⟩,jP⟩;have atl:=jP.next;have RA:=o'.step (l:=3-(j+1)) (Kk:=cH+1) (by rw[show 3-(j+1) +1=3-j by omega];exact G) aI (by omega) Cs (by rw[show 3-(j+1) +1=3-j by omega];exact db) aP (by rw[show 3-(j+1) +1=3-j by omega];exact aqh) rfl;rw[show 3-(j+1) +1=3-j by omega]at RA
     have Lv:nodeAt {aS with bd:=c8 aS.bd (3-j) (pre p (3-j)) none} 0 0=nodeAt aS 0 0:=by
      unfold nodeAt;show(c8 aS.bd (3-j) (pre p (3-j)) none 0 (pre 0 0)).getD 0=_
      have:¬(0=3-j):=by omega
      simp[c8,this]
     refine aV.pure (.inl ⟨rfl,by omega,_,_,_,_,rfl,RA,?_,aoy,?_,am1.az jP (by omega) (by omega),ams.az jP (by omega) (by omega),Wk.az jP (by omega) (by omega),Wp.az jP (by omega) (by omega),?_,by omega,by omega,by omega⟩)
     ·intro l ay;show(if l=3-j/\pre p l=pre p (3-j)then none else aS.bd l (pre p l))=_;rw[if_neg (λe=>by omega)];exact gl l (by omega)
     ·rw[Lv];exact Obj.az WL jP (by omega) (λe=>kY.1 (.inl e))
     ·have D6:aM (λi=>gq A i\/i=t) h g12:=(aau.trans (aM.ext tE)).trans (jC.mono λi _ e=>.inl (e.elim (λe=>.inr (.inl e)) λe=>.inr (.inr e)));have l1:aM (λi=>gq A i\/i=t) h g13:=D6.trans (k9.mono λi _ e=>.inr e);exact(l1.trans (aM.ext yQ)).trans (jP.mono λi _ e=>.inl (.inl e))
 ·rintro _ vs g ⟨rfl,⟨a,rfl⟩,cA,cK,cH,aS,k,G,av,p1,hf,k4,He,u,rF,v7,zU⟩;have n4:=u.next;simp only[bz,bp,hs,if_true,k1 He,ar];refine cX (q1 (cs:=(T.ent p).vs) k4 rfl (by simp[bj.vs]) rfl) λcw ⟨cg,eD,ho⟩=> ?_
  have cg:=ff cg rfl;rw[k1 cg];have R:=G.done mV aI av;have kC:=aj A.p (.inr (.inr rfl));have aua:=aj A.q (.inr (.inl rfl));have z0:=s.w.lt;refine aV.pure ⟨rfl,cA,cK,cH,aS,R,p1.c0 eD ⟨by omega,by omega,by omega,by omega⟩,⟨Obj.az hf eD (by omega) (by omega),by omega,R.ok,λf aJ=>by have:=R.node f aJ;omega⟩,u.local eD (λi af e=>by omega),rF,v7⟩
end
end
section
set_option maxRecDepth 100000
variable{PV:cn} [cN PV]
def Rg(a0 ao:aa)(C:bW)(h:ae) :Option a1:=U (ax J h .mul 3 ao (.int .i64 64)) λv1=>U (bB a0) λv2=>U (aQ J 244 v2 0) λv3=>U (ak J h 135 v3) λv4=>U (ax J h .add 3 v1 (.int .i64 64)) λv5=>U (ax J h .add 3 v1 (.int .i64 64)) λv6=>U (iv J h 135 v4 (some v1) (some v5) (some v6)) λbl=>some (.ret,[bl],h)
theorem akn{a0 ao:aa} :LT PV 76 [a0,ao] (Rg a0 ao):=
 cc (f:=Tryz.f76) (.seq (.ah []) (.seq (.ah []) (.seq (.ah []) .leaf))) (by kernel_rfl) (b' rfl (by kernel_rfl)) λ_ _=>by kernel_rfl
def PU(a0:aa)(C:bW)(h:ae) :Option a1:=U (ax J h .eql 32 a0 .nilPtr) λv1=>bq v1 (some (.ret,[(.int .i64 0)],h)) (U (bB a0) λv2=>U (aQ J 244 v2 0) λv3=>U (ak J h 135 v3) λv4=>U (dw J h 135 v4) λv5=>U (ax J h .quo 3 v5 (.int .i64 64)) λv6=>some (.ret,[v6],h))
theorem ai0{a0:aa} :LT PV 134 [a0] (PU a0):=
 cc (f:=Tryz.f134) (.seq (.ah []) (.seq (.seq (.ah []) (.cond (.seq (.ah []) .leaf) .leaf)) (.seq (.ah []) .leaf))) (by kernel_rfl) (b' rfl (by kernel_rfl)) λ_ _=>by kernel_rfl
def P1(a0 ao a2:aa)(C:bW)(h:ae) :Option a1:=U (ax J h .eql 32 a0 .nilPtr) λv1=>bq v1 (some (.ret,[(.int .i64 1)],h)) (U (ax J h .lss 3 ao (.int .i64 0)) λv2=>bG (b7 v2 false (a7 (C (.func 134 [] []) [a0] h) λv3 h1=>U (ax J h1 .geq 3 ao v3) λv4=>some (.normal,[v4],h1)) (some (.normal,[.undef],h))) λ_ aK ab=>a_ aK λv5 gf=>br gf (U (bZ v2 (.bool true) v5) λv6=>bq v6 (some (.ret,[(.int .i64 14)],ab)) (a7 (C (.func 76 [] []) [a0,ao] ab) λbl al=>a7 (C a2 [bl] al) λbA aE=>some (.ret,[bA],aE))))
theorem ai6{a0 ao a2:aa} :LT PV 141 [a0,ao,a2] (P1 a0 ao a2):=
 cc (f:=Tryz.f141) (.seq (.ah []) (.seq (.dW (.seq (.ah []) (.cond (.seq (.ah []) .leaf) (.seq (.ah [[17]]) (.cond (.seq (.ah []) .leaf) .leaf))))) (.seq (.ah []) .leaf))) (by kernel_rfl) (b' rfl (by kernel_rfl)) λ_ _=>by kernel_rfl
def IS(a0 ao a2:aa)(C:bW)(h:ae) :Option a1:=ca (c9 J 32 a0) h λv1 h1=>ca (c9 J 3 ao) h1 λv2 ab=>ca (c9 J 9 a2) ab λv3 al=>U (ak J al 32 v1) λv4=>U (ak J al 3 v2) λv5=>a7 (C (.func 141 [] []) [v4,v5,(.func 142 [] [v3,v2,v1])] al) λv6 aE=>some (.ret,[v6],aE)
theorem Vt{a0 ao a2:aa} :LT PV 53 [a0,ao,a2] (IS a0 ao a2):=
 cc (f:=Tryz.f53) (.seq (.ah []) (.seq (.ah []) .leaf)) (by kernel_rfl) (b' rfl (by kernel_rfl)) λ_ _=>by kernel_rfl
def IE(a0 ao a2 a3:aa)(C:bW)(h:ae) :Option a1:=U (ak J h 9 ao) λv1=>U (dw J h 9 v1) λv2=>U (ax J h .neq 3 v2 (.int .i64 64)) λv3=>bq v3 (some (.ret,[(.int .i64 1)],h)) (U (ak J (ae.aB h 7) 3 a2) λv4=>U (ak J (ae.aB h 7) 32 a3) λv5=>U (bB v5) λv6=>U (aQ J 244 v6 1) λbl=>U (ak J (ae.aB h 7) 3 bl) λbA=>U (ax J (ae.aB h 7) .lss 3 v4 bA) λv9=>bx [] (λg=>ak J g 3 bl) bA (bx [] (λg=>ak J g 32 a3) v5 (bx [] (λg=>ak J g 3 a2) v4 (bq v9 (some (.ret,[(.int .i64 13)],(ae.aB h 7))) (U (ak J (ae.aB h 7) 32 a3) λv10=>U (bB v10) λv11=>U (aQ J 244 v11 3) λv12=>U (ak J (ae.aB h 7) 3 v12) λcd=>U (ax J (ae.aB h 7) .add 3 cd (.int .i64 1)) λb9=>U (bB v10) λch=>U (aQ J 244 ch 3) λcj=>U (bN J (ae.aB h 7) 3 cj b9) λh1=>U (ak J h1 9 ao) λcC=>a7 (pg J h1 135 a0 cC) λcx ab=>some (.ret,[(.int .i64 0)],ab))))))
theorem Vh{a0 ao a2 a3:aa} :LT PV 142 [a0,ao,a2,a3] (IE a0 ao a2 a3):=
 cc (f:=Tryz.f142) (.seq (.ah []) (.seq (.dW (.seq (.ah []) (.cond (.seq (.ah []) .leaf) (.seq .drawn (.cond (.seq (.ah []) .leaf) .leaf))))) (.seq (.ah []) (.seq (.ah []) (.seq (.ah []) .leaf))))) (by kernel_rfl) (b' rfl (by kernel_rfl)) λ_ _=>by kernel_rfl
def PT(a0 ao:aa)(C:bW)(h:ae) :Option a1:=ca (c9 J 32 a0) h λv1 h1=>ca (dz J 9) h1 λv2 ab=>U (bN J ab 9 v2 (.str 0 0)) λal=>U (ak J al 32 v1) λv3=>a7 (C (.func 141 [] []) [v3,ao,(.func 211 [] [v1,v2])] al) λv4 aE=>U (ak J aE 9 v2) λv5=>some (.ret,[v5,v4],aE)
theorem aiZ{a0 ao:aa} :LT PV 131 [a0,ao] (PT a0 ao):=
 cc (f:=Tryz.f131) (.seq (.ah []) (.seq (.ah []) (.seq (.ah []) (.seq (.ah []) .leaf)))) (by kernel_rfl) (b' rfl (by kernel_rfl)) λ_ _=>by kernel_rfl
def Qp(a0 ao a2:aa)(C:bW)(h:ae) :Option a1:=U (ak J h 32 ao) λv1=>U (bB v1) λv2=>U (aQ J 244 v2 2) λv3=>U (ak J h 3 v3) λv4=>U (ax J h .add 3 v4 (.int .i64 1)) λv5=>U (bB v1) λv6=>U (aQ J 244 v6 2) λbl=>U (bN J h 3 bl v5) λh1=>U (gB J h1 135 9 a0) λbA=>U (bN J h1 9 a2 bA) λab=>some (.ret,[(.int .i64 0)],ab)
theorem ajv{a0 ao a2:aa} :LT PV 211 [a0,ao,a2] (Qp a0 ao a2):=
 cc (f:=Tryz.f211) (.seq (.ah []) (.seq (.ah []) (.seq (.ah []) (.seq (.ah []) .leaf)))) (by kernel_rfl) (b' rfl (by kernel_rfl)) λ_ _=>by kernel_rfl
def QB(a0 ao:aa)(C:bW)(h:ae) :Option a1:=U (ax J h .eql 154 a0 .nilPtr) λv1=>bG (b7 v1 false (U (dw J h 9 ao) λv2=>U (ax J h .neq 3 v2 (.int .i64 64)) λv3=>some (.normal,[v3],h)) (some (.normal,[.undef],h))) λ_ aK h1=>a_ aK λv4 fq=>br fq (U (bZ v1 (.bool true) v4) λv5=>bq v5 (some (.ret,[(.int .i64 0),(.int .i64 1)],h1)) (U (bB a0) λv6=>U (aQ J 288 v6 2) λbl=>U (ak J h1 64 bl) λbA=>U (dw J h1 64 bA) λv9=>U (bB a0) λv10=>U (aQ J 288 v10 2) λv11=>U (ak J h1 64 v11) λv12=>U (dw J h1 64 v12) λcd=>bG (eM 14 (λaK ab=>a_ aK λb9 kp=>a_ kp λch oA=>br oA (U (ax J ab .lss 3 ch cd) λcj=>bq cj (U (cZ J 64 v12 ch) λcC=>U (ak J ab 3 cC) λcx=>U (ax J ab .eql 3 cx (.int .i64 0)) λcL=>bq cL (some ((.exit 0),[ch,ch],ab)) (U (ax J ab .add 3 ch (.int .i64 1)) λv20=>some (.normal,[b9,v20],ab))) (some ((.exit 0),[b9,ch],ab)))) [v9,(.int .i64 0)] h1) λjS aK al=>a_ aK λv21 O7=>a_ O7 λv22 O8=>br O8 (gD 0 jS (U (bB a0) λv23=>U (aQ J 288 v23 2) λv24=>U (ak J al 64 v24) λv25=>U (dw J al 64 v25) λv26=>U (ax J al .eql 3 v21 v26) λv27=>bq v27 (some (.ret,[(.int .i64 0),(.int .i64 15)],al)) (U (bB a0) λv28=>U (aQ J 288 v28 0) λv29=>U (ak J (ae.aB al 13) 32 v29) λv30=>U (bB a0) λv31=>U (aQ J 288 v31 1) λv32=>U (ak J (ae.aB al 13) 3 v32) λv33=>U (ax J (ae.aB al 13) .add 3 v33 v21) λeP=>a7 (C (.func 53 [] []) [v30,eP,ao] (ae.aB al 13)) λv35 aE=>bx [] (λg=>ak J g 3 v32) v33 (bx [] (λg=>ak J g 32 v29) v30 (U (ax J aE .neq 29 v35 (.int .i64 0)) λv36=>bq v36 (some (.ret,[(.int .i64 0),v35],aE)) (U (bB a0) λv37=>U (aQ J 288 v37 2) λfE=>U (ak J aE 64 fE) λfy=>U (cZ J 64 fy v21) λv40=>U (bN J aE 3 v40 (.int .i64 1)) λaL=>U (bB a0) λv41=>U (aQ J 288 v41 3) λgv=>U (ak J aL 3 gv) λfF=>U (ax J aL .add 3 fF (.int .i64 1)) λv44=>U (bB a0) λgI=>U (aQ J 288 gI 3) λv46=>U (bN J aL 3 v46 v44) λbm=>some (.ret,[v21,(.int .i64 0)],bm)))))) (some (.ret,[(.int .i64 0),(.int .i64 0)],al)) λi=>none)))
theorem ajH{a0 ao:aa} :LT PV 240 [a0,ao] (QB a0 ao):=
 cc (f:=Tryz.f240) (.seq (.ah []) (.wT (.seq (.seq (.ah [[15]]) (.cond (.seq (.ah []) .leaf) .leaf)) (.seq (.ah []) (.seq .leaf (.seq (.seq (.ah []) (.loop [6,27] [] (.seq (.ah []) (.seq (.cond .leaf .leaf) (.seq (.dW (.seq (.ah []) (.seq (.ah []) (.cond (.seq (.ah []) .leaf) .leaf)))) (.ah [])))))) (.seq (.seq (.ah []) (.cond (.seq (.ah []) .leaf) .leaf)) (.seq .drawn (.seq (.seq (.ah []) (.cond (.seq (.ah []) .leaf) .leaf)) (.seq (.ah []) (.seq (.ah []) (.seq (.ah []) .leaf)))))))))))) (by kernel_rfl) (b' rfl (by kernel_rfl)) λ_ _=>by kernel_rfl
def Qn(a0 ao a2:aa)(C:bW)(h:ae) :Option a1:=U (ax J h .eql 154 a0 .nilPtr) λv1=>bq v1 (some (.ret,[(.int .i64 1)],h)) (U (ax J h .lss 3 ao (.int .i64 0)) λv2=>bG (b7 v2 false (U (bB a0) λv3=>U (aQ J 288 v3 2) λv4=>U (ak J h 64 v4) λv5=>U (dw J h 64 v5) λv6=>U (ax J h .geq 3 ao v6) λbl=>some (.normal,[bl],h)) (some (.normal,[.undef],h))) λ_ aK h1=>a_ aK λbA hL=>br hL (U (bZ v2 (.bool true) bA) λv9=>bq v9 (some (.ret,[(.int .i64 14)],h1)) (U (bB a0) λv10=>U (aQ J 288 v10 2) λv11=>U (ak J h1 64 v11) λv12=>U (cZ J 64 v12 ao) λcd=>U (ak J h1 3 cd) λb9=>U (ax J h1 .eql 3 b9 (.int .i64 0)) λch=>bq ch (some (.ret,[(.int .i64 13)],h1)) (a7 (C a2 [] h1) λcj ab=>some (.ret,[cj],ab)))))
theorem ajt{a0 ao a2:aa} :LT PV 185 [a0,ao,a2] (Qn a0 ao a2):=
 cc (f:=Tryz.f185) (.seq (.ah []) (.seq (.dW (.seq (.ah []) (.cond (.seq (.ah []) .leaf) (.seq (.ah [[20]]) (.cond (.seq (.ah []) .leaf) (.seq (.ah []) (.cond (.seq (.ah []) .leaf) .leaf))))))) (.seq (.ah []) .leaf))) (by kernel_rfl) (b' rfl (by kernel_rfl)) λ_ _=>by kernel_rfl
def Qw(a0 ao:aa)(C:bW)(h:ae) :Option a1:=ca (c9 J 154 a0) h λv1 h1=>ca (c9 J 3 ao) h1 λv2 ab=>ca (dz J 9) ab λv3 al=>U (bN J al 9 v3 (.str 0 0)) λaE=>U (ak J aE 154 v1) λv4=>U (ak J aE 3 v2) λv5=>a7 (C (.func 185 [] []) [v4,v5,(.func 306 [] [v1,v2,v3])] aE) λv6 aL=>U (ak J aL 9 v3) λbl=>some (.ret,[bl,v6],aL)
theorem ajC{a0 ao:aa} :LT PV 228 [a0,ao] (Qw a0 ao):=
 cc (f:=Tryz.f228) (.seq (.ah []) (.seq (.ah []) (.seq (.ah []) (.seq (.ah []) .leaf)))) (by kernel_rfl) (b' rfl (by kernel_rfl)) λ_ _=>by kernel_rfl
def QW(a0 ao a2:aa)(C:bW)(h:ae) :Option a1:=U (ak J (ae.aB h 16) 154 a0) λv1=>U (bB v1) λv2=>U (aQ J 288 v2 0) λv3=>U (ak J (ae.aB h 16) 32 v3) λv4=>U (ak J (ae.aB h 16) 154 a0) λv5=>U (bB v5) λv6=>U (aQ J 288 v6 1) λbl=>U (ak J (ae.aB h 16) 3 bl) λbA=>U (ak J (ae.aB h 16) 3 ao) λv9=>U (ax J (ae.aB h 16) .add 3 bA v9) λv10=>a7 (C (.func 131 [] []) [v4,v10] (ae.aB h 16)) λv11 h1=>U (cm v11 0) λv12=>U (cm v11 1) λcd=>U (bN J h1 9 a2 v12) λab=>bx [] (λg=>ak J g 3 ao) v9 (bx [] (λg=>ak J g 3 bl) bA (bx [] (λg=>ak J g 154 a0) v5 (bx [] (λg=>ak J g 32 v3) v4 (bx [] (λg=>ak J g 154 a0) v1 (some (.ret,[cd],ab))))))
theorem aj4{a0 ao a2:aa} :LT PV 306 [a0,ao,a2] (QW a0 ao a2):=
 cc (f:=Tryz.f306) (.seq (.ah []) (.seq (.ah []) (.seq .drawn (.seq (.ah []) .leaf)))) (by kernel_rfl) (b' rfl (by kernel_rfl)) λ_ _=>by kernel_rfl
def PS(a0 ao:aa)(C:bW)(h:ae) :Option a1:=ca (c9 J 154 a0) h λv1 h1=>ca (c9 J 3 ao) h1 λv2 ab=>U (ak J ab 154 v1) λv3=>U (ak J ab 3 v2) λv4=>a7 (C (.func 185 [] []) [v3,v4,(.func 186 [] [v1,v2])] ab) λv5 al=>some (.ret,[v5],al)
theorem aiY{a0 ao:aa} :LT PV 111 [a0,ao] (PS a0 ao):=
 cc (f:=Tryz.f111) (.seq (.ah []) (.seq (.ah []) .leaf)) (by kernel_rfl) (b' rfl (by kernel_rfl)) λ_ _=>by kernel_rfl
def Qo(a0 ao:aa)(C:bW)(h:ae) :Option a1:=U (ak J (ae.aB h 10) 154 a0) λv1=>U (bB v1) λv2=>U (aQ J 288 v2 2) λv3=>U (ak J (ae.aB h 10) 64 v3) λv4=>U (ak J (ae.aB h 10) 3 ao) λv5=>U (cZ J 64 v4 v5) λv6=>U (ak J (ae.aB h 10) 3 v6) λbl=>U (ax J (ae.aB h 10) .add 3 bl (.int .i64 1)) λbA=>U (cZ J 64 v4 v5) λv9=>U (bN J (ae.aB h 10) 3 v9 bA) λh1=>bx [] (λg=>ak J g 3 v6) bl (bx [] (λg=>ak J g 3 ao) v5 (bx [] (λg=>ak J g 64 v3) v4 (bx [] (λg=>ak J g 154 a0) v1 (some (.ret,[(.int .i64 0)],h1)))))
theorem aju{a0 ao:aa} :LT PV 186 [a0,ao] (Qo a0 ao):=
 cc (f:=Tryz.f186) (.seq (.ah []) (.seq .drawn (.seq (.ah []) .leaf))) (by kernel_rfl) (b' rfl (by kernel_rfl)) λ_ _=>by kernel_rfl
def Qf(a0 ao:aa)(C:bW)(h:ae) :Option a1:=ca (c9 J 154 a0) h λv1 h1=>ca (c9 J 3 ao) h1 λv2 ab=>U (ak J ab 154 v1) λv3=>U (ak J ab 3 v2) λv4=>a7 (C (.func 185 [] []) [v3,v4,(.func 264 [] [v1,v2])] ab) λv5 al=>some (.ret,[v5],al)
theorem ajk{a0 ao:aa} :LT PV 176 [a0,ao] (Qf a0 ao):=
 cc (f:=Tryz.f176) (.seq (.ah []) (.seq (.ah []) .leaf)) (by kernel_rfl) (b' rfl (by kernel_rfl)) λ_ _=>by kernel_rfl
def QR(a0 ao:aa)(C:bW)(h:ae) :Option a1:=U (ak J (ae.aB h 10) 154 a0) λv1=>U (bB v1) λv2=>U (aQ J 288 v2 2) λv3=>U (ak J (ae.aB h 10) 64 v3) λv4=>U (ak J (ae.aB h 10) 3 ao) λv5=>U (cZ J 64 v4 v5) λv6=>U (ak J (ae.aB h 10) 3 v6) λbl=>U (ax J (ae.aB h 10) .sub 3 bl (.int .i64 1)) λbA=>U (cZ J 64 v4 v5) λv9=>U (bN J (ae.aB h 10) 3 v9 bA) λh1=>bx [] (λg=>ak J g 3 v6) bl (bx [] (λg=>ak J g 3 ao) v5 (bx [] (λg=>ak J g 64 v3) v4 (bx [] (λg=>ak J g 154 a0) v1 (U (ak J (ae.aB h1 8) 154 a0) λv10=>U (bB v10) λv11=>U (aQ J 288 v11 2) λv12=>U (ak J (ae.aB h1 8) 64 v12) λcd=>U (ak J (ae.aB h1 8) 3 ao) λb9=>U (cZ J 64 cd b9) λch=>U (ak J (ae.aB h1 8) 3 ch) λcj=>U (ax J (ae.aB h1 8) .eql 3 cj (.int .i64 0)) λcC=>bx [] (λg=>ak J g 3 ch) cj (bx [] (λg=>ak J g 3 ao) b9 (bx [] (λg=>ak J g 64 v12) cd (bx [] (λg=>ak J g 154 a0) v10 (bG (bq cC (U (ak J (ae.aB h1 8) 154 a0) λcx=>U (bB cx) λcL=>U (aQ J 288 cL 3) λv20=>U (ak J (ae.aB h1 8) 3 v20) λv21=>U (ax J (ae.aB h1 8) .sub 3 v21 (.int .i64 1)) λv22=>U (bB cx) λv23=>U (aQ J 288 v23 3) λv24=>U (bN J (ae.aB h1 8) 3 v24 v22) λab=>some (.normal,[],ab)) (some (.normal,[],(ae.aB h1 8)))) λjS aK al=>br aK (jF jS (some (.ret,[(.int .i64 0)],al)) (some (.ret,[(.int .i64 0)],al)) λi=>none)))))))))
theorem ajY{a0 ao:aa} :LT PV 264 [a0,ao] (QR a0 ao):=
 cc (f:=Tryz.f264) (.seq (.ah []) (.seq .drawn (.seq (.seq .drawn (.cut [] [] (.cond (.ah []) .leaf))) (.seq (.ah []) .leaf)))) (by kernel_rfl) (b' rfl (by kernel_rfl)) λ_ _=>by kernel_rfl
def Ry(a0 ao:aa)(C:bW)(h:ae) :Option a1:=U (ax J h .eql 154 a0 .nilPtr) λv1=>bG (b7 v1 false (U (ax J h .lss 3 ao (.int .i64 0)) λv2=>some (.normal,[v2],h)) (some (.normal,[.undef],h))) λ_ aK h1=>a_ aK λv3 eJ=>br eJ (U (bZ v1 (.bool true) v3) λv4=>bG (b7 v4 false (U (bB a0) λv5=>U (aQ J 288 v5 2) λv6=>U (ak J h1 64 v6) λbl=>U (dw J h1 64 bl) λbA=>U (ax J h1 .geq 3 ao bA) λv9=>some (.normal,[v9],h1)) (some (.normal,[.undef],h1))) λ_ aK ab=>a_ aK λv10 fN=>br fN (U (bZ v4 (.bool true) v10) λv11=>bq v11 (some (.ret,[(.int .i64 0)],ab)) (U (bB a0) λv12=>U (aQ J 288 v12 2) λcd=>U (ak J ab 64 cd) λb9=>U (cZ J 64 b9 ao) λch=>U (ak J ab 3 ch) λcj=>some (.ret,[cj],ab))))
theorem akF{a0 ao:aa} :LT PV 99 [a0,ao] (Ry a0 ao):=
 cc (f:=Tryz.f99) (.seq (.ah []) (.seq (.seq (.ah [[9],[18]]) (.cond (.seq (.ah []) .leaf) .leaf)) (.seq (.ah []) .leaf))) (by kernel_rfl) (b' rfl (by kernel_rfl)) λ_ _=>by kernel_rfl
def Rt(a0:aa)(C:bW)(h:ae) :Option a1:=U (ax J h .eql 154 a0 .nilPtr) λv1=>bq v1 (some (.ret,[(.int .i64 0)],h)) (U (bB a0) λv2=>U (aQ J 288 v2 2) λv3=>U (ak J h 64 v3) λv4=>U (dw J h 64 v4) λv5=>some (.ret,[v5],h))
theorem akA{a0:aa} :LT PV 93 [a0] (Rt a0):=
 cc (f:=Tryz.f93) (.seq (.ah []) (.seq (.seq (.ah []) (.cond (.seq (.ah []) .leaf) .leaf)) (.seq (.ah []) .leaf))) (by kernel_rfl) (b' rfl (by kernel_rfl)) λ_ _=>by kernel_rfl
end
section
variable{PV:cn} [cN PV]
structure ij where
 d:Nat
 b:Nat
 n:Nat
structure fH(h:ae)(D:ij)(sec:Nat->Nat)(dh:Nat) :Prop where
 n:1<=D.n/\D.n<=16384
 s:dh<=16384
 lt:D.d<h.next/\D.b<h.next
 ne:D.d≠D.b
 str:∃ex r w,a8.Obj h D.d [.slice D.b 0 (64*D.n) (64*D.n) 1 ex,.int .i64 dh,.int .i64 r,.int .i64 w]
 bytes:∃st N,h.get D.b=.bytes (64*D.n) st N/\∀i,i<D.n->cB N (64*i) 64=sec i
section
variable{h g:ae}{D:ij}{sec:Nat->Nat}{dh:Nat}
theorem fH.az{S:Nat->Prop}(k:fH h D sec dh)(u:aM S h g)(aA:¬S D.d/\¬S D.b) :fH g D sec dh where
 n:=k.n
 s:=k.s
 lt:=⟨Nat.lt_of_lt_of_le k.lt.1 u.next,Nat.lt_of_lt_of_le k.lt.2 u.next⟩
 ne:=k.ne
 str:=let⟨ex,r,w,o⟩:=k.str;⟨ex,r,w,o.az u k.lt.1 aA.1⟩
 bytes:=by rw[u.get _ k.lt.2 aA.2];exact k.bytes
theorem fH.ext(k:fH h D sec dh)(u:bf h g) :fH g D sec dh:=k.az u ⟨λe=>e,λe=>e⟩
theorem fH.aoK(k:fH h D sec dh){i:Nat}(af:i<D.n) :sec i<2^512:=by obtain⟨st,N,_,e6⟩:=k.bytes;rw[<-e6 i af];exact uO _ _ _
theorem ao2(h:ae){id off len cap l r:Nat}{ex:Bool}(h1:l<=r)(ab:r<=cap) :
  iv J h 135 (.slice id off len cap 1 ex) (some (.int .i64 l)) (some (.int .i64 r)) (some (.int .i64 r))=some (.slice id (off+l) (r-l) (r-l) 1 true):=by
 have aG:J.ty 135=some nK:=by kernel_rfl
 have aT:J.ty 5=some m6:=by kernel_rfl
 show kl J h 135 (.slice id off len cap 1 ex) (some (l:Int)) (some (r:Int)) (some (r:Int))=_;simp only[kl,aG]
 show(match js len cap ex (some (l:Int)) (some (r:Int)) (some (r:Int)),J.ty 5 with
  |some (l,h,m,ex),some ie=>bif Nat.beq ie.size 1 then some (aa.slice id (off+l*1) (h-l) (m-l) 1 ex)else none
  |_,_=>none)=_
 rw[aT];simp only[js,nQ h1,nQ ab,nQ (Nat.le_refl r)];show some (aa.slice id (off+l*1) (r-l) (r-l) 1 true)=_;rw[Nat.mul_one]
theorem XH(k:fH h D sec dh) :call J PV (.func 134 [] []) [.ptr D.d 0] h=some (.int .i64 (D.n:Nat),h):=by
 obtain⟨ex,r,w,o⟩:=k.str;have aw:=k.n;refine ai0 (x:=.ret) (vs:=[.int .i64 (D.n:Nat)]) (first:=[]) (cap:=[]) ?_ rfl;have aG:((64*D.n:Nat) :Int).tdiv 64=((64*D.n/64:Nat) :Int):=rfl;have aT:64*D.n/64=D.n:=by omega
 have bJ:b0 .i64 ((D.n:Nat) :Int)=(D.n:Int):=wrap_i64 (by omega) (by omega);simp only[PU,DQ,ar,ba,Bool.false_eq_true,if_false,cl,Yp,Yw,Obj.get o (i:=0) rfl,aqi,vF .i64 (show(64:Int)≠0 by decide),aG,aT,bJ]
theorem aoM(k:fH h D sec dh){i:Nat}(af:i<D.n) :call J PV (.func 76 [] []) [.ptr D.d 0,.int .i64 i] h=some (.slice D.b (64*i) 64 64 1 true,h):=by
 obtain⟨ex,r,w,o⟩:=k.str;have aw:=k.n;refine akn (x:=.ret) (vs:=[.slice D.b (64*i) 64 64 1 true]) (first:=[]) (cap:=[]) ?_ rfl;have aG:b0 .i64 ((i:Int) *64)=((64*i:Nat) :Int):=by rw[wrap_i64 (by omega) (by omega)];omega
 have aT:b0 .i64 (((64*i:Nat) :Int) +64)=((64*i+64:Nat) :Int):=by rw[wrap_i64 (by omega) (by omega)];omega
 simp only[Rg,nh,aG,ar,cl,Yp,Yw,Obj.get o (i:=0) rfl,du,aT];rw[ao2 h (by omega) (by omega)];simp only[ar,Nat.zero_add,show 64*i+64-64*i=64 by omega]
theorem OW(k:fH h D sec dh){i:Nat}(af:i<D.n){sA:aa}{Q:aa->ae->Prop}(aH:bh (call J PV sA [.slice D.b (64*i) 64 64 1 true] h) Q) :bh (call J PV (.func 141 [] []) [.ptr D.d 0,.int .i64 i,sA] h) Q:=by
 refine bh.mk (λe=>ai6 (first:=[]) (cap:=[]) e rfl) ?_;unfold P1;have fm:¬(i:Int) <0:=by omega
 have bo:¬(D.n:Int)<=(i:Int):=by omega
 simp only[DQ,ar,ba,Bool.false_eq_true,if_false,dk,decide_eq_false fm,cP,if_true,XH k,c3,gA,decide_eq_false bo,c4,bz,bp,cF,aoM k af];exact b4 aH λv g aF=>aV.pure aF
theorem fH.count(k:fH h D sec dh){j:Nat}(aO:j=2\/j=3)(v:Int) :∃g,bN J h 3 (.ptr D.d j) (.int .i64 v)=some g/\(fH g D sec dh/\aM (λi=>i=D.d) h g/\g.next=h.next):=by
 obtain⟨ex,r,w,o⟩:=k.str;obtain⟨g,e,cg,u,n⟩:=m5 (k:=j) (v:=.int .i64 v) o (by simp;omega) rfl rfl;refine⟨g,e,⟨k.n,k.s,by rw[n];exact k.lt,k.ne,?_,by rw[u.get _ k.lt.2 (λe=>k.ne e.symm)];exact k.bytes⟩,u,n⟩;rcases aO with rfl|rfl
 ·exact⟨ex,v,w,cg⟩
 ·exact⟨ex,r,v,cg⟩
theorem fH.field(k:fH h D sec dh){j:Nat}(aO:j=2\/j=3) :∃v,bP h D.d j=some (.int .i64 v):=by
 obtain⟨ex,r,w,o⟩:=k.str;rcases aO with rfl|rfl
 ·exact⟨r,o.rd 2⟩
 ·exact⟨w,o.rd 3⟩
theorem SM(k:fH h D sec dh){i:Nat}(af:i<D.n) :bh (call J PV (.func 131 [] []) [.ptr D.d 0,.int .i64 i] h) λv g=>v=.tuple [.str 64 (sec i),.int .i64 0]/\fH g D sec dh/\aM (λj=>j=D.d) h g:=by
 refine bh.mk (λe=>aiZ (first:=[]) (cap:=[]) e rfl) ?_;unfold PT;refine cM (Og (cs:=[.ptr D.d 0]) rfl) λg1 ct dR bb=> ?_
 refine cM Yi λg2 cE eN bn=> ?_
 refine cX (H6 (v:=.str 0 0) cE (by simp) rfl rfl) λg3 ⟨cO,bR,gp⟩=> ?_
 have b6:=k.lt;have jz:=(ct.ext bn (by omega)).az bR (by omega) (by omega);have fM:bf h g3:=(bb.trans bn).local bR (λj aO e=>by omega);simp only[u9,Obj.get jz (i:=0) rfl,ar];have b3:=k.ext fM;refine b4 (OW b3 af (Q:=λv g=>v=.int .i64 0/\fH g D sec dh/\aM (λj=>j=D.d\/j=g1.next) g3 g/\a8.Obj g g1.next [.str 64 (sec i)]) ?_) ?_
 ·refine bh.mk (λe=>ajv (first:=[]) (mid:=[_]) (cap:=[_,_]) e rfl) ?_;unfold Qp;obtain⟨rv,an⟩:=b3.field (.inl rfl);simp only[u9,Obj.get jz (i:=0) rfl,ar,cl,ap7,Nat.zero_add,cW,an,du];refine cX (b3.count (.inl rfl) _) λg4 ⟨c7,bO,hU⟩=> ?_
  obtain⟨st,N,aj,e6⟩:=c7.bytes;have aH:=zn g4 (id:=D.b) (off:=64*i) (len:=64) (cap:=64) (ex:=true) aj (by omega) (by omega);rw[e6 i af]at aH;rw[aH];simp only[ar];have yk:=cO.az bO (by omega) (by omega);refine cX (H6 (v:=.str 64 (sec i)) yk (by simp) rfl rfl) λg5 ⟨eH,cD,n5⟩=> ?_
  exact aV.pure ⟨rfl,c7.az cD ⟨by omega,by omega⟩,(bO.mono λj _ e=>.inl e).trans (cD.mono λj _ e=>.inr e),eH⟩
 ·rintro _ g4 ⟨rfl,c7,bO,dG⟩;simp only[A2,Obj.get dG (i:=0) rfl,ar];exact aV.pure ⟨rfl,c7,(aM.ext (S:=λj=>j=D.d) fM).local bO (λj aO e=>by omega)⟩
theorem aoN(k:fH h D sec dh){i m:Nat}(af:i<D.n)(hm:m<2^512){st:Bool}{N:Nat}(aj:h.get D.b=.bytes (64*D.n) st N)(e6:∀i,i<D.n->cB N (64*i) 64=sec i) :
  fH (h.put D.b (.bytes (64*D.n) st (e8 N (64*i) 64 m))) D (az sec i m) dh where
 n:=k.n
 s:=k.s
 lt:=k.lt
 ne:=k.ne
 str:=let⟨ex,r,w,o⟩:=k.str;⟨ex,r,w,o.pV (ke k.ne)⟩
 bytes:=by
  refine⟨st,_,ln _ _ _,λj aO=> ?_⟩;have hk:m<2^(8*64):=hm;by_cases e:j=i
  ·subst e;rw[ti hk,e4]
  ·rw[G5 hk (by omega),eE _ _ e];exact e6 j aO
theorem adj(k:fH h D sec dh){i m:Nat}(af:i<D.n)(aA:dh<=i)(hm:m<2^512) :bh (call J PV (.func 53 [] []) [.ptr D.d 0,.int .i64 i,.str 64 m] h) λv g=>v=.int .i64 0/\fH g D (az sec i m) dh/\aM (λj=>j=D.d\/j=D.b) h g:=by
 refine bh.mk (λe=>Vt (first:=[]) (cap:=[]) e rfl) ?_;unfold IS;refine cM (Og (cs:=[.ptr D.d 0]) rfl) λg1 ct dR bb=> ?_
 refine cM (yC (cs:=[.int .i64 (i:Nat)]) rfl) λg2 cE eN bn=> ?_
 refine cM (Yl (cs:=[.str 64 m]) rfl) λg3 cO gp bR=> ?_
 have b6:=k.lt;have jz:=ct.ext (bn.trans bR) (by omega);have yj:=cE.ext bR (by omega);have fM:bf h g3:=(bb.trans bn).trans bR;simp only[u9,cW,Obj.get jz (i:=0) rfl,Obj.get yj (i:=0) rfl,ar];have b3:=k.ext fM;refine b4 (OW b3 af (Q:=λv g=>v=.int .i64 0/\fH g D (az sec i m) dh/\aM (λj=>j=D.d\/j=D.b) g3 g) ?_) ?_
 ·refine bh.mk (λe=>Vh (first:=[]) (mid:=[_]) (cap:=[_,_,_]) e rfl) ?_;unfold IE;have cf:bf g3 (g3.aB 7):=aM.aB _ _ _;have ta:=b3.ext cf;have th:(g3.aB 7).next=g3.next+7:=rfl
  obtain⟨Bm,hw⟩:=ta.field (.inr rfl);have hP:bP (g3.aB 7) D.d 1=some (.int .i64 (dh:Nat)):=by obtain⟨ex,r,w,o⟩:=ta.str;exact o.rd 1
  have bo:¬(i:Int) <(dh:Int):=by omega
  rw[dd]at hw hP;simp only[A2,Obj.get cO (i:=0) rfl,ar,Af,dP,ba];rw[if_neg (by decide)];simp only[u9,cW,Obj.get jz (i:=0) rfl,Obj.get yj (i:=0) rfl,dd,ar,cl,Ol,ap8,Nat.zero_add,hP,hw,dk,ba,eh,decide_eq_true_eq,if_neg bo,du];refine cX (ta.count (.inr rfl) _) λg4 ⟨c7,bO,hU⟩=> ?_
  have yk:=(cO.ext cf (by omega)).az bO (by omega) (by omega);obtain⟨st,N,aj,e6⟩:=c7.bytes;simp only[A2,Obj.get yk (i:=0) rfl,ar];rw[JM (id:=D.b) (off:=64*i) (l:=64) (len:=64) (cap:=64) (ex:=true) aj (by omega) (Nat.le_refl _) (by omega)];have ik:m%2^(8*64)=m:=Nat.mod_eq_of_lt hm;rw[ik];exact aV.pure ⟨rfl,aoN c7 af hm aj e6,((aM.ext cf).trans (bO.mono λj _ e=>.inl e)).trans (aM.put _ (.inr rfl))⟩
 ·rintro _ g4 ⟨rfl,c7,bO⟩;exact aV.pure ⟨rfl,c7,(aM.ext fM).trans bO⟩
end
end
section
set_option maxRecDepth 100000
variable{PV:cn} [cN PV]
def P5(a0:aa)(C:bW)(h:ae) :Option a1:=ca (c9 J 47 a0) h λv1 h1=>U (aQ J 47 v1 0) λv2=>U (ak J h1 3 v2) λv3=>U (ax J h1 .lss 3 v3 (.int .i64 0)) λv4=>bG (b7 v4 false (U (aQ J 47 v1 1) λv5=>U (ak J h1 3 v5) λv6=>U (aQ J 47 v1 0) λbl=>U (ak J h1 3 bl) λbA=>U (ax J h1 .leq 3 v6 bA) λv9=>some (.normal,[v9],h1)) (some (.normal,[.undef],h1))) λ_ aK ab=>a_ aK λv10 fN=>br fN (U (bZ v4 (.bool true) v10) λv11=>bG (b7 v11 false (U (aQ J 47 v1 1) λv12=>U (ak J ab 3 v12) λcd=>U (ax J ab .gtr 3 cd (.int .i64 4096)) λb9=>some (.normal,[b9],ab)) (some (.normal,[.undef],ab))) λ_ aK al=>a_ aK λch oA=>br oA (U (bZ v11 (.bool true) ch) λcj=>bG (b7 cj false (U (aQ J 47 v1 2) λcC=>U (ak J al 3 cC) λcx=>U (ax J al .lss 3 cx (.int .i64 0)) λcL=>some (.normal,[cL],al)) (some (.normal,[.undef],al))) λ_ aK aE=>a_ aK λv20 qc=>br qc (U (bZ cj (.bool true) v20) λv21=>bG (b7 v21 false (U (aQ J 47 v1 2) λv22=>U (ak J aE 3 v22) λv23=>U (ax J aE .gtr 3 v23 (.int .i64 7)) λv24=>some (.normal,[v24],aE)) (some (.normal,[.undef],aE))) λ_ aK aL=>a_ aK λv25 Ee=>br Ee (U (bZ v21 (.bool true) v25) λv26=>bq v26 (some (.ret,[(.bool false)],aL)) (U (aQ J 47 v1 3) λv27=>U (ak J aL 3 v27) λv28=>U (ax J aL .eql 3 v28 (.int .i64 1)) λv29=>bq v29 (U (aQ J 47 v1 4) λv30=>U (ak J aL 3 v30) λv31=>U (ax J aL .geq 3 v31 (.int .i64 0)) λv32=>bG (b7 v32 true (U (aQ J 47 v1 5) λv33=>U (ak J aL 3 v33) λeP=>U (ax J aL .geq 3 eP (.int .i64 0)) λv35=>some (.normal,[v35],aL)) (some (.normal,[.undef],aL))) λ_ aK bm=>a_ aK λv36 vo=>br vo (U (bZ v32 v36 (.bool false)) λv37=>bG (b7 v37 true (U (aQ J 47 v1 5) λfE=>U (ak J bm 3 fE) λfy=>U (aQ J 47 v1 1) λv40=>U (ak J bm 3 v40) λv41=>U (aQ J 47 v1 0) λgv=>U (ak J bm 3 gv) λfF=>U (ax J bm .sub 3 v41 fF) λv44=>U (ax J bm .sub 3 (.int .i64 1073741824) v44) λgI=>U (ax J bm .leq 3 fy gI) λv46=>some (.normal,[v46],bm)) (some (.normal,[.undef],bm))) λ_ aK cr=>a_ aK λgR En=>br En (U (bZ v37 gR (.bool false)) λhb=>some (.ret,[hb],cr)))) (U (aQ J 47 v1 3) λv49=>U (ak J aL 3 v49) λix=>U (ax J aL .gtr 3 ix (.int .i64 1)) λv51=>bG (b7 v51 true (U (aQ J 47 v1 3) λiy=>U (ak J aL 3 iy) λv53=>U (ax J aL .leq 3 v53 (.int .i64 4)) λic=>some (.normal,[ic],aL)) (some (.normal,[.undef],aL))) λ_ aK cz=>a_ aK λig Pe=>br Pe (U (bZ v51 ig (.bool false)) λjD=>bG (b7 jD true (U (aQ J 47 v1 4) λv57=>U (ak J cz 3 v57) λj8=>U (ax J cz .eql 3 j8 (.int .i64 (-1))) λv59=>some (.normal,[v59],cz)) (some (.normal,[.undef],cz))) λ_ aK c6=>a_ aK λjQ Ph=>br Ph (U (bZ jD jQ (.bool false)) λjm=>bG (b7 jm true (U (aQ J 47 v1 5) λjR=>U (ak J c6 3 jR) λv63=>U (ax J c6 .eql 3 v63 (.int .i64 0)) λv64=>some (.normal,[v64],c6)) (some (.normal,[.undef],c6))) λ_ aK dF=>a_ aK λko Pl=>br Pl (U (bZ jm ko (.bool false)) λl4=>some (.ret,[l4],dF))))))))))
theorem ai_{a0:aa} :LT PV 160 [a0] (P5 a0):=
 cc (f:=Tryz.f160) (.seq (.ah []) (.seq (.dW (.seq (.ah [[12],[17],[22],[27]]) (.cond (.seq (.ah []) .leaf) (.seq (.ah []) (.cond (.seq (.ah [[39],[50]]) .leaf) .leaf))))) (.seq (.ah [[58],[63],[68]]) .leaf))) (by kernel_rfl) (b' rfl (by kernel_rfl)) λ_ _=>by kernel_rfl
def P6(C:bW)(h:ae) :Option a1:=ca (dz J 126) h λv1 h1=>some (.ret,[(.func 242 [] [v1]),(.func 244 [] [v1])],h1)
theorem ai':LT PV 161 [] P6:=
 cc (f:=Tryz.f161) (.seq (.ah []) (.seq (.ah []) (.seq (.ah []) (.seq (.ah []) .leaf)))) (by kernel_rfl) (b' rfl (by kernel_rfl)) λ_ _=>by kernel_rfl
def QD(a0 ao:aa)(C:bW)(h:ae) :Option a1:=ca (c9 J 47 a0) h λv1 h1=>U (ak J h1 126 ao) λv2=>U (dw J h1 126 v2) λv3=>U (aQ J 47 v1 0) λv4=>U (ak J h1 3 v4) λv5=>U (aQ J 47 v1 1) λv6=>U (ak J h1 3 v6) λbl=>U (ax J h1 .geq 3 v5 bl) λbA=>bq bA (some (.ret,[],h1)) (U (ax J (ae.aB h1 12) .gtr 3 v3 (.int .i64 0)) λv9=>b7 v9 true (U (ak J (ae.aB h1 12) 126 ao) λv10=>U (ax J (ae.aB h1 12) .sub 3 v3 (.int .i64 1)) λv11=>U (cZ J 126 v10 v11) λv12=>U (ak J (ae.aB h1 12) 47 v12) λcd=>U (ak J (ae.aB h1 12) 47 v1) λb9=>a7 (C (.func 243 [] []) [cd,b9] (ae.aB h1 12)) λch ab=>U (bZ v9 ch (.bool false)) λcj=>bx [] (λg=>ak J g 47 v1) b9 (bx [] (λg=>ak J g 47 v12) cd (bx [] (λg=>ak J g 126 ao) v10 (bq cj (U (ak J ab 126 ao) λcC=>U (ax J ab .sub 3 v3 (.int .i64 1)) λcx=>U (aQ J 47 v1 1) λcL=>U (ak J ab 3 cL) λv20=>U (cZ J 126 cC cx) λv21=>U (aQ J 47 v21 1) λv22=>U (bN J ab 3 v22 v20) λal=>some (.ret,[],al)) (U (ak J ab 126 ao) λv23=>U (ak J ab 47 v1) λv24=>ca (lg J 126 1 [(0,v24)]) ab λv25 aE=>a7 (h2 J aE 126 126 v23 v25) λv26 aL=>U (bN J aL 126 ao v26) λbm=>some (.ret,[],bm)))))) (U (bZ v9 .undef (.bool false)) λv27=>bq v27 (U (ak J (ae.aB h1 12) 126 ao) λv28=>U (ax J (ae.aB h1 12) .sub 3 v3 (.int .i64 1)) λv29=>U (aQ J 47 v1 1) λv30=>U (ak J (ae.aB h1 12) 3 v30) λv31=>U (cZ J 126 v28 v29) λv32=>U (aQ J 47 v32 1) λv33=>U (bN J (ae.aB h1 12) 3 v33 v31) λcr=>some (.ret,[],cr)) (U (ak J (ae.aB h1 12) 126 ao) λeP=>U (ak J (ae.aB h1 12) 47 v1) λv35=>ca (lg J 126 1 [(0,v35)]) (ae.aB h1 12) λv36 cz=>a7 (h2 J cz 126 126 eP v36) λv37 c6=>U (bN J c6 126 ao v37) λdF=>some (.ret,[],dF))))
theorem ajJ{a0 ao:aa} :LT PV 242 [a0,ao] (QD a0 ao):=
 cc (f:=Tryz.f242) (.seq (.ah []) (.seq (.ah []) (.dW (.seq (.ah []) (.cond .leaf (.seq .drawn (.cond (.ah []) (.ah [])))))))) (by kernel_rfl) (b' rfl (by kernel_rfl)) λ_ _=>by kernel_rfl
def IJ(a0:aa)(C:bW)(h:ae) :Option a1:=U (ak J h 126 a0) λv1=>U (ak J h 126 a0) λv2=>U (dw J h 126 v2) λv3=>U (ak J h 126 a0) λv4=>U (dw J h 126 v4) λv5=>U (iv J h 126 v1 none (some v3) (some v5)) λv6=>some (.ret,[v6],h)
theorem Vm{a0:aa} :LT PV 244 [a0] (IJ a0):=
 cc (f:=Tryz.f244) (.seq (.ah []) (.seq (.ah []) .leaf)) (by kernel_rfl) (b' rfl (by kernel_rfl)) λ_ _=>by kernel_rfl
def QE(a0 ao:aa)(C:bW)(h:ae) :Option a1:=ca (c9 J 47 a0) h λv1 h1=>ca (c9 J 47 ao) h1 λv2 ab=>U (aQ J 47 v1 1) λv3=>U (ak J ab 3 v3) λv4=>U (aQ J 47 v2 0) λv5=>U (ak J ab 3 v5) λv6=>U (ax J ab .neq 3 v4 v6) λbl=>bG (b7 bl false (U (aQ J 47 v1 2) λbA=>U (ak J ab 3 bA) λv9=>U (aQ J 47 v2 2) λv10=>U (ak J ab 3 v10) λv11=>U (ax J ab .neq 3 v9 v11) λv12=>some (.normal,[v12],ab)) (some (.normal,[.undef],ab))) λ_ aK al=>a_ aK λcd p_=>br p_ (U (bZ bl (.bool true) cd) λb9=>bG (b7 b9 false (U (aQ J 47 v1 3) λch=>U (ak J al 3 ch) λcj=>U (aQ J 47 v2 3) λcC=>U (ak J al 3 cC) λcx=>U (ax J al .neq 3 cj cx) λcL=>some (.normal,[cL],al)) (some (.normal,[.undef],al))) λ_ aK aE=>a_ aK λv20 qc=>br qc (U (bZ b9 (.bool true) v20) λv21=>bG (b7 v21 false (U (aQ J 47 v1 4) λv22=>U (ak J aE 3 v22) λv23=>U (aQ J 47 v2 4) λv24=>U (ak J aE 3 v24) λv25=>U (ax J aE .neq 3 v23 v25) λv26=>some (.normal,[v26],aE)) (some (.normal,[.undef],aE))) λ_ aK aL=>a_ aK λv27 Ef=>br Ef (U (bZ v21 (.bool true) v27) λv28=>bq v28 (some (.ret,[(.bool false)],aL)) (U (aQ J 47 v1 3) λv29=>U (ak J aL 3 v29) λv30=>U (ax J aL .neq 3 v30 (.int .i64 1)) λv31=>bG (b7 v31 false (U (aQ J 47 v2 5) λv32=>U (ak J aL 3 v32) λv33=>U (aQ J 47 v1 5) λeP=>U (ak J aL 3 eP) λv35=>U (aQ J 47 v1 1) λv36=>U (ak J aL 3 v36) λv37=>U (ax J aL .add 3 v35 v37) λfE=>U (aQ J 47 v1 0) λfy=>U (ak J aL 3 fy) λv40=>U (ax J aL .sub 3 fE v40) λv41=>U (ax J aL .eql 3 v33 v41) λgv=>some (.normal,[gv],aL)) (some (.normal,[.undef],aL))) λ_ aK bm=>a_ aK λfF El=>br El (U (bZ v31 (.bool true) fF) λv44=>some (.ret,[v44],bm))))))
theorem ajK{a0 ao:aa} :LT PV 243 [a0,ao] (QE a0 ao):=
 cc (f:=Tryz.f243) (.seq (.ah []) (.seq (.seq (.ah [[15],[22],[29]]) (.cond (.seq (.ah []) .leaf) .leaf)) (.seq (.ah [[45]]) .leaf))) (by kernel_rfl) (b' rfl (by kernel_rfl)) λ_ _=>by kernel_rfl
def P7(a0 ao:aa)(C:bW)(h:ae) :Option a1:=ca (dz J 47) h λv1 h1=>U (dw J h1 126 a0) λv2=>bG (eM 14 (λaK ab=>a_ aK λv3 eJ=>a_ eJ λv4 fq=>br fq (U (ax J ab .lss 3 v4 v2) λv5=>bq v5 (U (cZ J 126 a0 v4) λv6=>U (ak J ab 47 v6) λbl=>ca (dz J 47) ab λbA aE=>U (bN J aE 47 bA bl) λaL=>U (aQ J 47 bA 0) λv9=>U (ak J aL 3 v9) λv10=>U (ax J aL .geq 3 ao v10) λv11=>bG (b7 v11 true (U (aQ J 47 bA 1) λv12=>U (ak J aL 3 v12) λcd=>U (ax J aL .lss 3 ao cd) λb9=>some (.normal,[b9],aL)) (some (.normal,[.undef],aL))) λ_ aK bm=>a_ aK λch oA=>br oA (U (bZ v11 ch (.bool false)) λcj=>bq cj (U (ak J bm 47 bA) λcC=>U (bN J bm 47 v1 cC) λcr=>some (.ret,[(.bool true),v4],cr)) (U (ax J bm .add 3 v4 (.int .i64 1)) λcx=>some (.normal,[v3,cx],bm)))) (some ((.exit 0),[v3,v4],ab)))) [(.bool false),(.int .i64 0)] h1) λjS aK al=>a_ aK λcL qb=>a_ qb λv20 qc=>br qc (gD 0 jS (U (dY J 47 []) λv21=>U (bN J al 47 v1 v21) λcz=>U (ak J cz 47 v1) λv22=>some (.ret,[v22,(.bool false)],cz)) (U (ak J al 47 v1) λv23=>some (.ret,[v23,cL],al)) λi=>none)
theorem aja{a0 ao:aa} :LT PV 162 [a0,ao] (P7 a0 ao):=
 cc (f:=Tryz.f162) (.seq (.ah []) (.seq (.seq (.ah []) (.loop [5,10] [] (.seq (.ah []) (.seq (.cond .leaf .leaf) (.seq (.dW (.seq (.ah []) (.seq (.ah [[22]]) (.cond (.seq (.ah []) .leaf) .leaf)))) (.ah [])))))) (.seq (.ah []) .leaf))) (by kernel_rfl) (b' rfl (by kernel_rfl)) λ_ _=>by kernel_rfl
def Rl(a0 ao:aa)(C:bW)(h:ae) :Option a1:=ca (c9 J 47 ao) h λv1 h1=>U (ak J h1 47 v1) λv2=>a7 (C (.func 160 [] []) [v2] h1) λv3 ab=>U (gQ .not v3) λv4=>bq v4 (some (.ret,[.bI,(.int .i64 1)],ab)) (a7 (C (.func 161 [] []) [] ab) λv5 al=>U (cm v5 0) λv6=>U (cm v5 1) λbl=>U (dw J al 126 a0) λbA=>bG (eM 14 (λaK aE=>a_ aK λv9 iz=>a_ iz λv10 fN=>a_ fN λv11 mC=>a_ mC λv12 q9=>br q9 (U (ax J aE .lss 3 v12 bA) λcd=>bq cd (U (cZ J 126 a0 v12) λb9=>U (ak J aE 47 b9) λch=>ca (dz J 47) aE λcj bm=>U (bN J bm 47 cj ch) λcr=>U (aQ J 47 cj 0) λcC=>U (ak J cr 3 cC) λcx=>U (aQ J 47 v1 1) λcL=>U (ak J cr 3 cL) λv20=>U (ax J cr .lss 3 cx v20) λv21=>bG (b7 v21 true (U (aQ J 47 v1 0) λv22=>U (ak J cr 3 v22) λv23=>U (aQ J 47 cj 1) λv24=>U (ak J cr 3 v24) λv25=>U (ax J cr .lss 3 v23 v25) λv26=>some (.normal,[v26],cr)) (some (.normal,[.undef],cr))) λ_ aK cz=>a_ aK λv27 Ef=>br Ef (U (bZ v21 v27 (.bool false)) λv28=>bq v28 (some (.ret,[.bI,(.int .i64 13),v11,v12],cz)) (U (gQ .not v11) λv29=>bG (b7 v29 true (U (aQ J 47 cj 0) λv30=>U (ak J cz 3 v30) λv31=>U (aQ J 47 v1 1) λv32=>U (ak J cz 3 v32) λv33=>U (ax J cz .geq 3 v31 v33) λeP=>some (.normal,[eP],cz)) (some (.normal,[.undef],cz))) λ_ aK c6=>a_ aK λv35 tH=>br tH (U (bZ v29 v35 (.bool false)) λv36=>bG (bq v36 (U (ak J c6 47 v1) λv37=>a7 (C v6 [v37] c6) λfE dF=>some (.normal,[(.bool true)],dF)) (some (.normal,[v11],c6))) λPv aK dZ=>a_ aK λfy Ej=>br Ej (jF Pv (U (ak J dZ 47 cj) λv40=>a7 (C v6 [v40] dZ) λv41 dv=>U (ax J dv .add 3 v12 (.int .i64 1)) λgv=>some (.normal,[v9,v10,fy,gv],dv)) (some (.ret,[v9,v10,fy,v12],dZ)) λi=>none))))) (some ((.exit 0),[v9,v10,v11,v12],aE)))) [.bI,(.int .i64 0),(.bool false),(.int .i64 0)] al) λkH aK aL=>a_ aK λfF El=>a_ El λv44 Pa=>a_ Pa λgI Em=>a_ Em λv46 Pb=>br Pb (gD 0 kH (U (gQ .not gI) λgR=>bG (bq gR (U (ak J aL 47 v1) λhb=>a7 (C v6 [hb] aL) λv49 e5=>some (.normal,[],e5)) (some (.normal,[],aL))) λvq aK eX=>br aK (jF vq (a7 (C bl [] eX) λix hd=>some (.ret,[ix,(.int .i64 0)],hd)) (some (.ret,[fF,v44],eX)) λi=>none)) (some (.ret,[fF,v44],aL)) λi=>none))
theorem aks{a0 ao:aa} :LT PV 84 [a0,ao] (Rl a0 ao):=
 cc (f:=Tryz.f84) (.seq (.ah []) (.seq (.seq (.ah []) (.cond (.seq (.ah []) .leaf) .leaf)) (.seq (.ah []) (.seq (.ah []) (.seq (.seq (.ah []) (.loop [4,5,8,20] [] (.seq (.ah []) (.seq (.cond .leaf .leaf) (.seq (.dW (.seq (.ah []) (.seq (.seq (.ah [[34]]) (.cond (.seq (.ah []) .leaf) .leaf)) (.seq (.seq (.ah [[43]]) (.cut [8] [] (.cond (.seq (.ah []) (.ah [])) .leaf))) (.ah []))))) (.ah [])))))) (.seq (.seq (.ah []) (.cut [] [] (.cond (.ah []) .leaf))) (.seq (.ah []) .leaf))))))) (by kernel_rfl) (b' rfl (by kernel_rfl)) λ_ _=>by kernel_rfl
def Qu(a0 ao:aa)(C:bW)(h:ae) :Option a1:=ca (c9 J 47 a0) h λv1 h1=>ca (dz J 182) h1 λv2 ab=>U (aQ J 47 v1 3) λv3=>U (ak J ab 3 v3) λv4=>U (ax J ab .neq 3 v4 (.int .i64 1)) λv5=>bG (b7 v5 false (U (aQ J 47 v1 0) λv6=>U (ak J ab 3 v6) λbl=>U (ax J ab .lss 3 ao bl) λbA=>some (.normal,[bA],ab)) (some (.normal,[.undef],ab))) λ_ aK al=>a_ aK λv9 iz=>br iz (U (bZ v5 (.bool true) v9) λv10=>bG (b7 v10 false (U (aQ J 47 v1 1) λv11=>U (ak J al 3 v11) λv12=>U (ax J al .geq 3 ao v12) λcd=>some (.normal,[cd],al)) (some (.normal,[.undef],al))) λ_ aK aE=>a_ aK λb9 kp=>br kp (U (bZ v10 (.bool true) b9) λch=>bq ch (U (dY J 182 []) λcj=>U (bN J aE 182 v2 cj) λaL=>U (ak J aL 182 v2) λcC=>some (.ret,[cC,(.bool false)],aL)) (U (aQ J 47 v1 4) λcx=>U (ak J aE 3 cx) λcL=>U (aQ J 47 v1 5) λv20=>U (ak J aE 3 v20) λv21=>U (ax J aE .add 3 v21 ao) λv22=>U (aQ J 47 v1 0) λv23=>U (ak J aE 3 v23) λv24=>U (ax J aE .sub 3 v22 v24) λv25=>U (dY J 182 [(0,cL),(1,v25)]) λv26=>U (bN J aE 182 v2 v26) λbm=>U (ak J bm 182 v2) λv27=>some (.ret,[v27,(.bool true)],bm))))
theorem ajA{a0 ao:aa} :LT PV 226 [a0,ao] (Qu a0 ao):=
 cc (f:=Tryz.f226) (.seq (.ah []) (.seq (.seq (.ah [[13],[19]]) (.cond (.seq (.ah []) .leaf) .leaf)) (.seq (.ah []) .leaf))) (by kernel_rfl) (b' rfl (by kernel_rfl)) λ_ _=>by kernel_rfl
def Rp(a0 ao a2 a3 a4:aa)(C:bW)(h:ae) :Option a1:=ca (c9 J 47 a0) h λv1 h1=>ca (c9 J 169 a2) h1 λv2 ab=>U (gQ .not ao) λv3=>bG (b7 v3 false (U (aQ J 47 v1 2) λv4=>U (ak J ab 3 v4) λv5=>a7 (C (.func 166 [] []) [v5,a3] ab) λv6 al=>U (gQ .not v6) λbl=>some (.normal,[bl],al)) (some (.normal,[.undef],ab))) λ_ aK aE=>a_ aK λbA hL=>br hL (U (bZ v3 (.bool true) bA) λv9=>bq v9 (some (.ret,[(.int .i64 2)],aE)) (U (aQ J 169 v2 3) λv10=>U (ak J aE 4 v10) λv11=>bq v11 (some (.ret,[(.int .i64 5)],aE)) (U (aQ J 169 v2 0) λv12=>U (ak J aE 4 v12) λcd=>U (gQ .not cd) λb9=>bG (b7 b9 true (U (aQ J 47 v1 3) λch=>U (ak J aE 3 ch) λcj=>U (ax J aE .eql 3 cj (.int .i64 1)) λcC=>some (.normal,[cC],aE)) (some (.normal,[.undef],aE))) λ_ aK aL=>a_ aK λcx qa=>br qa (U (bZ b9 cx (.bool false)) λcL=>bq cL (some (.ret,[(.int .i64 3)],aL)) (U (aQ J 169 v2 0) λv20=>U (ak J aL 4 v20) λv21=>U (gQ .not v21) λv22=>bq v22 (some (.ret,[(.int .i64 4)],aL)) (U (ax J aL .neq 3 a3 (.int .i64 2)) λv23=>bG (b7 v23 false (U (aQ J 169 v2 1) λv24=>U (ak J aL 4 v24) λv25=>some (.normal,[v25],aL)) (some (.normal,[.undef],aL))) λ_ aK bm=>a_ aK λv26 yX=>br yX (U (bZ v23 (.bool true) v26) λv27=>bq v27 (some (.ret,[(.int .i64 1)],bm)) (U (aQ J 169 v2 2) λv28=>U (ak J bm 4 v28) λv29=>bG (b7 v29 true (U (ax J bm .leq 3 a4 (.int .i64 1)) λv30=>some (.normal,[v30],bm)) (some (.normal,[.undef],bm))) λ_ aK cr=>a_ aK λv31 vn=>br vn (U (bZ v29 v31 (.bool false)) λv32=>bq v32 (some (.ret,[(.int .i64 7)],cr)) (some (.ret,[(.int .i64 6)],cr)))))))))))
theorem akw{a0 ao a2 a3 a4:aa} :LT PV 89 [a0,ao,a2,a3,a4] (Rp a0 ao a2 a3 a4):=
 cc (f:=Tryz.f89) (.seq (.ah []) (.seq (.dW (.seq (.ah [[19]]) (.cond (.seq (.ah []) .leaf) (.seq (.ah []) (.cond (.seq (.ah []) .leaf) (.seq (.ah [[31]]) (.cond (.seq (.ah []) .leaf) (.seq (.ah []) (.cond (.seq (.ah []) .leaf) (.seq (.ah [[42]]) (.cond (.seq (.ah []) .leaf) (.seq (.ah [[49]]) (.cond (.seq (.ah []) .leaf) .leaf))))))))))))) (.seq (.ah []) .leaf))) (by kernel_rfl) (b' rfl (by kernel_rfl)) λ_ _=>by kernel_rfl
def P'(a0 ao:aa)(C:bW)(h:ae) :Option a1:=U (ax J h .gtr 3 ao (.int .i64 0)) λv1=>bG (b7 v1 true (a7 (C (.func 250 [] []) [] h) λv2 h1=>U (ax J h1 .lss 3 ao (.int .i64 4)) λv3=>some (.normal,[v3],h1)) (some (.normal,[.undef],h))) λ_ aK ab=>a_ aK λv4 fq=>br fq (U (bZ v1 v4 (.bool false)) λv5=>bG (b7 v5 true (a7 (C (.func 250 [] []) [] ab) λv6 al=>U (o2 J 22 v6 ao) λbl=>U (ax J al .and 3 a0 bl) λbA=>U (ax J al .neq 3 bA (.int .i64 0)) λv9=>some (.normal,[v9],al)) (some (.normal,[.undef],ab))) λ_ aK aE=>a_ aK λv10 fN=>br fN (U (bZ v5 v10 (.bool false)) λv11=>some (.ret,[v11],aE)))
theorem aje{a0 ao:aa} :LT PV 166 [a0,ao] (P' a0 ao):=
 cc (f:=Tryz.f166) (.seq (.ah []) (.seq (.ah [[11],[19]]) .leaf)) (by kernel_rfl) (b' rfl (by kernel_rfl)) λ_ _=>by kernel_rfl
def QJ(C:bW)(h:ae) :Option a1:=ca (dz J 22) h λv1 h1=>U (dY J 22 [(0,(.int .i64 0)),(1,(.int .i64 4)),(2,(.int .i64 2)),(3,(.int .i64 1))]) λv2=>U (bN J h1 22 v1 v2) λab=>U (ak J ab 22 v1) λv3=>some (.ret,[v3],ab)
theorem ajP:LT PV 250 [] QJ:=
 cc (f:=Tryz.f250) (.seq (.ah []) (.seq (.ah []) .leaf)) (by kernel_rfl) (b' rfl (by kernel_rfl)) λ_ _=>by kernel_rfl
def QI(a0 ao a2:aa)(C:bW)(h:ae) :Option a1:=ca (c9 J 47 a0) h λv1 h1=>ca (dz J 169) h1 λv2 ab=>U (aQ J 47 v1 2) λv3=>U (ak J ab 3 v3) λv4=>U (ax J ab .and 3 v4 (.int .i64 2)) λv5=>U (ax J ab .neq 3 v5 (.int .i64 0)) λv6=>U (ax J ab .eql 3 ao (.int .i64 3)) λbl=>bq bl (U (dY J 169 [(0,(.bool true)),(4,a2)]) λbA=>U (bN J ab 169 v2 bA) λal=>U (ak J al 169 v2) λv9=>some (.ret,[v9],al)) (U (ax J ab .eql 3 ao (.int .i64 4)) λv10=>bG (bq v10 (some (.normal,[v10],ab)) (U (ax J ab .eql 3 ao (.int .i64 5)) λv11=>bq v11 (some (.normal,[v11],ab)) (U (ax J ab .eql 3 ao (.int .i64 6)) λv12=>bq v12 (some (.normal,[v12],ab)) (U (ax J ab .eql 3 ao (.int .i64 7)) λcd=>some (.normal,[cd],ab))))) λmD aK aE=>a_ aK λb9 kp=>br kp (jF mD (bq b9 (U (gQ .not v6) λch=>U (dY J 169 [(0,(.bool true)),(1,v6),(2,ch),(4,a2)]) λcj=>U (bN J aE 169 v2 cj) λaL=>U (ak J aL 169 v2) λcC=>some (.ret,[cC],aL)) (U (dY J 169 []) λcx=>U (bN J aE 169 v2 cx) λbm=>U (ak J bm 169 v2) λcL=>some (.ret,[cL],bm))) (U (ak J aE 169 v2) λv20=>some (.ret,[v20],aE)) λi=>none))
theorem ajO{a0 ao a2:aa} :LT PV 249 [a0,ao,a2] (QI a0 ao a2):=
 cc (f:=Tryz.f249) (.seq (.ah []) (.seq (.ah []) (.seq (.seq (.ah []) (.dW (.seq (.ah []) (.cond (.seq (.ah []) .leaf) (.seq (.seq (.ah []) (.cut [17] [] (.cond .leaf (.seq (.ah []) (.cond .leaf (.seq (.ah []) (.cond .leaf (.ah [])))))))) (.cond (.seq (.ah []) .leaf) .leaf)))))) (.seq (.ah []) .leaf)))) (by kernel_rfl) (b' rfl (by kernel_rfl)) λ_ _=>by kernel_rfl
end
end Go.Proofs.YtkdjcmpgnkecfaaGreatDoor
namespace Go.a8
theorem xv{α:Type} :∀(l:List α) (i:Nat) (t:bu α) (k:Nat),(bu.mr l i t).get k=if i<=k/\k<i+l.length then l[k-i]? else t.get k
 |[],i,t,k=>by rw[if_neg (by simp only[List.length_nil];omega)];rfl
 |x::xs,i,t,k=>by
  unfold bu.mr;rw[xv xs (i+1) (t.set i x) k,bu.lL,List.length_cons];by_cases h:k=i
  ·subst h;rw[if_neg (by omega),if_pos rfl,if_pos (by omega),Nat.sub_self];rfl
  ·by_cases bC:i+1<=k/\k<i+1+xs.length
   ·rw[if_pos bC,if_pos (by omega),show k-i=(k-(i+1)) +1 by omega];rfl
   ·rw[if_neg bC,if_neg h,if_neg (by omega)]
section
variable{E:Env}{T e:TypeId}{si ie:bK}
theorem Jb(aW:E.ty T=some si)(aC:si.desc=.slice e)(he:E.ty e=some ie)(hu:jh ie.desc=false)(h1:1<=ie.size){h:ae}{b len:Nat}{old:List aa}(o:Obj h b old)(hlen:old.length=len*ie.size)
  {xid xoff n xcap:Nat} {xex:Bool} {new:List aa} (ag:j4 h xid xoff ((n+1) *ie.size)=some new) (jx:new.length=(n+1) *ie.size) (aA:new.all dH=true) (an:roomy (len+(n+1)) ie.bytes=true) :
  ∃g,h2 E h T T (.slice b 0 len len ie.size false) (.slice xid xoff (n+1) xcap ie.size xex)=some (.slice h.next 0 (len+(n+1)) (len+(n+1)) ie.size false,g)/\(Obj g h.next (old++new)/\aM (λi=>i=b) h g/\g.next=h.next+1):=by
 obtain⟨z,t,aj⟩:=o.live;let ob:bT:=.cells ((len+(n+1)) *ie.size) false z (bu.mr new (len*ie.size) t);refine⟨(h.put b .dead).new ob,?_,⟨⟨z,bu.mr new (len*ie.size) t,?_⟩,λi=> ?_⟩,?_,rfl⟩
 ·have hle:Nat.ble (len+(n+1)) len=false:=by rw[<-Bool.not_eq_true,ec];omega
  have rA:Nat.beq ie.size ie.size=true:=beq_true.2 rfl;have kW:Nat.ble 1 ie.size=true:=ec.2 h1;have eR:Nat.ble (len*ie.size) old.length=true:=ec.2 (by omega)
  have aN:nX h b false (λst=>.cells ((len+(n+1)) *ie.size) st z (bu.mr new (len*ie.size) t))=some ((h.put b .dead).new ob):=by unfold nX;rw[aj];rfl
  simp only[h2,aW,aC,he,lx,hu]
  show(bif Nat.beq ie.size ie.size&&Nat.ble 1 ie.size then match j4 h xid xoff ((n+1) *ie.size)with
   |none=>none
   |some new=>bif Nat.beq ie.size ie.size&&new.all dH then
    bif Nat.ble (len+(n+1)) len then match j9 h b (0+len*ie.size) new with
     |some h=>some (aa.slice b 0 (len+(n+1)) len ie.size false,h)
     |none=>none
    else bif roomy (len+(n+1)) ie.bytes then
     match h.get b,Nat.beq 0 0 with
     | .cells size _ zero t,true=>bif Nat.ble (len*ie.size) size then
      match nX h b false (λst=>.cells ((len+(n+1)) *ie.size) st zero (bu.mr new (len*ie.size) t))with
      |some g=>some (.slice h.next 0 (len+(n+1)) (len+(n+1)) ie.size false,g)
      |none=>none
      else none
     |o,_=>match o.read 0 (len*ie.size)with
      |none=>none
      |some old=>match nX h b false (λst=>.cells ((len+(n+1)) *ie.size) st [] (bu.ofList (old++new)))with
       |some g=>some (.slice h.next 0 (len+(n+1)) (len+(n+1)) ie.size false,g)
       |none=>none
    else none else none else none)=_
  rw[ag];simp only[rA,kW,aA,hle,an,Bool.and_true,cond_true,cond_false,aj]
  show(bif Nat.ble (len*ie.size) old.length then match nX h b false (λst=>.cells ((len+(n+1)) *ie.size) st z (bu.mr new (len*ie.size) t))with
   |some g=>some (aa.slice h.next 0 (len+(n+1)) (len+(n+1)) ie.size false,g)
   |none=>none
   else none)=_
  rw[eR,aN];rfl
 ·show((h.put b .dead).new ob).get (h.put b .dead).next=_
  rw[ks,List.length_append,hlen,jx,<-Nat.add_mul]
 ·have h0:=o.rd i;unfold bP at h0|-;show(((h.put b .dead).new ob).get (h.put b .dead).next).cell i=_;rw[ks];rw[aj]at h0;simp only[ob,bT.cell]at h0|-;rw[xv,<-hlen,jx];have CL:(len+(n+1)) *ie.size=old.length+(n+1) *ie.size:=by rw[Nat.add_mul,hlen]
  by_cases af:i<old.length
  ·rw[if_neg (by omega),dM.2 (by omega),List.getElem?_append_left af];rw[dM.2 af]at h0;exact h0
  ·rw[List.getElem?_append_right (by omega)];by_cases rK:i<old.length+(n+1) *ie.size
   ·rw[if_pos ⟨by omega,rK⟩,dM.2 (by omega)];rw[List.getElem?_eq_getElem (by omega)];rfl
   ·rw[show Nat.blt i ((len+(n+1)) *ie.size)=false by rw[<-Bool.not_eq_true,dM];omega,List.getElem?_eq_none (by omega)];rfl
 ·exact(aM.put (S:=λi=>i=b) .dead rfl).trans (aM.new _ _ _)
theorem EM(aW:E.ty T=some si)(aC:si.desc=.slice e)(he:E.ty e=some ie)(hu:jh ie.desc=false)(h1:1<=ie.size){h:ae}
  {xid xoff n xcap:Nat} {xex:Bool} {new:List aa} (ag:j4 h xid xoff ((n+1) *ie.size)=some new) (jx:new.length=(n+1) *ie.size) (an:roomy (n+1) ie.bytes=true) :
  ∃g,h2 E h T T .bI (.slice xid xoff (n+1) xcap ie.size xex)=some (.slice h.next 0 (n+1) (n+1) ie.size false,g)/\(Obj g h.next new/\bf h g/\g.next=h.next+1):=by
 refine⟨h.new (.cells new.length false [] (bu.ofList new)),?_,Obj.new h new false [],aM.new _ _ _,rfl⟩;have rA:Nat.beq ie.size ie.size=true:=beq_true.2 rfl;have kW:Nat.ble 1 ie.size=true:=ec.2 h1;simp only[h2,aW,aC,he,lx,hu,ag,rA,kW,an,Bool.and_true,cond_true,jx]
theorem EN(aW:E.ty T=some si)(aC:si.desc=.slice e)(he:E.ty e=some ie){h:ae}{s:aa}(aA:s=.bI\/∃a b c d e f,s=.slice a b c d e f){x:aa}(ag:lx x=some 0) :
  h2 E h T T s x=some (s,h):=by
 rcases aA with rfl|⟨a,b,c,d,de,f,rfl⟩<;>simp only[h2,aW,aC,he,ag]
end
def Row(h:ae)(sz lo:Nat)(v:aa)(rows:List (List aa)) :Prop:=
 (∀r,r∈rows->r.length=sz)/\((v=.bI/\rows=[])\/∃b,v=.slice b 0 rows.length rows.length sz false/\lo<=b/\b<h.next/\Obj h b rows.flatten)
theorem sH{sz:Nat} :∀{rows:List (List aa)},(∀r,r∈rows->r.length=sz)->rows.flatten.length=rows.length*sz
 |[],_=>by simp
 |r::rows,h=>by rw[List.flatten_cons,List.length_append,h r (by simp),sH (λx ag=>h x (by simp[ag])),List.length_cons,Nat.succ_mul];omega
theorem Row.nil(h:ae)(sz lo:Nat) :Row h sz lo .bI []:=⟨by simp,.inl ⟨rfl,rfl⟩⟩
theorem Row.az{h g:ae}{sz lo:Nat}{v:aa}{rows:List (List aa)}(r:Row h sz lo v rows){S:Nat->Prop}(u:aM S h g)(aA:∀i,lo<=i->i<h.next->¬S i) :Row g sz lo v rows:=by
 refine⟨r.1,?_⟩;rcases r.2 with h1|⟨b,h1,ab,al,aE⟩
 ·exact .inl h1
 ·exact .inr ⟨b,h1,ab,Nat.lt_of_lt_of_le al u.next,aE.az u al (aA b ab al)⟩
theorem Row.ext{h g:ae}{sz lo:Nat}{v:aa}{rows:List (List aa)}(r:Row h sz lo v rows)(u:bf h g) :Row g sz lo v rows:=r.az u λ_ _ _ e=>e
theorem Row.push{E:Env}{T e:TypeId}{si ie:bK}(aW:E.ty T=some si)(aC:si.desc=.slice e)(he:E.ty e=some ie)(hu:jh ie.desc=false)(h1:1<=ie.size){h:ae}{lo:Nat}{v:aa}{rows:List (List aa)}(r:Row h ie.size lo v rows)
  {xid xcap:Nat} {xex:Bool} {new:List aa} (fo:Obj h xid new) (jx:new.length=ie.size) (aA:new.all dH=true) (an:roomy (rows.length+1) ie.bytes=true) (e1:lo<=h.next) :
  ∃w g,h2 E h T T v (.slice xid 0 1 xcap ie.size xex)=some (w,g)/\(Row g ie.size lo w (rows++[new])/\aM (λi=>lo<=i) h g/\g.next=h.next+1):=by
 have ag:j4 h xid 0 ((0+1) *ie.size)=some new:=by have:=fo.here;rw[jx]at this;simpa using this
 rcases r.2 with⟨rfl,rfl⟩ |⟨b,rfl,ab,al,o⟩
 ·obtain⟨g,g1,g2,g3,g4⟩:=EM aW aC he hu h1 (n:=0) (xcap:=xcap) (xex:=xex) ag (by omega) (by simpa using an);exact⟨_,g,g1,⟨by simpa using jx,.inr ⟨h.next,rfl,e1,by omega,by simpa using g2⟩⟩,g3.mono λ_ _ e=>e.elim,g4⟩
 ·obtain⟨g,g1,g2,g3,g4⟩:=Jb aW aC he hu h1 (n:=0) (xcap:=xcap) (xex:=xex) (len:=rows.length) o (sH r.1) ag (by omega) aA an;refine⟨_,g,g1,⟨?_,.inr ⟨h.next,by simp,e1,by omega,by simpa using g2⟩⟩,g3.mono λi _ e=>by subst e;exact ab,g4⟩;intro y aq;rcases List.mem_append.1 aq with aq|aq
  ·exact r.1 y aq
  ·rw[List.mem_singleton]at aq;subst aq;exact jx
theorem Fs{sz:Nat} :∀{rows:List (List aa)} {i:Nat} {r:List aa},(∀r,r∈rows->r.length=sz)->rows[i]? =some r->(rows.flatten.drop (i*sz)).take sz=r
 |[],i,r,_,af=>by simp at af
 |x::rows,0,r,h,af=>by simp at af;subst af;rw[Nat.zero_mul,List.drop_zero,List.flatten_cons,List.take_append_of_le_length (by rw[h x (by simp)];exact Nat.le_refl _)];exact List.take_of_length_le (by rw[h x (by simp)];exact Nat.le_refl _)
 |x::rows,i+1,r,h,af=>by rw[List.flatten_cons,List.drop_append,h x (by simp),show(i+1) *sz-sz=i*sz by rw[Nat.succ_mul];omega];rw[List.drop_of_length_le (by rw[h x (by simp),Nat.succ_mul];omega),List.nil_append];exact Fs (λy aq=>h y (by simp[aq])) (by simpa using af)
theorem Row.len{h:ae}{sz lo:Nat}{v:aa}{rows:List (List aa)}(r:Row h sz lo v rows){E:Env}{T e:TypeId}{si:bK}(aW:E.ty T=some si)(aC:si.desc=.slice e) :dw E h T v=some (.int .i64 (rows.length:Nat)):=by
 rcases r.2 with⟨rfl,rfl⟩ |⟨b,rfl,_⟩
 ·exact Mf aW aC h
 ·exact ye aW aC h _ _ _ _ _ _
theorem Row.at{h:ae}{sz lo:Nat}{v:aa}{rows:List (List aa)}(r:Row h sz lo v rows){i:Nat}{x:List aa}(af:rows[i]? =some x) :
  ∃b,v=.slice b 0 rows.length rows.length sz false/\lo<=b/\b<h.next/\Obj h b rows.flatten/\i<rows.length/\(i+1) *sz<=rows.flatten.length/\(rows.flatten.drop (i*sz)).take sz=x:=by
 obtain⟨b6,_⟩:=List.getElem?_eq_some_iff.1 af;rcases r.2 with⟨rfl,rfl⟩ |⟨b,rfl,ab,al,o⟩
 ·simp at b6
 ·exact⟨b,rfl,ab,al,o,b6,by rw[sH r.1];exact Nat.mul_le_mul_right _ b6,Fs r.1 af⟩
end Go.a8
namespace Go.Proofs.YtkdjcmpgnkecfaaGreatDoor
open Go.a8
section
variable{PV:cn} [cN PV]
def aU.vs(r:aU) :List aa:=[.int .i64 r.lo,.int .i64 r.af,.int .i64 r.perm,.int .i64 r.kind,.int .i64 r.file,.int .i64 r.bM]
theorem aU.arc(r:aU) :r.vs.all dH=true:=rfl
def sw(r:aU) :Prop:= -1099511627776<=r.lo/\r.lo<=1099511627776/\ -1099511627776<=r.af/\r.af<=1099511627776/\ -1099511627776<=r.bM/\r.bM<=1099511627776
theorem C5{r:aU}(h:r.may=true) :sw r:=by
 have k:=nE h;unfold sw;by_cases av:r.kind=1
 ·simp only[av,if_true]at k;omega
 ·simp only[av,if_false]at k;omega
theorem aoc(h:ae)(r:aU) :bh (call J PV (.func 160 [] []) [.agg r.vs] h) λv g=>v=.bool r.may/\bf h g:=by
 refine bh.mk (λe=>ai_ (first:=[]) (cap:=[]) e rfl) ?_;unfold P5;refine cM (r' (cs:=r.vs) rfl) λg o n u=> ?_
 have r0:=Obj.get o (i:=0) rfl;have cS:=Obj.get o (i:=1) rfl;have dm:=Obj.get o (i:=2) rfl;have eS:=Obj.get o (i:=3) rfl;have fp:=Obj.get o (i:=4) rfl;have hI:=Obj.get o (i:=5) rfl;have fin:∀b:Bool,b=r.may->aV (some (.ret,[aa.bool b],g)) λ_ vs cw=>kE vs=.bool r.may/\bf h cw:=λb aj=>aV.pure ⟨by rw[aj];rfl,u⟩
 have no:(¬(0<=r.lo/\r.lo<r.af/\r.af<=4096/\0<=r.perm/\r.perm<=7))->false=r.may:=λaH=>by
  cases hm:r.may with
  |false=>rfl
  |true=>have:=nE hm;exact absurd ⟨this.1,this.2.1,this.2.2.1,this.2.2.2.1,this.2.2.2.2.1⟩ aH
 simp only[A1,yD,H2,sa,Oq,Ot,Nat.zero_add,cW,r0,cS,dm,eS,fp,hI,ar,dk,jr,iT,gA,dn];by_cases bo:r.lo<0
 ·simp only[r0,cS,dm,eS,fp,hI,dk,jr,iT,gA,dn,decide_eq_true bo,cP,Bool.true_eq_false,if_false,c4,bz,bp,cF,if_true,ar,ba];exact fin _ (no (by omega))
 simp only[r0,cS,dm,eS,fp,hI,dk,jr,iT,gA,dn,decide_eq_false bo,cP,if_true,c4,bz,bp,cF,Bool.false_eq_true,if_false,ar];by_cases cp:r.af<=r.lo
 ·simp only[r0,cS,dm,eS,fp,hI,dk,jr,iT,gA,dn,decide_eq_true cp,cP,Bool.true_eq_false,if_false,c4,bz,bp,cF,if_true,ar,ba];exact fin _ (no (by omega))
 simp only[r0,cS,dm,eS,fp,hI,dk,jr,iT,gA,dn,decide_eq_false cp,cP,if_true,c4,bz,bp,cF,Bool.false_eq_true,if_false,ar];by_cases ed:(4096:Int) <r.af
 ·simp only[r0,cS,dm,eS,fp,hI,dk,jr,iT,gA,dn,decide_eq_true ed,cP,Bool.true_eq_false,if_false,c4,bz,bp,cF,if_true,ar,ba];exact fin _ (no (by omega))
 simp only[r0,cS,dm,eS,fp,hI,dk,jr,iT,gA,dn,decide_eq_false ed,cP,if_true,c4,bz,bp,cF,Bool.false_eq_true,if_false,ar];by_cases gh:r.perm<0
 ·simp only[r0,cS,dm,eS,fp,hI,dk,jr,iT,gA,dn,decide_eq_true gh,cP,Bool.true_eq_false,if_false,c4,bz,bp,cF,if_true,ar,ba];exact fin _ (no (by omega))
 simp only[r0,cS,dm,eS,fp,hI,dk,jr,iT,gA,dn,decide_eq_false gh,cP,if_true,c4,bz,bp,cF,Bool.false_eq_true,if_false,ar];by_cases lh:(7:Int) <r.perm
 ·simp only[r0,cS,dm,eS,fp,hI,dk,jr,iT,gA,dn,decide_eq_true lh,ba,if_true];exact fin _ (no (by omega))
 simp only[r0,cS,dm,eS,fp,hI,dk,jr,iT,gA,dn,decide_eq_false lh,ba,Bool.false_eq_true,if_false]
 have lN:r.may=decide (if r.kind=1 then 0<=r.file/\0<=r.bM/\r.bM<=1073741824-(r.af-r.lo)else 1<r.kind/\r.kind<=4/\r.file= -1/\r.bM=0):=by
  unfold aU.may;rw[decide_eq_decide];constructor
  ·rintro⟨_,_,_,_,_,aD⟩;exact aD
  ·intro aD;exact⟨by omega,by omega,by omega,by omega,by omega,aD⟩
 have aG:b0 .i64 (r.af-r.lo)=r.af-r.lo:=wrap_i64 (by omega) (by omega);have aT:b0 .i64 (1073741824-(r.af-r.lo))=1073741824-(r.af-r.lo):=wrap_i64 (by omega) (by omega);by_cases oI:r.kind=1
 ·simp only[r0,cS,dm,eS,fp,hI,dk,jr,iT,gA,dn,decide_eq_true oI,if_true,fT,aG,aT]
  by_cases d1:(0:Int)<=r.file<;>by_cases d2:(0:Int)<=r.bM<;>by_cases d3:r.bM<=1073741824-(r.af-r.lo)<;>
   simp only[r0,cS,dm,eS,fp,hI,dk,jr,iT,gA,dn,fT,aG,aT,d1,d2,d3,decide_true,decide_false,cP,if_true,if_false,Bool.false_eq_true,Bool.true_eq_false,c4,bz,bp,cF,ar,jr]<;>
   exact fin _ (by rw[lN];simp[oI,d1,d2,d3])
 ·simp only[r0,cS,dm,eS,fp,hI,dk,jr,iT,gA,dn,decide_eq_false oI,Bool.false_eq_true,if_false]
  by_cases d1:(1:Int) <r.kind<;>by_cases d2:r.kind<=4<;>by_cases d3:r.file= -1<;>by_cases d4:r.bM=0<;>
   simp only[r0,cS,dm,eS,fp,hI,dk,jr,iT,gA,dn,fT,aG,aT,d1,d2,d3,d4,decide_true,decide_false,cP,if_true,if_false,Bool.false_eq_true,Bool.true_eq_false,c4,bz,bp,cF,ar]<;>
   exact fin _ (by rw[lN];simp[oI,d1,d2,d3,d4])
theorem amw(h:ae){a b:aU}(bc:sw a)(aj:sw b) :bh (call J PV (.func 243 [] []) [.agg a.vs,.agg b.vs] h) λv g=>v=.bool (a.one b)/\bf h g:=by
 refine bh.mk (λe=>ajK (first:=[]) (cap:=[]) e rfl) ?_;unfold QE;refine cM (r' (cs:=a.vs) rfl) λg1 ct dR bb=> ?_
 refine cM (r' (cs:=b.vs) rfl) λg o n u=> ?_
 have ct:=ct.ext u (by omega);have u:=bb.trans u;have a0:=Obj.get ct (i:=0) rfl;have ao:=Obj.get ct (i:=1) rfl;have a2:=Obj.get ct (i:=2) rfl;have a3:=Obj.get ct (i:=3) rfl;have a4:=Obj.get ct (i:=4) rfl;have a5:=Obj.get ct (i:=5) rfl;have mI:=Obj.get o (i:=0) rfl;have ft:=Obj.get o (i:=2) rfl;have gV:=Obj.get o (i:=3) rfl;have jq:=Obj.get o (i:=4) rfl;have kP:=Obj.get o (i:=5) rfl;unfold sw at bc aj;have aG:b0 .i64 (a.bM+a.af)=a.bM+a.af:=wrap_i64 (by omega) (by omega);have aT:b0 .i64 (a.bM+a.af-a.lo)=a.bM+a.af-a.lo:=wrap_i64 (by omega) (by omega);have fin:∀c:Bool,c=a.one b->aV (some (.ret,[aa.bool c],g)) λ_ vs cw=>kE vs=.bool (a.one b)/\bf h cw:=λc aH=>aV.pure ⟨by rw[aH];rfl,u⟩
 have no:(¬(a.af=b.lo/\a.perm=b.perm/\a.kind=b.kind/\a.file=b.file/\(a.kind=1->b.bM=a.bM+a.af-a.lo)))->false=a.one b:=λaH=>by unfold aU.one;rw[decide_eq_false aH]
 simp only[A1,yD,H2,sa,Oq,Ot,Nat.zero_add,cW,a0,ao,a2,a3,a4,a5,mI,ft,gV,jq,kP,ar,dP,dn,du,fT,aG,aT];by_cases d1:a.af≠b.lo
 ·simp only[a0,ao,a2,a3,a4,a5,mI,ft,gV,jq,kP,dP,dn,du,fT,aG,aT,decide_eq_true d1,cP,Bool.true_eq_false,if_true,if_false,Bool.false_eq_true,c4,bz,bp,cF,ar,ba];exact fin _ (no (λaH=>d1 aH.1))
 simp only[a0,ao,a2,a3,a4,a5,mI,ft,gV,jq,kP,dP,dn,du,fT,aG,aT,decide_eq_false d1,cP,Bool.true_eq_false,if_true,if_false,Bool.false_eq_true,c4,bz,bp,cF,ar];by_cases d2:a.perm≠b.perm
 ·simp only[a0,ao,a2,a3,a4,a5,mI,ft,gV,jq,kP,dP,dn,du,fT,aG,aT,decide_eq_true d2,cP,Bool.true_eq_false,if_true,if_false,Bool.false_eq_true,c4,bz,bp,cF,ar,ba];exact fin _ (no (λaH=>d2 aH.2.1))
 simp only[a0,ao,a2,a3,a4,a5,mI,ft,gV,jq,kP,dP,dn,du,fT,aG,aT,decide_eq_false d2,cP,Bool.true_eq_false,if_true,if_false,Bool.false_eq_true,c4,bz,bp,cF,ar];by_cases d3:a.kind≠b.kind
 ·simp only[a0,ao,a2,a3,a4,a5,mI,ft,gV,jq,kP,dP,dn,du,fT,aG,aT,decide_eq_true d3,cP,Bool.true_eq_false,if_true,if_false,Bool.false_eq_true,c4,bz,bp,cF,ar,ba];exact fin _ (no (λaH=>d3 aH.2.2.1))
 simp only[a0,ao,a2,a3,a4,a5,mI,ft,gV,jq,kP,dP,dn,du,fT,aG,aT,decide_eq_false d3,cP,Bool.true_eq_false,if_true,if_false,Bool.false_eq_true,c4,bz,bp,cF,ar];by_cases d4:a.file≠b.file
 ·simp only[a0,ao,a2,a3,a4,a5,mI,ft,gV,jq,kP,dP,dn,du,fT,aG,aT,decide_eq_true d4,cP,Bool.true_eq_false,if_true,if_false,Bool.false_eq_true,c4,bz,bp,cF,ar,ba];exact fin _ (no (λaH=>d4 aH.2.2.2.1))
 simp only[a0,ao,a2,a3,a4,a5,mI,ft,gV,jq,kP,dP,dn,du,fT,aG,aT,decide_eq_false d4,cP,Bool.true_eq_false,if_true,if_false,Bool.false_eq_true,c4,bz,bp,cF,ar,ba];by_cases d5:a.kind≠1
 ·simp only[a0,ao,a2,a3,a4,a5,mI,ft,gV,jq,kP,dP,dn,du,fT,aG,aT,decide_eq_true d5,cP,Bool.true_eq_false,if_true,if_false,Bool.false_eq_true,c4,bz,bp,cF,ar];exact fin _ (by unfold aU.one;rw[eq_comm,decide_eq_true_eq];exact⟨by omega,by omega,by omega,by omega,λh=>absurd h d5⟩)
 simp only[a0,ao,a2,a3,a4,a5,mI,ft,gV,jq,kP,dP,dn,du,fT,aG,aT,decide_eq_false d5,cP,Bool.true_eq_false,if_true,if_false,Bool.false_eq_true,c4,bz,bp,cF,ar]
 exact fin _ (by
  unfold aU.one;rw[decide_eq_decide];constructor
  ·intro h;exact⟨by omega,by omega,by omega,by omega,λ_=>h⟩
  ·rintro⟨_,_,_,_,h⟩;exact h (by omega))
end
section
variable{PV:cn} [cN PV]
def kq(h:ae)(v:aa)(L:List aU) :Prop:=(v=.bI/\L=[])\/∃b cap ex,v=.slice b 0 L.length cap 6 ex/\L.length<=cap/\b<h.next/\a8.Obj h b (L.map aU.vs).flatten
theorem kq.az{h g:ae}{v:aa}{L:List aU}(r:kq h v L){S:Nat->Prop}(u:aM S h g)(aA:∀b cap ex,v=.slice b 0 L.length cap 6 ex->¬S b) :kq g v L:=by
 rcases r with h1|⟨b,cap,ex,h1,ab,al,aE⟩
 ·exact .inl h1
 ·exact .inr ⟨b,cap,ex,h1,ab,Nat.lt_of_lt_of_le al u.next,aE.az u al (aA b cap ex h1)⟩
theorem kq.ext{h g:ae}{v:aa}{L:List aU}(r:kq h v L)(u:bf h g) :kq g v L:=r.az u λ_ _ _ _ e=>e
theorem kq.nil(h:ae) :kq h .bI []:=.inl ⟨rfl,rfl⟩
theorem Il(L:List aU) :∀r,r∈L.map aU.vs->r.length=6:=by intro r an;obtain⟨x,_,rfl⟩:=List.mem_map.1 an;rfl
theorem kq.len{h:ae}{v:aa}{L:List aU}(r:kq h v L) :dw J h 126 v=some (.int .i64 (L.length:Nat)):=by
 rcases r with⟨rfl,rfl⟩ |⟨b,cap,ex,rfl,_⟩
 ·exact YB h
 ·exact YA h _ _ _ _ _ _
theorem kq.get{h:ae}{v:aa}{L:List aU}(r:kq h v L){i:Nat}{x:aU}(af:L[i]? =some x) :∃b,cZ J 126 v (.int .i64 (i:Nat))=some (.ptr b (0+i*6))/\b<h.next/\ak J h 47 (.ptr b (0+i*6))=some (.agg x.vs):=by
 obtain⟨b6,_⟩:=List.getElem?_eq_some_iff.1 af;rcases r with⟨rfl,rfl⟩ |⟨b,cap,ex,rfl,_,aj,o⟩
 ·simp at b6
 ·have ay:(L.map aU.vs).flatten.length=L.length*6:=by rw[sH (Il L),List.length_map]
  refine⟨b,Yu b6,aj,?_⟩;rw[lz o (by rw[ay];omega),Nat.zero_add];rw[Fs (Il L) (show(L.map aU.vs)[i]? =some x.vs by simp[af])]
def cI:aa->Option Nat
 | .slice id _ _ _ _ _=>some id
 |_=>none
def qg(h:ae)(box lo:Nat)(v:aa)(out:List aU) :Prop:=a8.Obj h box [v]/\Row h 6 lo v (out.map aU.vs)
theorem qg.ext{h g:ae}{box lo:Nat}{v:aa}{out:List aU}(o:qg h box lo v out)(u:bf h g)(aj:box<h.next) :qg g box lo v out:=⟨o.1.ext u aj,o.2.ext u⟩
theorem qg.dW{h:ae}{box lo:Nat}{v:aa}{out:List aU}(o:qg h box lo v out){i:Nat}(af:cI v=some i) :lo<=i/\i<h.next:=by
 rcases o.2.2 with⟨rfl,_⟩ |⟨b,rfl,ab,al,_⟩
 ·cases af
 ·have:b=i:=Option.some.inj af;omega
theorem abZ(r:aU) :lg J 126 1 [(0,.agg r.vs)]=some (λid=>aa.slice id 0 1 1 6 true,.cells r.vs.length false [] (bu.ofList r.vs)):=by
 have k:∀a b c d e f:aa,lg J 126 1 [(0,.agg [a,b,c,d,e,f])]=some (λid=>aa.slice id 0 1 1 6 true,.cells 6 false [] (bu.ofList [a,b,c,d,e,f])):=λa b c d e f=>by kernel_rfl
 exact k _ _ _ _ _ _
theorem anh{h:ae}{lo:Nat}{v:aa}{rows:List (List aa)}(r:Row h 6 lo v rows){xid xcap:Nat}{xex:Bool}{new:List aa}(fo:a8.Obj h xid new)(jx:new.length=6)(aA:new.all dH=true)(an:rows.length<=2^30)(e1:lo<=h.next) :
  ∃w g,h2 J h 126 126 v (.slice xid 0 1 xcap 6 xex)=some (w,g)/\(Row g 6 lo w (rows++[new])/\aM (λi=>cI v=some i) h g/\g.next=h.next+1/\cI w=some h.next):=by
 have iG:∀n,n<=2^30+1->roomy n 48=true:=λn aw=>by unfold roomy;rw[Bool.and_eq_true,ec,ec];omega
 have ag:j4 h xid 0 ((0+1) *6)=some new:=by have:=fo.here;rw[jx]at this;simpa using this
 rcases r.2 with⟨rfl,rfl⟩ |⟨b,rfl,ab,al,o⟩
 ·obtain⟨g,g1,g2,g3,g4⟩:=EM (E:=J) (T:=126) (si:=p5) (ie:=p6) (by kernel_rfl) rfl (by kernel_rfl) rfl (by decide) (n:=0) (xcap:=xcap) (xex:=xex) ag (by rw[jx];rfl) (iG _ (by omega));exact⟨_,g,g1,⟨by simpa using jx,.inr ⟨h.next,rfl,e1,by omega,by simpa using g2⟩⟩,g3.mono λ_ _ e=>e.elim,g4,rfl⟩
 ·obtain⟨g,g1,g2,g3,g4⟩:=Jb (E:=J) (T:=126) (si:=p5) (ie:=p6) (by kernel_rfl) rfl (by kernel_rfl) rfl (by decide) (n:=0) (xcap:=xcap) (xex:=xex) (len:=rows.length) o (sH r.1) ag (by rw[jx];rfl) aA (iG _ (by omega));refine⟨_,g,g1,⟨?_,.inr ⟨h.next,by simp;rfl,e1,by omega,by simpa using g2⟩⟩,g3.mono λi _ e=>by subst e;rfl,g4,rfl⟩;intro y aq;rcases List.mem_append.1 aq with aq|aq
  ·exact r.1 y aq
  ·rw[List.mem_singleton]at aq;subst aq;exact jx
theorem Xp{h:ae}{sz lo:Nat}{v:aa}{rows:List (List aa)}(r:Row h sz lo v rows) :v.cells=[v]/\dH v=true:=by rcases r.2 with⟨rfl,_⟩ |⟨b,rfl,_⟩<;>exact⟨rfl,rfl⟩
theorem Va{h:ae}{lo:Nat}{v:aa}{cg:List aU}{a:aU}(r:Row h 6 lo v ((cg++[a]).map aU.vs))(e:Int) :
  ∃b,cI v=some b/\cZ J 126 v (.int .i64 (cg.length:Nat))=some (.ptr b (cg.length*6))/\lo<=b/\b<h.next/\ak J h 47 (.ptr b (cg.length*6))=some (.agg a.vs)/\
   ∃g,bN J h 3 (.ptr b (cg.length*6+1)) (.int .i64 e)=some g/\(Row g 6 lo v ((cg++[{a with af:=e}]).map aU.vs)/\aM (λi=>i=b) h g/\g.next=h.next):=by
 obtain⟨b,ai,ab,al,o,b6,hle,ag⟩:=r.at (i:=cg.length) (x:=a.vs) (by simp);have lu:((cg++[a]).map aU.vs).flatten=(cg.map aU.vs).flatten++a.vs:=by simp
 have afP:((cg++[{a with af:=e}]).map aU.vs).flatten=(cg.map aU.vs).flatten++({a with af:=e} :aU).vs:=by simp
 have TG:(cg.map aU.vs).flatten.length=cg.length*6:=by rw[sH (Il cg),List.length_map]
 have dB:((cg++[a]).map aU.vs).flatten.length=cg.length*6+6:=by rw[lu,List.length_append,TG];rfl
 refine⟨b,by rw[ai];rfl,by rw[ai];have:=Yu (id:=b) (off:=0) (cap:=((cg++[a]).map aU.vs).length) (ex:=false) b6;rwa[Nat.zero_add]at this,ab,al,by rw[lz o (by omega)];rw[ag],?_⟩;obtain⟨g,aG,ct,bb,dR⟩:=m5 (k:=cg.length*6+1) (v:=.int .i64 e) o (by omega) rfl rfl;refine⟨g,aG,⟨Il _,.inr ⟨b,by rw[ai];simp,ab,by omega,?_⟩⟩,bb,dR⟩;rw[lu,<-TG,List.set_append_right _ _ (by omega),show(cg.map aU.vs).flatten.length+1-(cg.map aU.vs).flatten.length=1 by omega]at ct;rw[afP];exact ct
theorem aon{h:ae}{box lo:Nat}{v:aa}{out:List aU}(o:qg h box lo v out)(asW:box<lo)(e1:lo<=h.next){r:aU}(an:sw r)(bg:∀x,x∈out->sw x)(hlen:out.length<=2^29) :
  bh (call J PV (.func 242 [] [.ptr box 0]) [.agg r.vs] h) λw g=>w=.undef/\∃eT,qg g box lo eT (e9 out r)/\aM (λi=>i=box\/cI v=some i) h g/\(cI eT=cI v\/∃i,cI eT=some i/\h.next<=i):=by
 have KJ:=λi af=>(qg.dW o (i:=i) af).1
 obtain⟨ob,Ds⟩:=o;refine bh.mk (λe=>ajJ (first:=[]) (mid:=[_]) (cap:=[_]) e rfl) ?_;unfold QD;refine cM (r' (cs:=r.vs) rfl) λg1 ct dR bb=> ?_
 have uR:=ob.ext bb (by omega);have NJ:=Ds.ext bb;have ay:dw J g1 126 v=some (.int .i64 (out.length:Nat)):=by have:=NJ.len (E:=J) (T:=126) (si:=p5) (by kernel_rfl) rfl;simpa using this
 simp only[u7,Obj.get uR (i:=0) rfl,ar,ay,A1,yD,Nat.zero_add,cW,Obj.get ct (i:=0) rfl,Obj.get ct (i:=1) rfl,gA,ba,decide_eq_true_eq];by_cases c:r.af<=r.lo
 ·rw[if_pos c];exact aV.pure ⟨rfl,by rw[Xr out c];exact⟨v,⟨uR,NJ⟩,aM.ext bb,.inl rfl⟩⟩
 ·rw[if_neg c];have cf:bf g1 (g1.aB 12):=aM.aB _ _ _;have th:(g1.aB 12).next=g1.next+12:=rfl
  have C_:=ct.ext cf (by omega);have Wl:=uR.ext cf (by omega);have NK:=NJ.ext cf
  have app:∀g:ae,bf (g1.aB 12) g->aV (U (ak J g 126 (.ptr box 0)) λv23=>U (ak J g 47 (.ptr h.next 0)) λv24=>ca (lg J 126 1 [(0,v24)]) g λv25 aE=>a7 (h2 J aE 126 126 v23 v25) λv26 aL=>U (bN J aL 126 (.ptr box 0) v26) λbm=>some (.ret,[],bm))
    λ_ vs cw=>kE vs=.undef/\∃eT,qg cw box lo eT (out++[r])/\aM (λi=>i=box\/cI v=some i) h cw/\(cI eT=cI v\/∃i,cI eT=some i/\h.next<=i):=λg ia=>by
   have aN:=ia.next;have tl:=C_.ext ia (by omega);have Wn:=Wl.ext ia (by omega);have aot:=NK.ext ia;rw[u7,Obj.get Wn (i:=0) rfl,ar,lz tl (by simp[aU.vs])];rw[ar,show(List.drop 0 r.vs).take 6=r.vs by rfl];refine cM (abZ r) λg4 dG hU bO=> ?_
   obtain⟨w,g5,fJ,hI,cD,n5,kP⟩:=anh (xcap:=1) (xex:=true) (aot.ext bO) dG rfl rfl (by simp;omega) (by omega);refine b4 (P:=λv g=>v=w/\g=g5) ⟨w,g5,fJ,rfl,rfl⟩ ?_;rintro aZ aeK ⟨Ka,J5⟩;rw[Ka,J5];have MX:=(Wn.ext bO (by omega)).az cD (by omega) (λe=>by have:=KJ _ e;omega);refine cX (OD MX (by simp) (Xp hI).1 (Xp hI).2) λg6 ⟨eO,cJ,n6⟩=> ?_
   have hu:=bO.next;refine aV.pure ⟨rfl,w,⟨eO,?_⟩,?_,.inr ⟨_,kP,by omega⟩⟩
   ·have:=hI.az cJ (λi a b e=>by omega);simpa using this
   ·exact(aM.ext (((bb.trans cf).trans ia).trans bO)).trans ((cD.mono λi _ e=>.inr e).trans (cJ.mono λi _ e=>.inl e))
  rcases List.eq_nil_or_concat out with rfl|⟨cg,a,rfl⟩
  ·have aG:e9 [] r=[]++[r]:=Dq (by omega) (by simp);simp only[List.length_nil,iT,ar];rw[show decide ((0:Int) <((0:Nat) :Int))=false by decide,aG];simp only[cP,Bool.false_eq_true,if_false,cF,ar,ba];exact app _ (aM.refl _ _)
  ·rw[List.concat_eq_append]at*
   obtain⟨b,i0,i1,i2,i3,i4,_⟩:=Va NK 0;have fm:decide ((0:Int) <((cg++[a]).length:Nat))=true:=by simp
   have aG:b0 .i64 ((((cg++[a]).length:Nat) :Int) -1)=((cg.length:Nat) :Int):=by
    have:(cg++[a]).length=cg.length+1:=by simp
    rw[this,wrap_i64 (by omega) (by omega)];omega
   simp only[iT,ar,fm,cP,if_true,u7,dd,Obj.get uR (i:=0) rfl,fT,aG,i1,i4];rw[lz C_ (by simp[aU.vs])];rw[ar,show(List.drop 0 r.vs).take 6=r.vs by rfl];refine b4 (amw _ (bg a (by simp)) an) ?_;rintro _ g2 ⟨rfl,bn⟩;have Ch:=bn.next;have Ap:=Wl.ext bn (by omega);have cE:=C_.ext bn (by omega);have aos:=NK.ext bn;obtain⟨dK,L2,aij,atJ,L3,Gx,g3,uF,x5,qH,atK⟩:=Va aos r.af;simp only[cF,if_true,ar,eh,ba];cases uw:a.one r with
   |true=>
    simp only[if_true,u7,Obj.get Ap (i:=0) rfl,ar,fT,aG,yD,Nat.zero_add,cW,Obj.get cE (i:=1) rfl,aij];refine cX (P:=λg=>g=g3) ⟨g3,uF,rfl⟩ ?_;rintro _ rfl;refine aV.pure ⟨rfl,v,?_,?_,.inl rfl⟩
    ·rw[Hy (by omega) uw];exact⟨Ap.az qH (by omega) (by omega),x5⟩
    ·exact(aM.ext ((bb.trans cf).trans bn)).trans (qH.mono λi _ e=>.inr (by rw[e];exact L2))
   |false=>
    have aT:e9 (cg++[a]) r=(cg++[a])++[r]:=Dq (by omega) λMO x ag=>by obtain⟨_,ag⟩:=List.append_inj' ag rfl;simp at ag;subst ag;exact uw
    rw[aT];simp only[Bool.false_eq_true,if_false];exact app _ bn
theorem aql{h:ae}{box lo:Nat}{v0:aa}{out:List aU}(o:qg h box lo v0 out) :∃v,call J PV (.func 244 [] [.ptr box 0]) [] h=some (v,h)/\kq h v out/\∀b,cI v=some b->lo<=b:=by
 obtain⟨ob,ay,Ds⟩:=o;have r0:=Obj.get ob (i:=0) rfl;rcases Ds with⟨rfl,he⟩ |⟨b,rfl,ab,al,o⟩
 ·have:out=[]:=by simpa using he
  subst this;refine⟨.bI,Vm (x:=.ret) (vs:=[.bI]) (first:=[]) (mid:=[]) (cap:=[_]) ?_ rfl,kq.nil h,λb aj=>by cases aj⟩;have e:iv J h 126 .bI none (some (.int .i64 0)) (some (.int .i64 0))=some .bI:=by kernel_rfl
  simp only[IJ,u7,r0,ar,YB,e]
 ·rw[List.length_map]at*
  refine⟨.slice b 0 out.length out.length 6 true,Vm (x:=.ret) (vs:=[.slice b 0 out.length out.length 6 true]) (first:=[]) (mid:=[]) (cap:=[_]) ?_ rfl,.inr ⟨b,_,_,rfl,Nat.le_refl _,al,o⟩,λdK aj=>by cases aj;exact ab⟩
  have e:iv J h 126 (.slice b 0 out.length out.length 6 false) none (some (.int .i64 (out.length:Nat))) (some (.int .i64 (out.length:Nat)))=some (.slice b 0 out.length out.length 6 true):=by
   have aG:J.ty 126=some p5:=by kernel_rfl
   have aT:J.ty 47=some p6:=by kernel_rfl
   show kl J h 126 (.slice b 0 out.length out.length 6 false) none (some (out.length:Int)) (some (out.length:Int))=_;simp only[kl,aG]
   show(match js out.length out.length false none (some (out.length:Int)) (some (out.length:Int)),J.ty 47 with
    |some (l,h,m,ex),some ie=>bif Nat.beq ie.size 6 then some (aa.slice b (0+l*6) (h-l) (m-l) 6 ex)else none
    |_,_=>none)=_
   rw[aT];simp only[js,nQ (Nat.le_refl _)];rfl
  simp only[IJ,u7,r0,ar,YA,e]
end
section
variable{PV:cn} [cN PV]
def Jj(x:Int) :Prop:= -274877906944<=x/\x<=274877906944
theorem abR:dY J 47 []=some (.agg aU.zero.vs):=by kernel_rfl
theorem Jl:dY J 182 []=some (.agg [.int .i64 0,.int .i64 0]):=by kernel_rfl
theorem abK(a b:Int) :dY J 182 [(0,.int .i64 a),(1,.int .i64 b)]=some (.agg [.int .i64 a,.int .i64 b]):=by kernel_rfl
theorem Ec(r:aU) :(List.drop 0 r.vs).take 6=r.vs:=rfl
theorem an_{L:List aU}{p:Int}{i:Nat}{x:aU}(aP:cv (L.take i) p=none)(ag:L[i]? =some x) :cv (L.take (i+1)) p=if x.has p then some x else none:=by obtain⟨b6,aN⟩:=List.getElem?_eq_some_iff.1 ag;rw[List.take_add_one,ag,AE,aP];simp only[Option.toList_some,Option.none_or,cv];cases h:x.has p<;>simp[h]
theorem an9{L:List aU}{p:Int}{i:Nat}{x:aU}(h:cv (L.take i) p=some x) :cv L p=some x:=by have:=List.take_append_drop i L;rw[<-this,AE,h];rfl
theorem ad'{h:ae}{v:aa}{L:List aU}(r:kq h v L)(ay:L.length<=8192)(p:Int) :
  bh (call J PV (.func 162 [] []) [v,.int .i64 p] h) λw g=>w=.tuple [.agg ((cv L p).getD aU.zero).vs,.bool (cv L p).isSome]/\bf h g:=by
 refine bh.mk (λe=>aja (first:=[]) (cap:=[]) e rfl) ?_;unfold P7;refine cM AY λg1 ct dR bb=> ?_
 rw[(r.ext bb).len];simp only[ar]
 refine hX (I:=λi vs g=>vs=[.bool false,.int .i64 (i:Nat)]/\cv (L.take i) p=none/\bf h g/\a8.Obj g h.next aU.zero.vs/\g1.next<=g.next) L.length (by omega)
  (P:=λx vs g=>(x=.exit 0/\(∃a b,vs=[a,b])/\cv L p=none/\bf h g/\a8.Obj g h.next aU.zero.vs)\/(x=.ret/\(∃b,vs=[.bool true,b])/\∃y,cv L p=some y/\bf h g/\a8.Obj g h.next y.vs))
  ⟨rfl,by simp[cv],bb,ct,Nat.le_refl _⟩ ?_ ?_
 ·rintro i vs g af ⟨rfl,aP,u,k4,aw⟩;simp only[bz,bp,dk,ar,ba,decide_eq_true_eq];by_cases he:i=L.length
  ·subst he;rw[if_neg (by omega)];rw[List.take_length]at aP;exact aV.pure (.inr ⟨by simp,.inl ⟨rfl,⟨_,_,rfl⟩,aP,u,k4⟩⟩)
  ·rw[if_pos (by omega)];have b6:i<L.length:=by omega
   have ag:L[i]? =some L[i]:=List.getElem?_eq_getElem b6;obtain⟨b,i1,i2,i3⟩:=(r.ext u).get ag;have aG:b0 .i64 ((i:Int) +1)=((i+1:Nat) :Int):=by rw[wrap_i64 (by omega) (by omega)];omega
   rw[i1,ar,i3,ar];refine cM (h:=g) AY λg2 cE eN bn=> ?_
   refine cX (yH (cs:=(L[i]).vs) cE rfl (by simp[aU.vs]) rfl) λg3 ⟨cO,bR,gp⟩=> ?_
   have cO:=ff cO rfl;have fM:bf h g3:=(u.trans bn).local bR (λj aO e=>by have:=u.next;omega);have Nh:=(k4.ext bn (by omega)).az bR (by omega) (by omega);simp only[A1,yD,Nat.zero_add,cW,Obj.get cO (i:=0) rfl,Obj.get cO (i:=1) rfl,ar,gA,dk];have aW:=an_ aP ag;by_cases bo:(L[i]).lo<=p
   ·simp only[decide_eq_true bo,cP,if_true];by_cases cp:p<(L[i]).af
    ·simp only[ar,decide_eq_true cp,c4,bz,bp,cF,if_true,ba];rw[lz cO (by simp[aU.vs])];rw[ar,Ec];refine cX (yH (cs:=(L[i]).vs) Nh rfl (by simp[aU.vs]) rfl) λg4 ⟨dG,bO,hU⟩=> ?_
     have dG:=ff dG rfl;have aD:(L[i]).has p=true:=by simp[aU.has,bo,cp]
     refine aV.pure (.inr ⟨by simp,.inr ⟨rfl,⟨_,rfl⟩,L[i],an9 (i:=i+1) (by rw[aW,aD];simp),fM.local bO (λj aO e=>by omega),dG⟩⟩)
    ·simp only[ar,decide_eq_false cp,c4,bz,bp,cF,if_true,Bool.false_eq_true,if_false,ba];have aD:(L[i]).has p=false:=by simp[aU.has];omega
     simp only[du,aG,ar];exact aV.pure (.inl ⟨rfl,by omega,rfl,by rw[aW,aD];simp,fM,Nh,by omega⟩)
   ·simp only[decide_eq_false bo,cP,Bool.false_eq_true,if_false,c4,bz,bp,cF,ar,ba];have aD:(L[i]).has p=false:=by simp[aU.has];omega
    simp only[du,aG,ar];exact aV.pure (.inl ⟨rfl,by omega,rfl,by rw[aW,aD];simp,fM,Nh,by omega⟩)
 ·rintro x vs g (⟨rfl,⟨a,b,rfl⟩,aP,u,k4⟩ |⟨rfl,⟨b,rfl⟩,y,aq,u,k4⟩)
  ·simp only[bz,bp,hs,if_true,abR,ar];refine cX (yH (cs:=aU.zero.vs) k4 rfl (by simp[aU.vs]) rfl) λg4 ⟨dG,bO,hU⟩=> ?_
   have dG:=ff dG rfl;rw[lz dG (by simp[aU.vs])];exact aV.pure ⟨by rw[aP];rfl,u.local bO (λj aO e=>by omega)⟩
  ·simp only[bz,bp,pj];rw[lz k4 (by simp[aU.vs])];exact aV.pure ⟨by rw[aq];rfl,u⟩
def keyOf(r:aU)(p:Int) :Option (Int×Int):=if r.kind=1/\r.lo<=p/\p<r.af then some (r.file,r.bM+p-r.lo)else none
theorem aiq(h:ae){r:aU}(an:sw r){p:Int}(aI:Jj p) :bh (call J PV (.func 226 [] []) [.agg r.vs,.int .i64 p] h) λv g=>v=(match keyOf r p with|some k=>.tuple [.agg [.int .i64 k.1,.int .i64 k.2],.bool true] |none=>.tuple [.agg [.int .i64 0,.int .i64 0],.bool false])/\bf h g:=by
 refine bh.mk (λe=>ajA (first:=[]) (cap:=[]) e rfl) ?_;unfold Qu;refine cM (r' (cs:=r.vs) rfl) λg1 ct dR bb=> ?_
 refine cM DF λg2 cE eN bn=> ?_
 have iq:=ct.ext bn (by omega);have kF:=bb.trans bn;unfold sw at an;unfold Jj at aI;have aG:b0 .i64 (r.bM+p)=r.bM+p:=wrap_i64 (by omega) (by omega);have aT:b0 .i64 (r.bM+p-r.lo)=r.bM+p-r.lo:=wrap_i64 (by omega) (by omega);have a0:=Obj.get iq (i:=0) rfl;have ao:=Obj.get iq (i:=1) rfl;have a3:=Obj.get iq (i:=3) rfl;have a4:=Obj.get iq (i:=4) rfl;have a5:=Obj.get iq (i:=5) rfl
 have fin:∀(a b:Int) (t:Bool),(match keyOf r p with|some k=>aa.tuple [.agg [.int .i64 k.1,.int .i64 k.2],.bool true] |none=>.tuple [.agg [.int .i64 0,.int .i64 0],.bool false])=.tuple [.agg [.int .i64 a,.int .i64 b],.bool t]->
   aV (U (bN J g2 182 (.ptr g1.next 0) (.agg [.int .i64 a,.int .i64 b])) λaL=>U (ak J aL 182 (.ptr g1.next 0)) λcC=>some (.ret,[cC,.bool t],aL)) λ_ vs cw=>kE vs=(match keyOf r p with|some k=>aa.tuple [.agg [.int .i64 k.1,.int .i64 k.2],.bool true] |none=>.tuple [.agg [.int .i64 0,.int .i64 0],.bool false])/\bf h cw:=λa b t aW=>by
  refine cX (A8 (cs:=[.int .i64 a,.int .i64 b]) cE rfl (by simp) rfl) λg3 ⟨cO,bR,gp⟩=> ?_
  have cO:=ff cO rfl;rw[o8 cO (by simp)];exact aV.pure ⟨by rw[aW];rfl,kF.local bR (λi af e=>by omega)⟩
 have no:¬(r.kind=1/\r.lo<=p/\p<r.af)->(match keyOf r p with|some k=>aa.tuple [.agg [.int .i64 k.1,.int .i64 k.2],.bool true] |none=>.tuple [.agg [.int .i64 0,.int .i64 0],.bool false])=.tuple [.agg [.int .i64 0,.int .i64 0],.bool false]:=λaH=>by unfold keyOf;rw[if_neg aH]
 simp only[A1,yD,sa,Oq,Ot,Nat.zero_add,cW,a3,ar,dP];by_cases bo:r.kind≠1
 ·simp only[decide_eq_true bo,cP,Bool.true_eq_false,if_false,c4,bz,bp,cF,if_true,ar,ba,Jl];exact fin 0 0 false (no (by omega))
 ·simp only[decide_eq_false bo,cP,if_true,a0,ar,dk,c4,bz,bp,cF,Bool.false_eq_true,if_false];by_cases cp:p<r.lo
  ·simp only[decide_eq_true cp,cP,Bool.true_eq_false,if_false,c4,bz,bp,cF,if_true,ar,ba,Jl];exact fin 0 0 false (no (by omega))
  ·simp only[decide_eq_false cp,cP,if_true,ao,ar,gA,c4,bz,bp,cF,Bool.false_eq_true,if_false,ba];by_cases ed:r.af<=p
   ·simp only[decide_eq_true ed,if_true,ar,Jl];exact fin 0 0 false (no (by omega))
   ·simp only[decide_eq_false ed,Bool.false_eq_true,if_false,a4,a5,a0,ar,du,fT,aG,aT,abK];exact fin _ _ true (by unfold keyOf;rw[if_pos (by omega)])
theorem aoj(h:ae) :∃g,call J PV (.func 161 [] []) [] h=some (.tuple [.func 242 [] [.ptr h.next 0],.func 244 [] [.ptr h.next 0]],g)/\qg g h.next (h.next+1) .bI []/\bf h g/\g.next=h.next+1:=by have o:=Obj.new h [.bI] false [];refine⟨h.new (.cells 1 false [] (bu.ofList [aa.bI])),ai' (x:=.ret) (vs:=[.func 242 [] [.ptr h.next 0],.func 244 [] [.ptr h.next 0]]) (first:=[]) (mid:=[]) (cap:=[]) ?_ rfl,⟨o,Row.nil _ _ _⟩,aM.new _ _ _,rfl⟩;have e:dz J 126=some (λid=>aa.ptr id 0,.cells 1 false [] (bu.ofList [aa.bI])):=nP (i:=p5) (by kernel_rfl) rfl;unfold P6;rw[e];rfl
theorem aom(o:List aU)(r:aU) :(e9 o r).length<=o.length+1:=by rcases AH o r with⟨_,e⟩ |⟨_,cg,x,rfl,_,e⟩ |⟨_,_,e⟩<;>rw[e]<;>simp
theorem Tn:∀(l o:List aU),(l.foldl e9 o).length<=o.length+l.length
 |[],o=>by simp
 |r::l,o=>by rw[List.foldl_cons];have:=Tn l (e9 o r);have:=aom o r;simp only[List.length_cons];omega
structure oC(h g:ae)(box:Nat)(v:aa)(l:List aU) :Prop where
 out:qg g box (box+1) v (l.foldl e9 [])
 ext:bf h g
 lt:box<g.next
def vx(box:Nat)(v:aa)(i:Nat) :Prop:=i≠box/\cI v≠some i
theorem oC.more{h g cw:ae}{box:Nat}{v:aa}{l:List aU}(j:oC h g box v l)(u:bf g cw) :oC h cw box v l:=⟨j.out.ext u j.lt,j.ext.trans u,Nat.lt_of_lt_of_le j.lt u.next⟩
theorem oC.fresh{h g:ae}{box:Nat}{v:aa}{l:List aU}(j:oC h g box v l){i:Nat}(af:g.next<=i) :vx box v i:=⟨by have:=j.lt;omega,λe=>by have:=j.out.dW e;omega⟩
theorem oC.old{h g:ae}{box:Nat}{v:aa}{l:List aU}(j:oC h g box v l){i:Nat}(af:i<box) :vx box v i:=⟨by omega,λe=>by have:=j.out.dW e;omega⟩
theorem oC.put{h g:ae}{box:Nat}{v:aa}{l:List aU}(j:oC h g box v l)(aj:h.next<=box)(hm:∀x,x∈l->x.lo<x.af->x.may=true){r:aU}(an:sw r)(ay:l.length<=2^28) :
  bh (call J PV (.func 242 [] [.ptr box 0]) [.agg r.vs] g) λw cw=>w=.undef/\∃eT,oC h cw box eT (l++[r])/\(∀i o,i<g.next->vx box v i->a8.Obj g i o->a8.Obj cw i o)/\(∀i,i<g.next->vx box v i->vx box eT i)/\g.next<=cw.next:=by
 have hlen:=Tn l [];refine(aon j.out (by omega) j.lt an (λx ag=>C5 (Mx (by simp) hm x ag)) (by simp at hlen;omega)).mono ?_;rintro w cw ⟨rfl,eT,o,u,ai⟩;refine⟨rfl,eT,⟨by rw[List.foldl_append];exact o,j.ext.local u (λi af e=> ?_),Nat.lt_of_lt_of_le j.lt u.next⟩,λi cg af bc bg=>bg.az u af ?_,λi af bc=>⟨bc.1,λe=> ?_⟩,u.next⟩
 ·rcases e with e|e
  ·omega
  ·have:=j.out.dW e;omega
 ·rintro(e|e)
  ·exact bc.1 e
  ·exact bc.2 e
 ·rcases ai with ai|⟨k,av,kX⟩
  ·rw[ai]at e;exact bc.2 e
  ·rw[av]at e;have:=Option.some.inj e;omega
end
section
variable{PV:cn} [cN PV]
def hr(r:aU)(l:List aU) :Bool:=l.any λx=>decide (r.af<=x.lo)
def jK(r:aU) :List aU->List aU
 |[]=>[]
 |x::l=>if r.af<=x.lo then r::x::l else x::jK r l
theorem UT(r:aU) :∀(l:List aU) (x:aU),jK r (l++[x])=jK r l++if hr r l=false/\r.af<=x.lo then[r,x]else[x]
 |[],x=>by by_cases h:r.af<=x.lo<;>simp[jK,hr,h]
 |y::l,x=>by
  rw[List.cons_append,jK,jK];by_cases h:r.af<=y.lo
  ·rw[if_pos h,if_pos h,if_neg (by simp[hr,h])];simp
  ·rw[if_neg h,if_neg h,UT r l x];have:hr r (y::l)=hr r l:=by simp[hr,h]
   rw[this];simp
theorem US(r:aU) :∀l:List aU,iK r l=if hr r l=true then jK r l else jK r l++[r]
 |[]=>by simp[iK,jK,hr]
 |x::l=>by
  rw[iK,jK];by_cases h:r.af<=x.lo
  ·rw[if_pos h,if_pos h,if_pos (by simp[hr,h])]
  ·rw[if_neg h,if_neg h,US r l];have:hr r (x::l)=hr r l:=by simp[hr,h]
   rw[this];by_cases ab:hr r l=true<;>simp[ab]
theorem LW{r y:aU} :∀{l:List aU},y∈jK r l->y=r\/y∈l
 |[],h=>by simp[jK]at h
 |x::l,h=>by
  unfold jK at h;split at h
  ·simp at h;rcases h with h|h|h<;>simp[h]
  ·simp at h;rcases h with h|h
   ·simp[h]
   ·rcases LW h with h|h<;>simp[h]
theorem LV(r:aU) :∀l:List aU,(jK r l).length<=l.length+1
 |[]=>by simp[jK]
 |x::l=>by
  unfold jK;split
  ·simp
  ·have:=LV r l;simp;omega
theorem Ob{L:List aU}{i:Nat}{x:aU}(ag:L[i]? =some x) :L.take (i+1)=L.take i++[x]:=by rw[List.take_add_one,ag];rfl
theorem anF{h:ae}{v:aa}{L:List aU}(rv:kq h v L)(dB:nd L)(ay:L.length<=8192)(r:aU) :
  bh (call J PV (.func 84 [] []) [v,.agg r.vs] h) λw g=>bf h g/\
   ((r.may=false/\w=.tuple [.bI,.int .i64 1])\/
    (r.may=true/\(∃x,x∈L/\meets r x=true)/\w=.tuple [.bI,.int .i64 13])\/
    (r.may=true/\(∀x,x∈L->meets r x=false)/\∃eT,w=.tuple [eT,.int .i64 0]/\kq g eT ((iK r L).foldl e9 [])/\∀b,cI eT=some b->h.next<=b)):=by
 refine bh.mk (λe=>aks (first:=[]) (cap:=[]) e rfl) ?_;unfold Rl;refine cM (r' (cs:=r.vs) rfl) λg1 ct dR bb=> ?_
 rw[lz ct (by simp[aU.vs])];rw[ar,Ec];refine b4 (aoc g1 r) ?_;rintro _ g2 ⟨rfl,bn⟩;have qz:=bn.next;simp only[fD,ar,ba];cases hm:r.may with
 |false=>
  simp only[Bool.not_false,if_true];exact aV.pure ⟨bb.trans bn,.inl ⟨by simp,rfl⟩⟩
 |true=>
  simp only[Bool.not_true,Bool.false_eq_true,if_false];obtain⟨g3,zv,amR,bR,gp⟩:=aoj g2;have jz:=ct.ext (bn.trans bR) (by omega);have fM:=(bb.trans bn).trans bR;rw[zv];simp only[c3,dA,List.getElem?_cons_zero,List.getElem?_cons_succ,ar,(rv.ext fM).len];have pD:=nE hm;have Ni:(8194:Nat)<=2^28:=by decide
  refine hX (I:=λi vs g=>vs=[.bI,.int .i64 0,.bool (hr r (L.take i)),.int .i64 (i:Nat)]/\(∀x,x∈L.take i->meets r x=false)/\(∃eg,oC g2 g g2.next eg (jK r (L.take i)))/\a8.Obj g h.next r.vs) L.length (by omega)
   (P:=λx vs g=>(x=.exit 0/\(∃b,vs=[.bI,.int .i64 0,.bool (hr r L),b])/\(∀x,x∈L->meets r x=false)/\(∃eg,oC g2 g g2.next eg (jK r L))/\a8.Obj g h.next r.vs)\/
     (x=.ret/\(∃a b,vs=[.bI,.int .i64 13,a,b])/\(∃x,x∈L/\meets r x=true)/\bf g2 g))
   ⟨by simp[hr],by simp,⟨_,by simpa [jK]using amR,bR,by omega⟩,jz⟩ ?_ ?_
  ·rintro i vs g af ⟨rfl,aP,⟨eg,j⟩,o⟩;have n4:=j.lt;simp only[bz,bp,dk,ar,ba,decide_eq_true_eq];by_cases he:i=L.length
   ·subst he;rw[if_neg (by omega)];rw[List.take_length]at aP j|-;exact aV.pure (.inr ⟨by simp,.inl ⟨rfl,⟨_,rfl⟩,aP,⟨eg,j⟩,o⟩⟩)
   ·rw[if_pos (by omega)];have b6:i<L.length:=by omega
    have ag:L[i]? =some L[i]:=List.getElem?_eq_getElem b6;have ei:L[i]∈L:=List.getElem_mem b6;obtain⟨b,i1,i2,i3⟩:=(rv.ext ((bb.trans bn).trans j.ext)).get ag;rw[i1,ar,i3,ar];generalize L[i]=x at*
    have aG:b0 .i64 ((i:Int) +1)=((i+1:Nat) :Int):=by rw[wrap_i64 (by omega) (by omega)];omega
    refine cM (h:=g) AY λg4 dG hU bO=> ?_
    refine cX (yH (cs:=x.vs) dG rfl (by simp[aU.vs]) rfl) λg5 ⟨eH,cD,n5⟩=> ?_
    have eH:=ff eH rfl;have D3:bf g g5:=bO.local cD (λk av e=>by omega);have uF:=j.more D3;have aly:=D3.next;have BA:vx g2.next eg g.next:=j.fresh (Nat.le_refl _);have hi:vx g2.next eg h.next:=j.old (by omega);have uU:=o.ext D3 (by omega);simp only[A1,yD,Nat.zero_add,cW,Obj.get eH (i:=0) rfl,Obj.get eH (i:=1) rfl,Obj.get uU (i:=0) rfl,Obj.get uU (i:=1) rfl,ar,dk];have wb:meets r x=decide (x.lo<r.af/\r.lo<x.af):=rfl;refine fO (P:=λy vs cw=>y=.normal/\g5=cw/\vs=[if x.lo<r.af then .bool (decide (r.lo<x.af))else .undef]) ?_ ?_
    ·by_cases bo:x.lo<r.af
     ·simp only[decide_eq_true bo,cP,if_true,if_pos bo];exact aV.pure ⟨rfl,rfl,rfl⟩
     ·simp only[decide_eq_false bo,cP,Bool.false_eq_true,if_false,if_neg bo];exact aV.pure ⟨rfl,rfl,rfl⟩
    ·rintro _ _ _ ⟨rfl,rfl,rfl⟩
     have agW:bZ (.bool (decide (x.lo<r.af))) (if x.lo<r.af then .bool (decide (r.lo<x.af))else .undef) (.bool false)=some (.bool (meets r x)):=by
      by_cases bo:x.lo<r.af
      ·rw[decide_eq_true bo,if_pos bo,cF,if_pos rfl,wb];simp[bo]
      ·rw[decide_eq_false bo,if_neg bo,cF,if_neg (by decide),wb];simp[bo]
     simp only[bz,bp,agW,ar,ba];cases T':meets r x with
     |true=>
      simp only[if_true];exact aV.pure (.inr ⟨by simp,.inr ⟨rfl,⟨_,_,rfl⟩,⟨x,ei,T'⟩,uF.ext⟩⟩)
     |false=>
      simp only[Bool.false_eq_true,if_false,fD,ar]
      have nx:∀y,y∈L.take (i+1)->meets r y=false:=λy aq=>by
       rw[Ob ag]at aq;rcases List.mem_append.1 aq with aq|aq
       ·exact aP y aq
       ·rw[List.mem_singleton]at aq;subst aq;exact T'
      have zE:hr r (L.take (i+1))=(hr r (L.take i) ||decide (r.af<=x.lo)):=by rw[Ob ag];simp[hr]
      have af7:jK r (L.take (i+1))=jK r (L.take i)++if hr r (L.take i)=false/\r.af<=x.lo then[r,x]else[x]:=by rw[Ob ag,UT]
      have lN:∀y,y∈jK r (L.take i)->y.lo<y.af->y.may=true:=λy aq _=>by
       rcases LW aq with rfl|aq
       ·exact hm
       ·exact dB.may y (List.mem_of_mem_take aq)
      have hlen:=LV r (L.take i);have wa:(L.take i).length<=8192:=Nat.le_trans (List.length_take_le _ _) (by omega);refine fO (P:=λy vs cw=>y=.normal/\g5=cw/\vs=[if hr r (L.take i)=false then .bool (decide (r.af<=x.lo))else .undef]) ?_ ?_
      ·cases hr r (L.take i)
       ·simp only[Bool.not_false,cP,if_true,Obj.get eH (i:=0) rfl,Obj.get uU (i:=1) rfl,ar,gA];exact aV.pure ⟨rfl,rfl,rfl⟩
       ·simp only[Bool.not_true,cP,Bool.false_eq_true,Bool.true_eq_false,if_false];exact aV.pure ⟨rfl,rfl,rfl⟩
      ·rintro _ _ _ ⟨rfl,rfl,rfl⟩
       have agX:bZ (.bool (!hr r (L.take i))) (if hr r (L.take i)=false then .bool (decide (r.af<=x.lo))else .undef) (.bool false)=some (.bool (decide (hr r (L.take i)=false/\r.af<=x.lo))):=by cases hr r (L.take i)<;>simp
       simp only[bz,bp,agX,ar];refine fO (P:=λy vs cw=>y=.normal/\vs=[.bool (hr r (L.take (i+1)))]/\(∃wV,oC g2 cw g2.next wV (jK r (L.take i)++if hr r (L.take i)=false/\r.af<=x.lo then[r]else[])/\vx g2.next wV h.next)/\a8.Obj cw h.next r.vs/\a8.Obj cw g.next x.vs/\g5.next<=cw.next) ?_ ?_
       ·simp only[ba,decide_eq_true_eq];by_cases c:hr r (L.take i)=false/\r.af<=x.lo
        ·rw[if_pos c,if_pos c];rw[lz uU (by simp[aU.vs])];rw[ar,Ec];refine b4 (uF.put (by omega) lN (C5 hm) (Nat.le_trans (by omega:_<=8194) Ni)) ?_;rintro _ g6 ⟨rfl,Ye,x5,cJ,hZ,alz⟩;exact aV.pure ⟨rfl,by rw[zE];simp[c.2],⟨Ye,x5,hZ _ (by omega) hi⟩,cJ _ _ (by omega) hi uU,cJ _ _ (by omega) BA eH,alz⟩
        ·rw[if_neg c,if_neg c];refine aV.pure ⟨rfl,?_,⟨eg,by simpa using uF,hi⟩,uU,eH,Nat.le_refl _⟩;rw[zE];congr 3;cases bc:hr r (L.take i)with
         |true=>rfl
         |false=>simp;apply Classical.byContradiction;intro aD;exact c ⟨bc,by omega⟩
       ·rintro _ _ g6 ⟨rfl,rfl,⟨Ye,x5,abn⟩,M_,amW,n6⟩;simp only[bz,bp,jd];rw[lz amW (by simp[aU.vs])];rw[ar,Ec]
        have ago:∀y,y∈(jK r (L.take i)++if hr r (L.take i)=false/\r.af<=x.lo then[r]else[])->y.lo<y.af->y.may=true:=λy aq aJ=>by
         rcases List.mem_append.1 aq with aq|aq
         ·exact lN y aq aJ
         ·split at aq
          ·rw[List.mem_singleton]at aq;subst aq;exact hm
          ·cases aq
        refine b4 (x5.put (by omega) ago (C5 (dB.may x ei)) (Nat.le_trans (by
         rw[List.length_append];have:(if hr r (L.take i)=false/\r.af<=x.lo then[r]else[]).length<=1:=by split<;>simp
         omega:_<=8194) Ni)) ?_
        rintro _ g7 ⟨rfl,HT,qH,fk,ri,alA⟩;simp only[du,aG,ar];refine aV.pure (.inl ⟨rfl,by omega,rfl,nx,⟨HT,?_⟩,fk _ _ (by omega) abn M_⟩);rw[af7];by_cases c:hr r (L.take i)=false/\r.af<=x.lo
        ·rw[if_pos c]at qH|-;simpa using qH
        ·rw[if_neg c]at qH|-;simpa using qH
  ·have kF:=bb.trans bn;rintro x vs g (⟨rfl,⟨b,rfl⟩,aP,⟨eg,j⟩,o⟩ |⟨rfl,⟨a,b,rfl⟩,ag,u⟩)
   ·have n4:=j.lt;simp only[bz,bp,hs,if_true,fD,ar]
    have lN:∀y,y∈jK r L->y.lo<y.af->y.may=true:=λy aq _=>by
     rcases LW aq with rfl|aq
     ·exact hm
     ·exact dB.may y aq
    have hlen:=LV r L;refine fO (P:=λy vs cw=>y=.normal/\vs=[]/\∃eg,oC g2 cw g2.next eg (iK r L)) ?_ ?_
    ·rw[US];cases bc:hr r L with
     |true=>
      simp only[Bool.not_true,ba,Bool.false_eq_true,if_false,if_true];exact aV.pure ⟨rfl,rfl,eg,j⟩
     |false=>
      simp only[Bool.not_false,ba,if_true,Bool.false_eq_true,if_false];rw[lz o (by simp[aU.vs])];rw[ar,Ec];refine b4 (j.put (by omega) lN (C5 hm) (Nat.le_trans (by omega:_<=8194) Ni)) ?_;rintro _ g7 ⟨rfl,HT,qH,fk,ri,alA⟩;exact aV.pure ⟨rfl,rfl,HT,qH⟩
    ·rintro _ _ g7 ⟨rfl,rfl,HT,qH⟩;simp only[bp,jd];obtain⟨eT,de,AI,alD⟩:=aql qH.out;rw[de];simp only[c3];exact aV.pure ⟨kF.trans qH.ext,.inr (.inr ⟨by simp,aP,eT,rfl,AI,λb aj=>by have:=alD b aj;have:=kF.next;omega⟩)⟩
   ·simp only[bz,bp,pj];exact aV.pure ⟨kF.trans u,.inr (.inl ⟨by simp,ag,rfl⟩)⟩
end
section
variable{PV:cn} [cN PV]
theorem ak5(a b:Int) :pP (.int .i64 a) [.int .i64 b]=some (.int .i64 (max a b)):=by
 show some (aa.int .i64 (bif mm a b then b else a))=_;by_cases c:a<b
 ·rw[show mm a b=true by rw[oi];simpa using c];show some (aa.int .i64 b)=_;rw[show max a b=b by omega]
 ·rw[show mm a b=false by rw[oi];simpa using c];show some (aa.int .i64 a)=_;rw[show max a b=a by omega]
theorem ak_(a b:Int) :rX (.int .i64 a) [.int .i64 b]=some (.int .i64 (min a b)):=by
 show some (aa.int .i64 (bif mm b a then b else a))=_;by_cases c:b<a
 ·rw[show mm b a=true by rw[oi];simpa using c];show some (aa.int .i64 b)=_;rw[show min a b=b by omega]
 ·rw[show mm b a=false by rw[oi];simpa using c];show some (aa.int .i64 a)=_;rw[show min a b=a by omega]
end
section
set_option maxRecDepth 100000
variable{PV:cn} [cN PV]
def Qr(a0 ao:aa)(C:bW)(h:ae) :Option a1:=U (pP ao [(.int .i64 0)]) λv1=>U (dw J h 9 a0) λv2=>U (ax J h .geq 3 v2 v1) λv3=>bq v3 (U (iv J h 9 a0 none (some v1) none) λv4=>some (.ret,[v4],h)) (U (dw J h 9 a0) λv5=>U (ax J h .sub 3 v1 v5) λv6=>a7 (C (.func 296 [] []) [(.str 1 0),v6] h) λbl h1=>U (ax J h1 .add 9 a0 bl) λbA=>some (.ret,[bA],h1))
theorem ajx{a0 ao:aa} :LT PV 213 [a0,ao] (Qr a0 ao):=
 cc (f:=Tryz.f213) (.seq (.ah []) (.seq (.ah []) (.seq (.seq (.ah []) (.cond (.seq (.ah []) .leaf) .leaf)) (.seq (.ah []) .leaf)))) (by kernel_rfl) (b' rfl (by kernel_rfl)) λ_ _=>by kernel_rfl
def Qt(a0:aa)(C:bW)(h:ae) :Option a1:=U (ax J h .add 3 a0 (.int .i64 64)) λv1=>U (ax J h .sub 3 v1 (.int .i64 1)) λv2=>U (ax J h .quo 3 v2 (.int .i64 64)) λv3=>some (.ret,[v3],h)
theorem ajz{a0:aa} :LT PV 217 [a0] (Qt a0):=
 cc (f:=Tryz.f217) (.seq (.ah []) (.seq (.ah []) .leaf)) (by kernel_rfl) (b' rfl (by kernel_rfl)) λ_ _=>by kernel_rfl
def Ra(a0:aa)(C:bW)(h:ae) :Option a1:=U (ax J h .eql 83 a0 .nilPtr) λv1=>bq v1 (some (.ret,[(.int .i64 0)],h)) (U (bB a0) λv2=>U (aQ J 234 v2 2) λv3=>U (ak J h 197 v3) λv4=>U (dw J h 197 v4) λv5=>some (.ret,[v5],h))
theorem aki{a0:aa} :LT PV 429 [a0] (Ra a0):=
 cc (f:=Tryz.f429) (.seq (.ah []) (.seq (.seq (.ah []) (.cond (.seq (.ah []) .leaf) .leaf)) (.seq (.ah []) .leaf))) (by kernel_rfl) (b' rfl (by kernel_rfl)) λ_ _=>by kernel_rfl
def IQ(a0 ao:aa)(C:bW)(h:ae) :Option a1:=ca (dz J 204) h λv1 h1=>U (ax J h1 .lss 3 ao (.int .i64 0)) λv2=>bG (b7 v2 false (a7 (C (.func 429 [] []) [a0] h1) λv3 ab=>U (ax J ab .geq 3 ao v3) λv4=>some (.normal,[v4],ab)) (some (.normal,[.undef],h1))) λ_ aK al=>a_ aK λv5 gf=>br gf (U (bZ v2 (.bool true) v5) λv6=>bq v6 (U (dY J 204 []) λbl=>U (bN J al 204 v1 bl) λaE=>U (ak J aE 204 v1) λbA=>some (.ret,[bA,(.int .i64 14)],aE)) (U (bB a0) λv9=>U (aQ J 234 v9 2) λv10=>U (ak J al 197 v10) λv11=>U (cZ J 197 v11 ao) λv12=>U (ak J al 204 v12) λcd=>ca (dz J 204) al λb9 aL=>U (bN J aL 204 b9 cd) λbm=>U (aQ J 204 b9 2) λch=>U (ak J bm 202 ch) λcj=>a7 (h2 J bm 202 202 .bI cj) λcC cr=>U (aQ J 204 b9 2) λcx=>U (bN J cr 202 cx cC) λcz=>U (ak J cz 204 b9) λcL=>U (bN J cz 204 v1 cL) λc6=>U (ak J c6 204 v1) λv20=>some (.ret,[v20,(.int .i64 0)],c6)))
theorem Vs{a0 ao:aa} :LT PV 375 [a0,ao] (IQ a0 ao):=
 cc (f:=Tryz.f375) (.seq (.ah []) (.seq (.seq (.ah [[13]]) (.cond (.seq (.ah []) .leaf) .leaf)) (.seq (.ah []) (.seq (.ah []) (.seq (.ah []) .leaf))))) (by kernel_rfl) (b' rfl (by kernel_rfl)) λ_ _=>by kernel_rfl
def IN(a0 ao:aa)(C:bW)(h:ae) :Option a1:=a7 (C (.func 375 [] []) [a0,ao] h) λv1 h1=>U (cm v1 0) λv2=>U (cm v1 1) λv3=>ca (dz J 204) h1 λv4 ab=>U (bN J ab 204 v4 v2) λal=>U (aQ J 204 v4 1) λv5=>U (ak J al 3 v5) λv6=>a7 (C (.func 217 [] []) [v6] al) λbl aE=>some (.ret,[bl],aE)
theorem Vq{a0 ao:aa} :LT PV 307 [a0,ao] (IN a0 ao):=
 cc (f:=Tryz.f307) (.seq (.ah []) (.seq (.ah []) (.seq (.ah []) .leaf))) (by kernel_rfl) (b' rfl (by kernel_rfl)) λ_ _=>by kernel_rfl
def II(a0 ao a2:aa)(C:bW)(h:ae) :Option a1:=U (ax J h .lss 3 a2 (.int .i64 0)) λv1=>bG (b7 v1 false (a7 (C (.func 307 [] []) [a0,ao] h) λv2 h1=>U (ax J h1 .geq 3 a2 v2) λv3=>some (.normal,[v3],h1)) (some (.normal,[.undef],h))) λ_ aK ab=>a_ aK λv4 fq=>br fq (U (bZ v1 (.bool true) v4) λv5=>bq v5 (some (.ret,[(.str 0 0),(.int .i64 14)],ab)) (U (bB a0) λv6=>U (aQ J 234 v6 2) λbl=>U (ak J ab 197 bl) λbA=>U (cZ J 197 bA ao) λv9=>U (aQ J 204 v9 2) λv10=>U (ak J ab 202 v10) λv11=>U (dw J ab 202 v11) λv12=>bG (eM 14 (λaK al=>a_ aK λcd p_=>a_ p_ λb9 kp=>a_ kp λch oA=>br oA (U (ax J al .lss 3 ch v12) λcj=>bq cj (U (cZ J 202 v11 ch) λcC=>U (ak J al 206 cC) λcx=>ca (dz J 206) al λcL aL=>U (bN J aL 206 cL cx) λbm=>U (aQ J 206 cL 1) λv20=>U (ak J bm 3 v20) λv21=>U (ax J bm .lss 3 cd v21) λv22=>bq v22 (U (bB a0) λv23=>U (aQ J 234 v23 0) λv24=>U (ak J (ae.aB bm 13) 32 v24) λv25=>U (aQ J 206 cL 0) λv26=>U (ak J (ae.aB bm 13) 3 v26) λv27=>U (ax J (ae.aB bm 13) .add 3 v27 cd) λv28=>a7 (C (.func 131 [] []) [v25,v28] (ae.aB bm 13)) λv29 cr=>U (cm v29 0) λv30=>U (cm v29 1) λv31=>bx [] (λg=>ak J g 3 v26) v27 (bx [] (λg=>ak J g 32 v24) v25 (some ((.exit 0),[cd,v30,ch],cr)))) (U (aQ J 206 cL 1) λv32=>U (ak J bm 3 v32) λv33=>U (ax J bm .sub 3 cd v33) λeP=>U (ax J bm .add 3 ch (.int .i64 1)) λv35=>some (.normal,[eP,b9,v35],bm))) (some ((.exit 0),[cd,b9,ch],al)))) [a2,(.str 0 0),(.int .i64 0)] ab) λmD aK aE=>a_ aK λv36 vo=>a_ vo λv37 q_=>a_ q_ λfE Ei=>br Ei (gD 0 mD (U (bB a0) λfy=>U (aQ J 234 fy 2) λv40=>U (ak J aE 197 v40) λv41=>U (cZ J 197 v41 ao) λgv=>U (aQ J 204 gv 1) λfF=>U (ak J aE 3 fF) λv44=>U (ax J aE .mul 3 a2 (.int .i64 64)) λgI=>U (ax J aE .sub 3 v44 gI) λv46=>U (rX v46 [(.int .i64 64)]) λgR=>U (iv J aE 9 v37 none (some gR) none) λhb=>a7 (C (.func 213 [] []) [hb,(.int .i64 64)] aE) λv49 cz=>some (.ret,[v49,(.int .i64 0)],cz)) (some (.ret,[(.str 0 0),(.int .i64 0)],aE)) λi=>none)))
theorem Vl{a0 ao a2:aa} :LT PV 229 [a0,ao,a2] (II a0 ao a2):=
 cc (f:=Tryz.f229) (.seq (.ah []) (.wT (.seq (.seq (.ah [[19]]) (.cond (.seq (.ah []) .leaf) .leaf)) (.seq (.ah []) (.seq (.ah []) (.seq .leaf (.seq (.seq (.ah []) (.loop [8,9,31] [] (.seq (.ah []) (.seq (.cond .leaf .leaf) (.seq (.dW (.seq (.ah []) (.seq (.seq (.ah []) (.cond (.seq .drawn .leaf) .leaf)) (.ah [])))) (.ah [])))))) (.seq (.ah []) .leaf)))))))) (by kernel_rfl) (b' rfl (by kernel_rfl)) λ_ _=>by kernel_rfl
def Rw(a0 ao:aa)(C:bW)(h:ae) :Option a1:=ca (c9 J 182 ao) h λv1 h1=>U (ax J h1 .eql 153 a0 .nilPtr) λv2=>bq v2 (some (.ret,[(.int .i64 0),(.bool false)],h1)) (U (bB a0) λv3=>U (aQ J 295 v3 2) λv4=>U (ak J (ae.aB h1 11) 292 v4) λv5=>U (ak J (ae.aB h1 11) 182 v1) λv6=>U (pN J (ae.aB h1 11) 292 v5 v6 true) λbl=>U (cm bl 0) λbA=>U (cm bl 1) λv9=>bx [] (λg=>pN J g 292 v5 v6 true) bl (bx [] (λg=>ak J g 182 v1) v6 (bx [] (λg=>ak J g 292 v4) v5 (U (gQ .not v9) λv10=>bq v10 (some (.ret,[(.int .i64 0),(.bool false)],(ae.aB h1 11))) (U (bB bA) λv11=>U (aQ J 298 v11 1) λv12=>U (ak J (ae.aB h1 11) 3 v12) λcd=>some (.ret,[cd,(.bool true)],(ae.aB h1 11)))))))
theorem akD{a0 ao:aa} :LT PV 97 [a0,ao] (Rw a0 ao):=
 cc (f:=Tryz.f97) (.seq (.ah []) (.seq (.seq (.ah []) (.cond (.seq (.ah []) .leaf) .leaf)) (.seq .drawn (.seq (.seq (.ah []) (.cond (.seq (.ah []) .leaf) .leaf)) (.seq (.ah []) .leaf))))) (by kernel_rfl) (b' rfl (by kernel_rfl)) λ_ _=>by kernel_rfl
def IK(a0 ao:aa)(C:bW)(h:ae) :Option a1:=ca (c9 J 182 ao) h λv1 h1=>U (ax J h1 .eql 153 a0 .nilPtr) λv2=>bq v2 (some (.ret,[(.int .i64 0),(.int .i64 1)],h1)) (U (bB a0) λv3=>U (aQ J 295 v3 2) λv4=>U (ak J (ae.aB h1 11) 292 v4) λv5=>U (ak J (ae.aB h1 11) 182 v1) λv6=>U (pN J (ae.aB h1 11) 292 v5 v6 true) λbl=>U (cm bl 0) λbA=>U (cm bl 1) λv9=>bx [] (λg=>pN J g 292 v5 v6 true) bl (bx [] (λg=>ak J g 182 v1) v6 (bx [] (λg=>ak J g 292 v4) v5 (bq v9 (U (bB bA) λv10=>U (aQ J 298 v10 2) λv11=>U (bN J (ae.aB h1 11) 4 v11 (.bool true)) λab=>U (bB a0) λv12=>U (aQ J 295 v12 5) λcd=>U (ak J ab 3 cd) λb9=>U (ax J ab .add 3 b9 (.int .i64 1)) λch=>U (bB a0) λcj=>U (aQ J 295 cj 5) λcC=>U (bN J ab 3 cC ch) λal=>U (bB bA) λcx=>U (aQ J 298 cx 1) λcL=>U (ak J (ae.aB al 15) 3 cL) λv20=>U (bB a0) λv21=>U (aQ J 295 v21 0) λv22=>U (ak J (ae.aB al 15) 152 v22) λv23=>U (bB bA) λv24=>U (aQ J 298 v24 1) λv25=>U (ak J (ae.aB al 15) 3 v25) λv26=>a7 (C (.func 110 [] []) [v23,v26] (ae.aB al 15)) λv27 aE=>bx [] (λg=>ak J g 3 v25) v26 (bx [] (λg=>ak J g 152 v22) v23 (bx [aE] (λg=>ak J g 3 cL) v20 (some (.ret,[v20,v27],aE))))) (U (bB a0) λv28=>U (aQ J 295 v28 1) λv29=>U (ak J (ae.aB (ae.aB h1 11) 14) 83 v29) λv30=>U (aQ J 182 v1 0) λv31=>U (ak J (ae.aB (ae.aB h1 11) 14) 3 v31) λv32=>U (aQ J 182 v1 1) λv33=>U (ak J (ae.aB (ae.aB h1 11) 14) 3 v33) λeP=>a7 (C (.func 229 [] []) [v30,v32,eP] (ae.aB (ae.aB h1 11) 14)) λv35 aL=>U (cm v35 0) λv36=>U (cm v35 1) λv37=>bx [] (λg=>ak J g 3 v33) eP (bx [] (λg=>ak J g 3 v31) v32 (bx [] (λg=>ak J g 83 v29) v30 (U (ax J aL .neq 29 v37 (.int .i64 0)) λfE=>bq fE (some (.ret,[(.int .i64 0),(.int .i64 14)],aL)) (U (bB a0) λfy=>U (aQ J 295 fy 0) λv40=>U (ak J aL 152 v40) λv41=>a7 (C (.func 159 [] []) [v41] aL) λgv bm=>U (cm gv 0) λfF=>U (cm gv 1) λv44=>U (ax J bm .neq 29 v44 (.int .i64 0)) λgI=>bq gI (some (.ret,[(.int .i64 0),v44],bm)) (U (bB a0) λv46=>U (aQ J 295 v46 0) λgR=>U (ak J bm 152 gR) λhb=>a7 (C (.func 319 [] []) [hb,fF,v36] bm) λv49 cr=>U (ak J cr 182 v1) λix=>U (dY J 298 [(0,ix),(1,fF)]) λv51=>ca (c9 J 298 v51) cr λiy cz=>U (bB a0) λv53=>U (aQ J 295 v53 2) λic=>U (ak J (ae.aB cz 7) 292 ic) λig=>U (ak J (ae.aB cz 7) 182 v1) λjD=>U (td J (ae.aB cz 7) 292 ig jD iy) λc6=>bx [] (λg=>ak J g 182 v1) jD (bx [] (λg=>ak J g 292 ic) ig (U (bB a0) λv57=>U (aQ J 295 v57 3) λj8=>U (ak J c6 293 j8) λv59=>ca (lg J 293 1 [(0,iy)]) c6 λjQ dF=>a7 (h2 J dF 293 293 v59 jQ) λjm dZ=>U (bB a0) λjR=>U (aQ J 295 jR 3) λv63=>U (bN J dZ 293 v63 jm) λdv=>U (bB a0) λv64=>U (aQ J 295 v64 6) λko=>U (ak J dv 3 ko) λl4=>U (ax J dv .add 3 l4 (.int .i64 1)) λmB=>U (bB a0) λl5=>U (aQ J 295 l5 6) λm7=>U (bN J dv 3 m7 mB) λe5=>U (bB a0) λv70=>U (aQ J 295 v70 0) λnM=>U (ak J e5 152 nM) λv72=>a7 (C (.func 110 [] []) [v72,fF] e5) λm8 eX=>some (.ret,[fF,m8],eX)))))))))))))
theorem Vn{a0 ao:aa} :LT PV 246 [a0,ao] (IK a0 ao):=
 cc (f:=Tryz.f246) (.seq (.ah []) (.seq (.seq (.ah []) (.cond (.seq (.ah []) .leaf) .leaf)) (.seq .drawn (.seq (.seq (.ah []) (.cond (.seq (.ah []) (.seq (.ah []) (.seq .drawn .leaf))) .leaf)) (.seq .drawn (.seq (.seq (.ah []) (.cond (.seq (.ah []) .leaf) .leaf)) (.seq (.ah []) (.seq (.seq (.ah []) (.cond (.seq (.ah []) .leaf) .leaf)) (.seq (.ah []) (.seq (.ah []) (.seq .drawn (.seq (.ah []) (.seq (.ah []) (.seq (.ah []) .leaf)))))))))))))) (by kernel_rfl) (b' rfl (by kernel_rfl)) λ_ _=>by kernel_rfl
def Qx(a0:aa)(C:bW)(h:ae) :Option a1:=ca (c9 J 153 a0) h λv1 h1=>ca (dz J 182) h1 λv2 ab=>U (ak J ab 153 v1) λv3=>U (ax J ab .eql 153 v3 .nilPtr) λv4=>bq v4 (U (dY J 182 []) λv5=>U (bN J ab 182 v2 v5) λal=>U (ak J al 182 v2) λv6=>some (.ret,[v6,(.bool false)],al)) (U (ak J ab 153 v1) λbl=>U (bB bl) λbA=>U (aQ J 295 bA 3) λv9=>U (ak J ab 293 v9) λv10=>U (dw J ab 293 v10) λv11=>U (ax J ab .mul 3 (.int .i64 2) v11) λv12=>bG (eM 14 (λaK aE=>a_ aK λcd p_=>a_ p_ λb9 kp=>br kp (U (ax J aE .lss 3 b9 v12) λch=>bq ch (U (ak J aE 153 v1) λcj=>U (bB cj) λcC=>U (aQ J 295 cC 4) λcx=>U (ak J aE 3 cx) λcL=>U (ax J aE .add 3 cL b9) λv20=>U (ax J aE .rem 3 v20 v11) λv21=>U (ak J aE 153 v1) λv22=>U (bB v22) λv23=>U (aQ J 295 v23 3) λv24=>U (ak J aE 293 v24) λv25=>U (cZ J 293 v25 v21) λv26=>U (ak J aE 296 v26) λv27=>a7 (C (.func 316 [] [v1]) [v27] aE) λv28 bm=>bq v28 (some ((.exit 0),[v21,b9],bm)) (U (ax J bm .add 3 b9 (.int .i64 1)) λv29=>some (.normal,[cd,v29],bm))) (some ((.exit 0),[cd,b9],aE)))) [(.int .i64 (-1)),(.int .i64 0)] ab) λkH aK aL=>a_ aK λv30 vm=>a_ vm λv31 vn=>br vn (gD 0 kH (U (ax J aL .lss 3 v30 (.int .i64 0)) λv32=>bq v32 (U (dY J 182 []) λv33=>U (bN J aL 182 v2 v33) λcr=>U (ak J cr 182 v2) λeP=>some (.ret,[eP,(.bool false)],cr)) (U (ak J aL 153 v1) λv35=>U (bB v35) λv36=>U (aQ J 295 v36 3) λv37=>U (ak J aL 293 v37) λfE=>U (cZ J 293 fE v30) λfy=>U (ak J aL 296 fy) λv40=>U (ak J (ae.aB aL 9) 153 v1) λv41=>U (bB v41) λgv=>U (aQ J 295 gv 0) λfF=>U (ak J (ae.aB aL 9) 152 fF) λv44=>U (bB v40) λgI=>U (aQ J 298 gI 1) λv46=>U (ak J (ae.aB aL 9) 3 v46) λgR=>a7 (C (.func 175 [] []) [v44,gR] (ae.aB aL 9)) λhb cz=>bx [] (λg=>ak J g 3 v46) gR (bx [] (λg=>ak J g 152 fF) v44 (bx [] (λg=>ak J g 153 v1) v41 (U (ak J (ae.aB cz 9) 153 v1) λv49=>U (bB v49) λix=>U (aQ J 295 ix 2) λv51=>U (ak J (ae.aB cz 9) 292 v51) λiy=>U (bB v40) λv53=>U (aQ J 298 v53 0) λic=>U (ak J (ae.aB cz 9) 182 ic) λig=>U (vN J (ae.aB cz 9) 292 iy ig) λc6=>bx [] (λg=>ak J g 182 ic) ig (bx [] (λg=>ak J g 292 v51) iy (bx [] (λg=>ak J g 153 v1) v49 (U (ak J (ae.aB c6 12) 153 v1) λjD=>U (ak J (ae.aB c6 12) 153 v1) λv57=>U (bB v57) λj8=>U (aQ J 295 j8 3) λv59=>U (ak J (ae.aB c6 12) 293 v59) λjQ=>U (ax J (ae.aB c6 12) .add 3 v30 (.int .i64 1)) λjm=>a7 (C (.func 317 [] []) [jQ,v30,jm] (ae.aB c6 12)) λjR dF=>U (bB jD) λv63=>U (aQ J 295 v63 3) λv64=>U (bN J dF 293 v64 jR) λdZ=>bx [] (λg=>ak J g 293 v59) jQ (bx [] (λg=>ak J g 153 v1) v57 (bx [dF] (λg=>ak J g 153 v1) jD (U (ak J dZ 153 v1) λko=>U (bB ko) λl4=>U (aQ J 295 l4 4) λmB=>U (bN J dZ 3 mB v30) λdv=>U (ak J dv 153 v1) λl5=>U (bB l5) λm7=>U (aQ J 295 m7 3) λv70=>U (ak J dv 293 v70) λnM=>U (dw J dv 293 nM) λv72=>U (ax J dv .eql 3 v30 v72) λm8=>bG (bq m8 (U (ak J dv 153 v1) λp8=>U (bB p8) λv75=>U (aQ J 295 v75 4) λv76=>U (bN J dv 3 v76 (.int .i64 0)) λe5=>some (.normal,[],e5)) (some (.normal,[],dv))) λvq aK eX=>br aK (jF vq (U (bB v40) λq8=>U (aQ J 298 q8 0) λtF=>U (ak J eX 182 tF) λtG=>U (bN J eX 182 v2 tG) λhd=>U (ak J hd 182 v2) λvi=>some (.ret,[vi,(.bool true)],hd)) (U (ak J eX 182 v2) λBf=>some (.ret,[Bf,(.bool false)],eX)) λi=>none)))))))))))) (U (ak J aL 182 v2) λBg=>some (.ret,[Bg,(.bool false)],aL)) λi=>none))
theorem ajD{a0:aa} :LT PV 236 [a0] (Qx a0):=
 cc (f:=Tryz.f236) (.seq (.ah []) (.wT (.seq (.seq (.ah []) (.cond (.seq (.ah []) .leaf) .leaf)) (.seq (.ah []) (.seq (.ah []) (.seq (.ah []) (.seq .leaf (.seq (.seq (.ah []) (.loop [6,21] [] (.seq (.ah []) (.seq (.cond .leaf .leaf) (.seq (.dW (.seq (.ah []) (.seq (.ah []) (.seq (.ah []) (.cond (.seq (.ah []) .leaf) .leaf))))) (.ah [])))))) (.seq (.seq (.ah []) (.cond (.seq (.ah []) .leaf) .leaf)) (.seq (.ah []) (.seq .drawn (.seq .drawn (.seq .drawn (.seq (.ah []) (.seq (.seq (.ah []) (.cut [] [] (.cond (.ah []) .leaf))) (.seq (.ah []) .leaf)))))))))))))))) (by kernel_rfl) (b' rfl (by kernel_rfl)) λ_ _=>by kernel_rfl
def QY(a0 ao:aa)(C:bW)(h:ae) :Option a1:=U (ak J (ae.aB h 10) 153 ao) λv1=>U (bB v1) λv2=>U (aQ J 295 v2 0) λv3=>U (ak J (ae.aB h 10) 152 v3) λv4=>U (bB a0) λv5=>U (aQ J 298 v5 1) λv6=>U (ak J (ae.aB h 10) 3 v6) λbl=>a7 (C (.func 98 [] []) [v4,bl] (ae.aB h 10)) λbA h1=>U (ax J h1 .gtr 3 bA (.int .i64 1)) λv9=>bx [] (λg=>ak J g 3 v6) bl (bx [] (λg=>ak J g 152 v3) v4 (bx [] (λg=>ak J g 153 ao) v1 (bq v9 (some (.ret,[(.bool false)],h1)) (U (bB a0) λv10=>U (aQ J 298 v10 2) λv11=>U (ak J h1 4 v11) λv12=>U (bB a0) λcd=>U (aQ J 298 cd 2) λb9=>U (bN J h1 4 b9 (.bool false)) λab=>U (gQ .not v12) λch=>some (.ret,[ch],ab)))))
theorem aj6{a0 ao:aa} :LT PV 316 [a0,ao] (QY a0 ao):=
 cc (f:=Tryz.f316) (.seq (.ah []) (.seq (.seq .drawn (.cond (.seq (.ah []) .leaf) .leaf)) (.seq (.ah []) (.seq (.ah []) (.seq (.ah []) .leaf))))) (by kernel_rfl) (b' rfl (by kernel_rfl)) λ_ _=>by kernel_rfl
def QZ(a0 ao a2:aa)(C:bW)(h:ae) :Option a1:=U (dw J h 293 a0) λv1=>U (iv J h 293 a0 (some ao) (some a2) (some v1)) λv2=>U (ax J h .eql 3 ao a2) λv3=>bq v3 (some (.ret,[a0],h)) (U (dw J h 293 a0) λv4=>U (iv J (ae.aB h 8) 293 a0 none (some ao) none) λv5=>U (iv J (ae.aB h 8) 293 a0 (some a2) none none) λv6=>a7 (h2 J (ae.aB h 8) 293 293 v5 v6) λbl h1=>U (dw J h1 293 bl) λbA=>U (iv J h1 293 bl (some bA) (some v4) none) λv9=>U (pf J h1 293 v9) λab=>some (.ret,[bl],ab))
theorem aj7{a0 ao a2:aa} :LT PV 317 [a0,ao,a2] (QZ a0 ao a2):=
 cc (f:=Tryz.f317) (.seq (.ah []) (.seq (.ah []) (.seq (.seq (.ah []) (.cond (.seq (.ah []) .leaf) .leaf)) (.seq (.ah []) (.seq .drawn (.seq (.ah []) (.seq (.ah []) .leaf))))))) (by kernel_rfl) (b' rfl (by kernel_rfl)) λ_ _=>by kernel_rfl
def Rv(a0:aa)(C:bW)(h:ae) :Option a1:=U (ax J h .eql 153 a0 .nilPtr) λv1=>bq v1 (some (.ret,[.bI],h)) (U (bB a0) λv2=>U (aQ J 295 v2 3) λv3=>U (ak J h 293 v3) λv4=>U (dw J h 293 v4) λv5=>bG (eM 14 (λaK h1=>a_ aK λv6 gS=>a_ gS λbl jn=>br jn (U (ax J h1 .lss 3 bl v5) λbA=>bq bA (U (cZ J 293 v4 bl) λv9=>U (ak J h1 296 v9) λv10=>U (bB v10) λv11=>U (aQ J 298 v11 0) λv12=>U (ak J h1 182 v12) λcd=>ca (lg J 179 1 [(0,cd)]) h1 λb9 al=>a7 (h2 J al 179 179 v6 b9) λch aE=>U (ax J aE .add 3 bl (.int .i64 1)) λcj=>some (.normal,[ch,cj],aE)) (some ((.exit 0),[v6,bl],h1)))) [.bI,(.int .i64 0)] h) λeY aK ab=>a_ aK λcC p'=>a_ p' λcx qa=>br qa (gD 0 eY (some (.ret,[cC],ab)) (some (.ret,[.bI],ab)) λi=>none))
theorem akC{a0:aa} :LT PV 96 [a0] (Rv a0):=
 cc (f:=Tryz.f96) (.seq (.ah []) (.seq (.seq (.ah []) (.cond (.seq (.ah []) .leaf) .leaf)) (.seq (.ah []) (.seq (.seq (.ah []) (.loop [3,13] [] (.seq (.ah []) (.seq (.cond .leaf .leaf) (.seq (.dW (.seq (.ah []) (.ah []))) (.ah [])))))) (.seq (.ah []) .leaf))))) (by kernel_rfl) (b' rfl (by kernel_rfl)) λ_ _=>by kernel_rfl
end
section
variable{PV:cn} [cN PV]
def gg(h:ae)(sz:Nat)(v:aa)(rows:List (List aa)) :Prop:=
 (∀r,r∈rows->r.length=sz)/\((v=.bI/\rows=[])\/∃b cap ex fC,v=.slice b 0 rows.length cap sz ex/\b<h.next/\rows.length<=cap/\a8.Obj h b (rows.flatten++fC)/\fC.length=(cap-rows.length) *sz)
theorem gg.az{h g:ae}{sz:Nat}{v:aa}{rows:List (List aa)}(r:gg h sz v rows){S:Nat->Prop}(u:aM S h g)(aA:∀b,cI v=some b->¬S b) :gg g sz v rows:=by
 refine⟨r.1,?_⟩;rcases r.2 with h1|⟨b,cap,ex,fC,rfl,ab,al,aE,aL⟩
 ·exact .inl h1
 ·exact .inr ⟨b,cap,ex,fC,rfl,Nat.lt_of_lt_of_le ab u.next,al,aE.az u ab (aA b rfl),aL⟩
theorem gg.ext{h g:ae}{sz:Nat}{v:aa}{rows:List (List aa)}(r:gg h sz v rows)(u:bf h g) :gg g sz v rows:=r.az u λ_ _ e=>e
theorem gg.nil(h:ae)(sz:Nat) :gg h sz .bI []:=⟨by simp,.inl ⟨rfl,rfl⟩⟩
theorem gg.len{h:ae}{sz:Nat}{v:aa}{rows:List (List aa)}(r:gg h sz v rows){T e:TypeId}{si:bK}(aW:J.ty T=some si)(aC:si.desc=.slice e) :dw J h T v=some (.int .i64 (rows.length:Nat)):=by
 rcases r.2 with⟨rfl,rfl⟩ |⟨b,cap,ex,fC,rfl,_⟩
 ·exact Mf aW aC h
 ·exact ye aW aC h _ _ _ _ _ _
theorem gg.at{h:ae}{sz:Nat}{v:aa}{rows:List (List aa)}(r:gg h sz v rows){i:Nat}{x:List aa}(af:rows[i]? =some x) :
  ∃b cap ex l,v=.slice b 0 rows.length cap sz ex/\b<h.next/\a8.Obj h b l/\i<rows.length/\(i+1) *sz<=l.length/\(l.drop (i*sz)).take sz=x/\∀j,j<sz->bP h b (i*sz+j)=x[j]? :=by
 obtain⟨b6,_⟩:=List.getElem?_eq_some_iff.1 af;rcases r.2 with⟨rfl,rfl⟩ |⟨b,cap,ex,fC,rfl,ab,al,o,aL⟩
 ·simp at b6
 ·have lu:=sH r.1;have hm:(i+1) *sz<=rows.length*sz:=Nat.mul_le_mul_right _ b6
  have aC:((rows.flatten++fC).drop (i*sz)).take sz=x:=by
   have aA:i*sz+sz=(i+1) *sz:=by rw[Nat.succ_mul]
   rw[List.drop_append,List.take_append_of_le_length (by rw[List.length_drop];omega)];exact Fs r.1 af
  refine⟨b,cap,ex,_,rfl,ab,o,b6,by rw[List.length_append];omega,aC,λj aO=> ?_⟩;rw[o.rd,<-aC,List.getElem?_take,if_pos aO,List.getElem?_drop]
theorem WW{f:FuncId}{q:List aa->ae->Option (aa×ae)}(aJ:PV f=some q){args:List aa}{h:ae}{r:aa×ae}(aF:q args h=some r) :call J PV (.func f [] []) args h=some r:=by
 refine pe.2 ⟨1,?_⟩
 show(match PV f with
  |some q=>match q args h with
   |some r=>some r
   |none=>lF J (fns J PV 0) (.func f [] []) args h
  |none=>lF J (fns J PV 0) (.func f [] []) args h)=_
 rw[aJ]
 show(match q args h with
  |some r=>some r
  |none=>lF J (fns J PV 0) (.func f [] []) args h)=_
 rw[aF]
theorem an2(l k:Nat) :u0 l 0 k=0:=by
 induction k with
 |zero=>rfl
 |succ k b1=>
  show 0+(u0 l 0 k) <<< (8*l)=0;rw[b1];simp
theorem an4(h:ae){k:Nat}(av:k<=64) :call J PV (.func 296 [] []) [.str 1 0,.int .i64 k] h=some (.str k 0,h):=by refine WW (q:=Ht) ((cN.same 296 rfl).trans (by kernel_rfl)) ?_;show(bif Nat.ble (1*k) 140737488355328&&Nat.ble k 9223372036854775807 then some (aa.str (1*k) (u0 1 0 k),h)else none)=_;rw[ec.2 (by omega),ec.2 (by omega),an2,Nat.one_mul];rfl
theorem GN(h:ae)(l n:Nat) :dw J h 9 (.str l n)=some (.int .i64 l):=by kernel_rfl
theorem HK(h:ae){l n r:Nat}(an:r<=l) :iv J h 9 (.str l n) none (some (.int .i64 r)) none=some (.str r (n%2^(8*r))):=by
 have aG:J.ty 9=some oz:=by kernel_rfl
 show kl J h 9 (.str l n) none (some (r:Int)) none=_;simp only[kl,aG]
 show(match js l l true none (some (r:Int)) none with
  |some (l,h,_,_)=>some (aa.str (h-l) ((n>>> (8*l)) %2^(8*(h-l))))
  |none=>none)=_
 simp only[js,nQ an];rfl
theorem Ww(h:ae){l n:Nat}(ay:l<=64)(aw:n<2^(8*l)) :call J PV (.func 213 [] []) [.str l n,.int .i64 64] h=some (.str 64 n,h):=by
 refine ajx (x:=.ret) (vs:=[.str 64 n]) (first:=[]) (cap:=[]) ?_ rfl;have em:max (64:Int) 0=64:=by decide
 simp only[Qr,ak5,em,ar,GN,gA,ba];by_cases c:(64:Int)<=(l:Nat)
 ·have:l=64:=by omega
  subst this;rw[if_pos (by simp)];have:=HK h (l:=64) (n:=n) (r:=64) (Nat.le_refl _);rw[show(aa.int .i64 64)=.int .i64 ((64:Nat) :Int)from rfl,this];rw[Nat.mod_eq_of_lt aw];rfl
 ·rw[if_neg (by simpa using c)];have aG:b0 .i64 (64-(l:Int))=((64-l:Nat) :Int):=by rw[wrap_i64 (by omega) (by omega)];omega
  simp only[fT,aG,ar,an4 h (show 64-l<=64 by omega),c3,Jk,AT];rw[show Nat.blt (l+(64-l)) 4611686018427387904=true by rw[dM];omega];simp only[cond_true,ar,Nat.zero_shiftLeft,Nat.add_zero,show l+(64-l)=64 by omega]
structure fW where
 nl:Nat
 tf:Nat
 size:Nat
 cQ:aa
 ext:List (Nat×Nat)
def fW.vs(n:fW) :List aa:=[.str n.nl n.tf,.int .i64 n.size,n.cQ]
def ue(x:Nat×Nat) :List aa:=[.int .i64 x.1,.int .i64 x.2]
def loc:List (Nat×Nat)->Nat->Option Nat
 |[],_=>none
 |x::r,p=>if p<x.2 then some (x.1+p)else loc r (p-x.2)
structure kI where
 f:Nat
 h8:aa
 used:Nat
 cb:List fW
structure kL(h:ae)(F:kI)(D:ij) :Prop where
 lt:F.f<h.next
 str:∃m,a8.Obj h F.f [.ptr D.d 0,.int .i64 F.used,F.h8,m]
 nodes:gg h 3 F.h8 (F.cb.map fW.vs)
 nj:F.cb.length<=65536
 exts:∀n,n∈F.cb->gg h 2 n.cQ (n.ext.map ue)
 NP:∀n,n∈F.cb->dH n.cQ=true
 ok:∀n,n∈F.cb->n.size<=1048576/\n.ext.length<=16000/\(∀x,x∈n.ext->x.1<=1048576/\x.2<=1048576)/\∀p,p<(n.size+63) /64->∃s,loc n.ext p=some s/\s<D.n
 apart:(∀b,cI F.h8=some b->b≠D.d)/\(∀n b,n∈F.cb->cI n.cQ=some b->b≠D.d)/\F.f≠D.d
def fileAt(cb:List fW)(sec:Nat->Nat)(f p:Int) :Option Nat:=
 if f<0 then none else match cb[f.toNat]? with
  |none=>none
  |some n=>if p<0\/((n.size+63) /64:Nat)<=p then none else match loc n.ext p.toNat with
   |none=>none
   |some s=>some (sec s%2^(8*min 64 (n.size-64*p.toNat)))
section
variable{h g:ae}{F:kI}{D:ij}{sec:Nat->Nat}{dh:Nat}
theorem kL.az{S:Nat->Prop}(k:kL h F D)(u:aM S h g)(aA:¬S F.f/\(∀b,cI F.h8=some b->¬S b)/\∀n b,n∈F.cb->cI n.cQ=some b->¬S b) :kL g F D where
 lt:=Nat.lt_of_lt_of_le k.lt u.next
 str:=let⟨m,o⟩:=k.str;⟨m,o.az u k.lt aA.1⟩
 nodes:=k.nodes.az u aA.2.1
 nj:=k.nj
 exts:=λn aw=>(k.exts n aw).az u λb=>aA.2.2 n b aw
 NP:=k.NP
 ok:=k.ok
 apart:=k.apart
theorem kL.ext(k:kL h F D)(u:bf h g) :kL g F D:=k.az u ⟨λe=>e,λ_ _ e=>e,λ_ _ _ _ e=>e⟩
theorem To(h:ae){n:Nat}(aw:n<=1048576) :call J PV (.func 217 [] []) [.int .i64 n] h=some (.int .i64 ((n+63) /64:Nat),h):=by
 refine ajz (x:=.ret) (vs:=[.int .i64 ((n+63) /64:Nat)]) (first:=[]) (cap:=[]) ?_ rfl;have aG:b0 .i64 ((n:Int) +64)=((n+64:Nat) :Int):=by rw[wrap_i64 (by omega) (by omega)];omega
 have aT:b0 .i64 (((n+64:Nat) :Int) -1)=((n+63:Nat) :Int):=by rw[wrap_i64 (by omega) (by omega)];omega
 have bJ:b0 .i64 (((n+63:Nat) :Int).tdiv 64)=((((n+63) /64:Nat)) :Int):=by rw[show((n+63:Nat) :Int).tdiv 64=(((n+63) /64:Nat) :Int)from rfl,wrap_i64 (by omega) (by omega)]
 simp only[Qt,du,aG,ar,fT,aT,vF .i64 (show(64:Int)≠0 by decide),bJ]
theorem Tb(k:kL h F D) :call J PV (.func 429 [] []) [.ptr F.f 0] h=some (.int .i64 (F.cb.length:Nat),h):=by
 obtain⟨m,o⟩:=k.str;refine aki (x:=.ret) (vs:=[.int .i64 (F.cb.length:Nat)]) (first:=[]) (cap:=[]) ?_ rfl;have ay:=k.nodes.len (T:=197) (si:=yI) (by kernel_rfl) rfl;rw[List.length_map]at ay;have e:∀a b:Nat,ax J h .eql 83 (.ptr a b) .nilPtr=some (.bool false):=λa b=>r5 (i:=yL) (by kernel_rfl) rfl h a b
 simp only[Ra,e,ar,ba,Bool.false_eq_true,if_false,cl,HY,Nat.zero_add,yF,Obj.get o (i:=2) rfl,ay]
end
theorem NO{l a:Nat}{s:Int}{w:aa}(hw:dH w=true) :([aa.str l a,.int .i64 s,w] :List aa).all dH=true:=by show(true&&(true&&(dH w&&true)))=true;rw[hw];rfl
theorem asf:dY J 204 []=some (.agg [.str 0 0,.int .i64 0,.bI]):=by kernel_rfl
theorem abm{h:ae}{v:aa}{rows:List (List aa)}(r:gg h 2 v rows)(aA:∀x,x∈rows->x.all dH=true)(aw:rows.length<=2^30) :∃w g,h2 J h 202 202 .bI v=some (w,g)/\(bf h g/\dH w=true/\w.cells=[w]):=by
 rcases r.2 with⟨rfl,rfl⟩ |⟨b,cap,ex,fC,rfl,ab,al,o,aL⟩
 ·exact⟨_,h,EN (E:=J) (T:=202) (si:=sg) (ie:=vb) (by kernel_rfl) rfl (by kernel_rfl) (.inl rfl) rfl,aM.refl _ _,rfl,rfl⟩
 ·cases an:rows with
  |nil=>
   subst an;exact⟨_,h,EN (E:=J) (T:=202) (si:=sg) (ie:=vb) (by kernel_rfl) rfl (by kernel_rfl) (.inl rfl) rfl,aM.refl _ _,rfl,rfl⟩
  |cons x rs=>
   have lu:=sH r.1
   have ag:j4 h b 0 ((rs.length+1) *2)=some rows.flatten:=by have:=o.cells 0 (rows.flatten.length) (by simp);rw[lu,an]at this;rw[show(rs.length+1) *2=(x::rs).length*2 from rfl,this];simp only[List.drop_zero];rw[List.take_append_of_le_length (by rw[<-an,lu,an];exact Nat.le_refl _),List.take_of_length_le (by rw[<-an,lu,an];exact Nat.le_refl _),an]
   obtain⟨g,g1,g2,g3,g4⟩:=EM (E:=J) (T:=202) (si:=sg) (ie:=vb) (by kernel_rfl) rfl (by kernel_rfl) rfl (by decide) (n:=rs.length) (xid:=b) (xoff:=0) (xcap:=cap) (xex:=ex) ag (by rw[lu,an];rfl) (by
    have:rs.length+1<=2^30:=by rw[an]at aw;exact aw
    show roomy _ 16=true;unfold roomy;rw[Bool.and_eq_true,ec,ec]
    omega)
   exact⟨_,g,g1,g3,rfl,rfl⟩
theorem adS(l:List (Nat×Nat)) :∀x,x∈l.map ue->x.all dH=true:=by intro x ag;obtain⟨y,_,rfl⟩:=List.mem_map.1 ag;rfl
theorem ah9{h:ae}{F:kI}{D:ij}(k:kL h F D){i:Nat}{n:fW}(af:F.cb[i]? =some n) :bh (call J PV (.func 375 [] []) [.ptr F.f 0,.int .i64 i] h) λv g=>(∃w,v=.tuple [.agg [.str n.nl n.tf,.int .i64 n.size,w],.int .i64 0]/\dH w=true)/\bf h g:=by
 refine bh.mk (λe=>Vs (first:=[]) (cap:=[]) e rfl) ?_;unfold IQ;obtain⟨b6,_⟩:=List.getElem?_eq_some_iff.1 af;have ei:n∈F.cb:=List.mem_of_getElem? af;have uq:=k.nj;refine cM DG λg1 ct dR bb=> ?_
 have bk:=k.ext bb;obtain⟨m,o⟩:=bk.str;have fm:¬(i:Int) <0:=by omega
 have bo:¬(F.cb.length:Int)<=(i:Int):=by omega
 obtain⟨b,cap,ex,l,ai,aj,ol,_,Cn,KV,hE⟩:=bk.nodes.at (i:=i) (x:=n.vs) (by simp[af]);rw[List.length_map]at ai;simp only[dk,decide_eq_false fm,ar,cP,if_true,Tb bk,c3,gA,decide_eq_false bo,c4,bz,bp,cF,Bool.false_eq_true,if_false,ba,cl,HY,Nat.zero_add,yF,Obj.get o (i:=2) rfl,ai,DK b6];rw[H3 ol (by omega),KV];simp only[ar];refine cM DG λg2 cE eN bn=> ?_
 refine cX (DS (k:=0) (cs:=n.vs) cE rfl (by simp[fW.vs]) (NO (k.NP n ei))) λg3 ⟨cO,bR,gp⟩=> ?_
 have cO:=ff cO rfl;have k9:bf g1 g3:=bn.local bR (λj aO e=>by omega);simp only[Oj,Nat.zero_add,ar,Ow,Obj.get cO (i:=2) rfl];obtain⟨w,g4,kT,bO,ck,dT⟩:=abm (((bk.exts n ei)).ext k9) (adS _) (by rw[List.length_map];have:=(k.ok n ei).2.1;exact Nat.le_trans this (by decide));rw[kT];simp only[c3];have yk:=cO.ext bO (by omega);refine cX (aqy (k:=2) (v:=w) yk (by simp[fW.vs]) dT ck) λg5 ⟨eH,cD,n5⟩=> ?_
 rw[H3 eH (by simp[fW.vs])];simp only[ar];have hU:=bO.next;have nF:=((ct.ext k9 (by omega)).ext bO (by omega)).az cD (by omega) (by omega);refine cX (DS (k:=0) (cs:=[.str n.nl n.tf,.int .i64 n.size,w]) nF rfl (by simp) (NO ck)) λg6 ⟨eO,cJ,n6⟩=> ?_
 have eO:=ff eO rfl;rw[H3 eO (by simp)];simp only[ar];refine aV.pure ⟨⟨w,rfl,ck⟩,?_⟩;exact(((bb.trans k9).trans bO).local cD (λj aO e=>by omega)).local cJ (λj aO e=>by omega)
theorem ah8{h:ae}{F:kI}{D:ij}(k:kL h F D){i:Int}(af:i<0\/(F.cb.length:Int)<=i) :bh (call J PV (.func 375 [] []) [.ptr F.f 0,.int .i64 i] h) λv g=>v=.tuple [.agg [.str 0 0,.int .i64 0,.bI],.int .i64 14]/\bf h g:=by
 refine bh.mk (λe=>Vs (first:=[]) (cap:=[]) e rfl) ?_;unfold IQ;refine cM DG λg1 ct dR bb=> ?_
 have bk:=k.ext bb
 have fin:aV (U (dY J 204 []) λbl=>U (bN J g1 204 (.ptr h.next 0) bl) λaE=>U (ak J aE 204 (.ptr h.next 0)) λbA=>some (eb.ret,[bA,.int .i64 14],aE)) λ_ vs g=>kE vs=.tuple [.agg [.str 0 0,.int .i64 0,.bI],.int .i64 14]/\bf h g:=by
  rw[asf,ar];refine cX (DS (k:=0) (cs:=[.str 0 0,.int .i64 0,.bI]) ct rfl (by simp) rfl) λg6 ⟨eO,cJ,n6⟩=> ?_
  have eO:=ff eO rfl;rw[H3 eO (by simp)];exact aV.pure ⟨rfl,bb.local cJ (λj aO e=>by omega)⟩
 by_cases fm:i<0
 ·simp only[dk,decide_eq_true fm,ar,cP,Bool.true_eq_false,if_false,c4,bz,bp,cF,if_true,ba];exact fin
 ·have bo:(F.cb.length:Int)<=i:=by omega
  simp only[dk,decide_eq_false fm,ar,cP,if_true,Tb bk,c3,gA,decide_eq_true bo,c4,bz,bp,cF,Bool.false_eq_true,if_false,ba];exact fin
theorem Tp{h:ae}{F:kI}{D:ij}(k:kL h F D){i:Nat}{n:fW}(af:F.cb[i]? =some n) :bh (call J PV (.func 307 [] []) [.ptr F.f 0,.int .i64 i] h) λv g=>v=.int .i64 ((n.size+63) /64:Nat)/\bf h g:=by
 refine bh.mk (λe=>Vq (first:=[]) (cap:=[]) e rfl) ?_;unfold IN;refine b4 (ah9 k af) ?_;rintro _ g1 ⟨⟨w,rfl,hw⟩,bb⟩;simp only[dA,List.getElem?_cons_zero,List.getElem?_cons_succ,ar];refine cM DG λg2 cE eN bn=> ?_
 refine cX (DS (k:=0) (cs:=[.str n.nl n.tf,.int .i64 n.size,w]) cE rfl (by simp) (NO hw)) λg3 ⟨cO,bR,gp⟩=> ?_
 have cO:=ff cO rfl;simp only[HX,Nat.zero_add,ar,cW,Obj.get cO (i:=1) rfl,To g3 (k.ok n (List.mem_of_getElem? af)).1,c3];exact aV.pure ⟨rfl,(bb.trans bn).local bR (λj aO e=>by have:=bb.next;omega)⟩
theorem aev{h:ae}{F:kI}{D:ij}(k:kL h F D){i:Int}(af:i<0\/(F.cb.length:Int)<=i) :bh (call J PV (.func 307 [] []) [.ptr F.f 0,.int .i64 i] h) λv g=>v=.int .i64 0/\bf h g:=by
 refine bh.mk (λe=>Vq (first:=[]) (cap:=[]) e rfl) ?_;unfold IN;refine b4 (ah8 k af) ?_;rintro _ g1 ⟨rfl,bb⟩;simp only[dA,List.getElem?_cons_zero,List.getElem?_cons_succ,ar];refine cM DG λg2 cE eN bn=> ?_
 refine cX (DS (k:=0) (cs:=[.str 0 0,.int .i64 0,.bI]) cE rfl (by simp) rfl) λg3 ⟨cO,bR,gp⟩=> ?_
 have cO:=ff cO rfl;have:=To g3 (n:=0) (by decide);simp only[HX,Nat.zero_add,ar,cW,Obj.get cO (i:=1) rfl];rw[show(aa.int .i64 0)=.int .i64 ((0:Nat) :Int)from rfl,this];simp only[c3];exact aV.pure ⟨rfl,(bb.trans bn).local bR (λj aO e=>by have:=bb.next;omega)⟩
theorem akL{l:List (Nat×Nat)}{i:Nat}{x:Nat×Nat}(af:l[i]? =some x)(p:Nat) :loc (l.drop i) p=if p<x.2 then some (x.1+p)else loc (l.drop (i+1)) (p-x.2):=by obtain⟨b6,he⟩:=List.getElem?_eq_some_iff.1 af;rw[List.drop_eq_getElem_cons b6,he];rfl
theorem kL.node{h:ae}{F:kI}{D:ij}(k:kL h F D){i:Nat}{n:fW}(af:F.cb[i]? =some n) :∃m b cap ex,a8.Obj h F.f [.ptr D.d 0,.int .i64 F.used,.slice b 0 F.cb.length cap 3 ex,m]/\i<F.cb.length/\∀j,j<3->bP h b (i*3+j)=n.vs[j]? :=by obtain⟨b6,_⟩:=List.getElem?_eq_some_iff.1 af;obtain⟨m,o⟩:=k.str;obtain⟨b,cap,ex,l,ai,aj,ol,_,Cn,KV,hE⟩:=k.nodes.at (i:=i) (x:=n.vs) (by simp[af]);rw[List.length_map]at ai;rw[ai]at o;exact⟨m,b,cap,ex,o,b6,hE⟩
theorem am9{h:ae}{F:kI}{D:ij}{sec:Nat->Nat}{dh:Nat}(k:kL h F D)(qI:fH h D sec dh){i:Nat}{n:fW}(af:F.cb[i]? =some n){p s:Nat}(aI:p<(n.size+63) /64)(aA:loc n.ext p=some s) :
  bh (call J PV (.func 229 [] []) [.ptr F.f 0,.int .i64 i,.int .i64 p] h) λv g=>v=.tuple [.str 64 (sec s%2^(8*min 64 (n.size-64*p))),.int .i64 0]/\fH g D sec dh/\aM (λj=>j=D.d) h g:=by
 refine bh.mk (λe=>Vl (first:=[]) (cap:=[]) e rfl) ?_;unfold II;have ei:n∈F.cb:=List.mem_of_getElem? af;obtain⟨vr,z2,z3,z4⟩:=k.ok n ei;have ag6:s<D.n:=by obtain⟨aY,aG,aT⟩:=z4 p aI;rw[aA]at aG;cases aG;exact aT
 have TR:=qI.n;have fm:¬(p:Int) <0:=by omega
 simp only[dk,decide_eq_false fm,ar,cP,if_true];refine fO (P:=λx w g=>x=.normal/\w=[.bool false]/\bf h g) ?_ ?_
 ·refine b4 (Tp k af) ?_;rintro _ g1 ⟨rfl,bb⟩;have bo:¬(((n.size+63) /64:Nat) :Int)<=(p:Int):=by omega
  simp only[gA,decide_eq_false bo,ar];exact aV.pure ⟨rfl,rfl,bb⟩
 ·rintro _ _ ab ⟨rfl,rfl,bn⟩;have b_:=k.ext bn;have L7:=qI.ext bn;obtain⟨m,b,cap,ex,o,b6,hE⟩:=b_.node af;have dm:=hE 2 (by decide);simp only[bz,bp,cF,Bool.false_eq_true,if_false,ar,ba,cl,HY,Nat.zero_add,yF,Obj.get o (i:=2) rfl,DK b6,Oj,Ow,dm,fW.vs,List.getElem?_cons_zero,List.getElem?_cons_succ];have ay:=(b_.exts n ei).len (T:=202) (si:=sg) (by kernel_rfl) rfl;rw[List.length_map]at ay;rw[ay];simp only[ar]
  refine hX (n:=14) (I:=λi vs g=>∃r,vs=[.int .i64 (r:Nat),.str 0 0,.int .i64 (i:Nat)]/\loc (n.ext.drop i) r=some s/\r<=p/\bf ab g) (m:=n.ext.length)
   (P:=λx vs g=>∃a c,x=.exit 0/\vs=[a,.str 64 (sec s),c]/\fH g D sec dh/\aM (λj=>j=D.d) ab g) (Nat.lt_of_le_of_lt z2 (by decide)) ⟨p,rfl,aA,Nat.le_refl _,aM.refl _ _⟩ ?_ ?_
  ·rintro j _ al aO ⟨r,rfl,an,Lw,bR⟩;have att:p<16385+1048576:=by omega
   have zP:j<n.ext.length:=by
    rcases Nat.lt_or_ge j n.ext.length with h|h
    ·exact h
    ·rw[List.drop_of_length_le h]at an;cases an
   have nS:(j:Int) <(n.ext.length:Int):=by omega
   have ag:n.ext[j]? =some n.ext[j]:=List.getElem?_eq_getElem zP;generalize n.ext[j]=x at ag;have gL:x∈n.ext:=List.mem_of_getElem? ag;obtain⟨aup,auq⟩:=z3 x gL;have b3:=b_.ext bR;obtain⟨dK,zj,gi,bQ,fV,gK,Wy,_,agf,sU,_⟩:=(b3.exts n ei).at (i:=j) (x:=ue x) (by simp[ag]);rw[List.length_map]at fV;simp only[bz,bp,dk,decide_eq_true nS,ar,ba,if_true,fV,Yv zP,Nat.zero_add];rw[aqd Wy (by omega),sU];simp only[ar];refine cM apG λg4 dG hU bO=> ?_
   refine cX (aqz (k:=0) (cs:=ue x) dG rfl (by simp[ue]) rfl) λg5 ⟨eH,cD,n5⟩=> ?_
   have eH:=ff eH rfl;have ve:bf al g5:=bO.local cD (λj aO e=>by omega);have gb:bP g5 al.next 0=some (.int .i64 (x.1:Nat)):=eH.rd 0;have s1:bP g5 al.next 1=some (.int .i64 (x.2:Nat)):=eH.rd 1;simp only[Yo,Yn,Nat.zero_add,cW,s1,ar,dk];rw[akL ag]at an;by_cases c:r<x.2
   ·have h3:(r:Int) <(x.2:Int):=by omega
    rw[if_pos c]at an;have Lz:x.1+r=s:=Option.some.inj an;have aG:b0 .i64 ((x.1:Int) +(r:Int))=((s:Nat) :Int):=by rw[wrap_i64 (by omega) (by omega)];omega
    obtain⟨fB,amh⟩:=(b3.ext ve).str;have f0:bP g5 F.f 0=some (.ptr D.d 0):=amh.rd 0;simp only[decide_eq_true h3,ba,if_true,cl,ap5,ar,u9,cW,dd,f0,gb,du,aG];have cf:bf g5 (g5.aB 13):=aM.aB _ _ _;have aio:=L7.ext ((bR.trans ve).trans cf);refine b4 (SM aio ag6) ?_;rintro _ g6 ⟨rfl,eL,cJ⟩;simp only[dA,List.getElem?_cons_zero,List.getElem?_cons_succ,ar,eh];exact aV.pure (.inr ⟨by simp,_,_,rfl,rfl,eL,(aM.ext ((bR.trans ve).trans cf)).trans cJ⟩)
   ·have h3:¬(r:Int) <(x.2:Int):=by omega
    rw[if_neg c]at an;have aG:b0 .i64 ((r:Int) -(x.2:Int))=((r-x.2:Nat) :Int):=by rw[wrap_i64 (by omega) (by omega)];omega
    have aT:b0 .i64 ((j:Int) +1)=((j+1:Nat) :Int):=by rw[wrap_i64 (by omega) (by omega)];omega
    simp only[decide_eq_false h3,ba,Bool.false_eq_true,if_false,cW,s1,ar,fT,aG,du,aT];exact aV.pure (.inl ⟨rfl,zP,r-x.2,rfl,an,by omega,bR.trans ve⟩)
  ·rintro _ _ aE ⟨a,c,rfl,rfl,c7,bO⟩;have aim:=b_.az bO ⟨k.apart.2.2,k.apart.1,k.apart.2.1⟩;obtain⟨fB,dK,zj,gi,cg,mh,F7⟩:=aim.node af;have cS:=F7 1 (by decide);have aG:b0 .i64 ((p:Int) *64)=((64*p:Nat) :Int):=by rw[wrap_i64 (by omega) (by omega)];omega
   have aT:b0 .i64 ((n.size:Int) -((64*p:Nat) :Int))=((n.size-64*p:Nat) :Int):=by rw[wrap_i64 (by omega) (by omega)];omega
   have bJ:min ((n.size-64*p:Nat) :Int) 64=((min 64 (n.size-64*p) :Nat) :Int):=by omega
   have e0:=Ww aE (l:=min 64 (n.size-64*p)) (n:=sec s%2^(8*min 64 (n.size-64*p))) (by omega) (Nat.mod_lt _ (Nat.two_pow_pos _));simp only[bz,bp,hs,if_true,cl,HY,Nat.zero_add,ar,yF,Obj.get cg (i:=2) rfl,DK mh,HX,cW,cS,fW.vs,List.getElem?_cons_zero,List.getElem?_cons_succ,nh,aG,fT,aT,ak_,bJ];rw[HK aE (l:=64) (r:=min 64 (n.size-64*p)) (by omega)];simp only[ar,e0,c3];exact aV.pure ⟨rfl,c7,(aM.ext bn).trans bO⟩
theorem am7{h:ae}{F:kI}{D:ij}{sec:Nat->Nat}(k:kL h F D){i p:Int}(aw:fileAt F.cb sec i p=none) :
  bh (call J PV (.func 229 [] []) [.ptr F.f 0,.int .i64 i,.int .i64 p] h) λv g=>v=.tuple [.str 0 0,.int .i64 14]/\bf h g:=by
 refine bh.mk (λe=>Vl (first:=[]) (cap:=[]) e rfl) ?_;unfold II;by_cases fm:p<0
 ·simp only[dk,decide_eq_true fm,ar,cP,Bool.true_eq_false,if_false,c4,bz,bp,cF,if_true,ba];exact aV.pure ⟨rfl,aM.refl _ _⟩
 ·simp only[dk,decide_eq_false fm,ar,cP,if_true];refine fO (P:=λx w g=>x=.normal/\w=[.bool true]/\bf h g) ?_ ?_
  ·by_cases af:i<0\/(F.cb.length:Int)<=i
   ·refine b4 (aev k af) ?_;rintro _ g1 ⟨rfl,bb⟩;simp only[gA,decide_eq_true (show(0:Int)<=p by omega),ar];exact aV.pure ⟨rfl,rfl,bb⟩
   ·have b6:i.toNat<F.cb.length:=by omega
    have ag:F.cb[i.toNat]? =some F.cb[i.toNat]:=List.getElem?_eq_getElem b6;generalize F.cb[i.toNat]=n at ag;have fZ:i=(i.toNat:Int):=by omega
    unfold fileAt at aw;rw[if_neg (by omega),ag]at aw;simp only at aw
    have aI:(((n.size+63) /64:Nat) :Int)<=p:=by
     rcases Int.lt_or_le p (((n.size+63) /64:Nat) :Int)with h|h
     ·rw[if_neg (by omega)]at aw;obtain⟨s,aG,aT⟩:=(k.ok n (List.mem_of_getElem? ag)).2.2.2 p.toNat (by omega);rw[aG]at aw;cases aw
     ·exact h
    rw[fZ];refine b4 (Tp k ag) ?_;rintro _ g1 ⟨rfl,bb⟩;simp only[gA,decide_eq_true aI,ar];exact aV.pure ⟨rfl,rfl,bb⟩
  ·rintro _ _ g ⟨rfl,rfl,u⟩;simp only[bz,bp,cF,Bool.false_eq_true,if_false,if_true,ar,ba];exact aV.pure ⟨rfl,u⟩
theorem aeu{h:ae}{F:kI}{D:ij}{sec:Nat->Nat}{dh:Nat}(k:kL h F D)(qI:fH h D sec dh){i p:Int}{m:Nat}(aw:fileAt F.cb sec i p=some m) :
  bh (call J PV (.func 229 [] []) [.ptr F.f 0,.int .i64 i,.int .i64 p] h) λv g=>v=.tuple [.str 64 m,.int .i64 0]/\fH g D sec dh/\aM (λj=>j=D.d) h g:=by
 unfold fileAt at aw;by_cases c:i<0
 ·rw[if_pos c]at aw;cases aw
 rw[if_neg c]at aw;cases ag:F.cb[i.toNat]? with
 |none=>rw[ag]at aw;cases aw
 |some n=>
  rw[ag]at aw;simp only at aw;by_cases cp:p<0\/(((n.size+63) /64:Nat) :Int)<=p
  ·rw[if_pos cp]at aw;cases aw
  rw[if_neg cp]at aw;cases ay:loc n.ext p.toNat with
  |none=>rw[ay]at aw;cases aw
  |some s=>
   rw[ay]at aw;have:=am9 k qI ag (p:=p.toNat) (by omega) ay;rw[show((i.toNat:Nat) :Int)=i by omega,show((p.toNat:Nat) :Int)=p by omega]at this;rw[Option.some.inj aw]at this;exact this
theorem ad4{cb:List fW}{sec:Nat->Nat}{i p:Int}{m:Nat}(aw:fileAt cb sec i p=some m) :m<2^512:=by
 unfold fileAt at aw;split at aw
 ·cases aw
 ·split at aw
  ·cases aw
  ·split at aw
   ·cases aw
   ·split at aw
    ·cases aw
    ·rename_i n _ _ _ s _;rw[<-Option.some.inj aw];exact Nat.lt_of_lt_of_le (Nat.mod_lt _ (Nat.two_pow_pos _)) (Nat.pow_le_pow_right (by decide) (by omega))
end
section
variable{PV:cn} [cN PV]
def oO:aa->Bool
 | .slice _ _ _ _ _ ex=> !ex
 |_=>true
theorem za{T e:TypeId}{si ie:bK}(aW:J.ty T=some si)(aC:si.desc=.slice e)(he:J.ty e=some ie)(hu:jh ie.desc=false)(h1:1<=ie.size){h:ae}{b off len cap:Nat}{ex:Bool}{l:List aa}(o:a8.Obj h b l)
  {xid xoff n xcap:Nat} {xex:Bool} {new:List aa} (ag:j4 h xid xoff ((n+1) *ie.size)=some new) (jx:new.length=(n+1) *ie.size) (aA:new.all dH=true) (aH:len+(n+1)<=cap) (ay:off+(len+(n+1)) *ie.size<=l.length) :
  ∃g,h2 J h T T (.slice b off len cap ie.size ex) (.slice xid xoff (n+1) xcap ie.size xex)=some (.slice b off (len+(n+1)) cap ie.size ex,g)/\(a8.Obj g b (l.take (off+len*ie.size)++new++l.drop (off+len*ie.size+new.length))/\aM (λi=>i=b) h g/\g.next=h.next):=by
 have hlen:off+len*ie.size+new.length<=l.length:=by rw[jx];rw[Nat.add_mul]at ay;omega
 obtain⟨ob,ck,dT⟩:=o.writes new (off+len*ie.size) hlen aA;refine⟨h.put b ob,?_,dT,aM.put _ rfl,rfl⟩;have rA:Nat.beq ie.size ie.size=true:=beq_true.2 rfl;have kW:Nat.ble 1 ie.size=true:=ec.2 h1;have hle:Nat.ble (len+(n+1)) cap=true:=ec.2 aH;simp only[h2,aW,aC,he,lx,hu]
 show(bif Nat.beq ie.size ie.size&&Nat.ble 1 ie.size then match j4 h xid xoff ((n+1) *ie.size)with
  |none=>none
  |some new=>bif Nat.beq ie.size ie.size&&new.all dH then
   bif Nat.ble (len+(n+1)) cap then match j9 h b (off+len*ie.size) new with
    |some h=>some (aa.slice b off (len+(n+1)) cap ie.size ex,h)
    |none=>none
   else _ else none else none)=_
 rw[ag];simp only[rA,kW,aA,hle,Bool.and_true,cond_true,ck]
theorem gg.push{T e:TypeId}{si ie:bK}(aW:J.ty T=some si)(aC:si.desc=.slice e)(he:J.ty e=some ie)(hu:jh ie.desc=false)(h1:1<=ie.size){h:ae}{v:aa}{rows:List (List aa)}(r:gg h ie.size v rows)(hex:oO v=true)
  {xid xcap:Nat} {xex:Bool} {new:List aa} (fo:a8.Obj h xid new) (jx:new.length=ie.size) (aA:new.all dH=true) (an:roomy (rows.length+1) ie.bytes=true) :
  ∃w g,h2 J h T T v (.slice xid 0 1 xcap ie.size xex)=some (w,g)/\(gg g ie.size w (rows++[new])/\oO w=true/\aM (λi=>cI v=some i) h g/\(∃b,cI w=some b/\b<g.next/\(cI v=some b\/h.next<=b))/\w.cells=[w]/\dH w=true):=by
 have ag:j4 h xid 0 ((0+1) *ie.size)=some new:=by have:=fo.here;rw[jx]at this;simpa using this
 have hD:∀y,y∈rows++[new]->y.length=ie.size:=by
  intro y aq;rcases List.mem_append.1 aq with aq|aq
  ·exact r.1 y aq
  ·rw[List.mem_singleton]at aq;subst aq;exact jx
 rcases r.2 with⟨rfl,rfl⟩ |⟨b,cap,ex,fC,rfl,ab,al,o,aL⟩
 ·obtain⟨g,g1,g2,g3,g4⟩:=EM aW aC he hu h1 (n:=0) (xcap:=xcap) (xex:=xex) ag (by omega) (by simpa using an);refine⟨_,g,g1,⟨hD,.inr ⟨h.next,1,false,[],rfl,by omega,by simp,by simpa using g2,by simp⟩⟩,rfl,aM.ext g3,⟨h.next,rfl,by omega,.inr (Nat.le_refl _)⟩,rfl,rfl⟩
 ·have Cd:ex=false:=by simpa [oO]using hex
  subst Cd;have lu:=sH r.1;by_cases aH:rows.length+1<=cap
  ·have hm:ie.size<=fC.length:=by
    rw[aL];exact Nat.le_trans (by rw[Nat.one_mul];exact Nat.le_refl _:ie.size<=1*ie.size) (Nat.mul_le_mul_right _ (by omega))
   obtain⟨g,g1,g2,g3,g4⟩:=za aW aC he hu h1 (n:=0) (off:=0) (len:=rows.length) (cap:=cap) (ex:=false) (xcap:=xcap) (xex:=xex) o ag (by omega) aA aH (by rw[List.length_append,lu,Nat.zero_add,Nat.add_mul,Nat.zero_add,Nat.one_mul];omega);refine⟨_,g,g1,⟨hD,.inr ⟨b,cap,false,fC.drop ie.size,by simp,by omega,by simpa using aH,?_,?_⟩⟩,rfl,g3.mono λi _ e=>by subst e;rfl,⟨b,rfl,by omega,.inl rfl⟩,rfl,rfl⟩
   ·rw[Nat.zero_add,<-lu,List.take_left,List.drop_append,List.drop_of_length_le (by omega),List.nil_append]at g2;rw[show rows.flatten.length+new.length-rows.flatten.length=ie.size by omega]at g2;rw[List.flatten_append,List.flatten_singleton];exact g2
   ·rw[List.length_drop,aL,List.length_append,List.length_singleton,<-Nat.sub_sub,Nat.sub_mul (cap-rows.length) 1,Nat.one_mul]
  ·have mQ:cap=rows.length:=by omega
   subst mQ;have ahj:fC=[]:=List.eq_nil_of_length_eq_zero (by rw[aL,Nat.sub_self,Nat.zero_mul]);subst ahj;rw[List.append_nil]at o;obtain⟨g,g1,g2,g3,g4⟩:=Jb aW aC he hu h1 (n:=0) (xcap:=xcap) (xex:=xex) (len:=rows.length) o lu ag (by omega) aA an;refine⟨_,g,g1,⟨hD,.inr ⟨h.next,rows.length+1,false,[],by simp,by omega,by simp,by simpa using g2,by simp⟩⟩,rfl,g3.mono λi _ e=>by subst e;rfl,⟨h.next,rfl,by omega,.inr (Nat.le_refl _)⟩,rfl,rfl⟩
theorem AN{T e:TypeId}{si ie:bK}(aW:J.ty T=some si)(aC:si.desc=.slice e)(he:J.ty e=some ie)(h:ae){id off len cap l r m:Nat}{ex gi:Bool}{lo af gN:Option Int}(aj:js len cap ex lo af gN=some (l,r,m,gi)) :
  kl J h T (.slice id off len cap ie.size ex) lo af gN=some (.slice id (off+l*ie.size) (r-l) (m-l) ie.size gi):=by
 have rA:Nat.beq ie.size ie.size=true:=beq_true.2 rfl;simp only[kl,aW,aC,he,aj,rA,cond_true]
theorem ao0(h:ae){T:TypeId}{v:aa}{a b:Int} :iv J h T v (some (.int .i64 a)) (some (.int .i64 b)) none=kl J h T v (some a) (some b) none:=rfl
theorem XQ(h:ae){T:TypeId}{v:aa}{b:Int} :iv J h T v none (some (.int .i64 b)) none=kl J h T v none (some b) none:=rfl
theorem XR(h:ae){T:TypeId}{v:aa}{a:Int} :iv J h T v (some (.int .i64 a)) none none=kl J h T v (some a) none none:=rfl
theorem ao1(h:ae){T:TypeId}{v:aa}{a b c:Int} :iv J h T v (some (.int .i64 a)) (some (.int .i64 b)) (some (.int .i64 c))=kl J h T v (some a) (some b) (some c):=rfl
theorem RV{len cap:Nat}{ex:Bool}{r:Nat}(an:r<=cap) :js len cap ex none (some (r:Int)) none=some (0,r,cap,ex):=by simp only[js,nQ an]
theorem RW{len cap:Nat}{ex:Bool}{l:Nat}(ay:l<=len) :js len cap ex (some (l:Int)) none none=some (l,len,cap,ex):=by simp only[js,nQ ay]
theorem abw{len cap:Nat}{ex:Bool}{l r:Nat}(ay:l<=r)(an:r<=cap) :js len cap ex (some (l:Int)) (some (r:Int)) none=some (l,r,cap,ex):=by simp only[js,nQ ay,nQ an]
theorem abx{len cap:Nat}{ex:Bool}{l r m:Nat}(ay:l<=r)(an:r<=m)(hm:m<=cap) :js len cap ex (some (l:Int)) (some (r:Int)) (some (m:Int))=some (l,r,m,true):=by simp only[js,nQ ay,nQ an,nQ hm]
theorem Sr{T e:TypeId}{si ie:bK}(aW:J.ty T=some si)(aC:si.desc=.slice e)(he:J.ty e=some ie)(hu:jh ie.desc=false)(h1:ie.size=1){z:aa}(aP:ie.zero=[z])(eR:dH z=true){h:ae}{id off n cap:Nat}{ex:Bool}{l:List aa}(o:a8.Obj h id l)(ay:off+n<=l.length) :
  ∃g,pf J h T (.slice id off n cap 1 ex)=some g/\(a8.Obj g id (l.take off++List.replicate n z++l.drop (off+n))/\aM (λi=>i=id) h g/\g.next=h.next):=by
 cases n with
 |zero=>
  refine⟨h,by simp only[pf,aW],?_,aM.refl _ _,rfl⟩;simpa using o
 |succ n=>
  have ag1:∀k,j5 k [z]=List.replicate k z:=λk=>by
   induction k with
   |zero=>rfl
   |succ k b1=>show[z]++j5 k [z]=_;rw[b1];rfl
  obtain⟨ob,ck,dT⟩:=o.writes (List.replicate (n+1) z) off (by simpa using ay) (by simp[eR]);refine⟨h.put id ob,?_,by simpa using dT,aM.put _ rfl,rfl⟩;have rA:Nat.beq 1 ie.size=true:=by rw[h1];rfl
  have kW:Nat.ble 1 ie.size=true:=by rw[h1];rfl
  simp only[pf,aW,aC,he,rA,cond_true,hu,aP,kW,ag1,ck]
def one(x:aa) :List aa:=[x]
theorem Ft(xs:List aa) :(xs.map one).flatten=xs:=by
 induction xs with
 |nil=>rfl
 |cons x xs b1=>rw[List.map_cons,List.flatten_cons,b1];rfl
theorem ac_{h:ae}{v:aa}{a b:List aa}{x:aa}(r:gg h 1 v ((a++x::b).map one))(hex:oO v=true)(aA:∀y,y∈b->dH y=true)(aw:(a++x::b).length<=65536) :
  bh (call J PV (.func 317 [] []) [v,.int .i64 (a.length:Nat),.int .i64 ((a.length+1:Nat) :Int)] h) λw g=>gg g 1 w ((a++b).map one)/\oO w=true/\aM (λi=>cI v=some i) h g/\cI w=cI v/\w.cells=[w]/\dH w=true:=by
 refine bh.mk (λe=>aj7 (first:=[]) (cap:=[]) e rfl) ?_;unfold QZ;have xm:J.ty 293=some q3:=by kernel_rfl
 have xn:J.ty 296=some q4:=by kernel_rfl
 have v':(a++x::b).length=a.length+b.length+1:=by simp;omega
 rcases r.2 with⟨_,h0⟩ |⟨id,cap,ex,fC,rfl,ab,al,o,aL⟩
 ·simp at h0
 rw[List.length_map]at al aL;rw[List.length_map]at hex;rw[Ft]at o;rw[List.length_map];have Ce:ex=false:=by simpa [oO]using hex
 subst Ce;rw[v']at al aL aw;rw[v'];have bo:¬((a.length:Nat) :Int)=((a.length+1:Nat) :Int):=by omega
 have s1:=AN xm rfl xn h (id:=id) (off:=0) (len:=a.length+b.length+1) (cap:=cap) (ex:=false) (abx (len:=a.length+b.length+1) (cap:=cap) (ex:=false) (l:=a.length) (r:=a.length+1) (m:=a.length+b.length+1) (by omega) (by omega) (by omega));have s2:=AN xm rfl xn (h.aB 8) (id:=id) (off:=0) (len:=a.length+b.length+1) (cap:=cap) (ex:=false) (RV (len:=a.length+b.length+1) (cap:=cap) (ex:=false) (r:=a.length) (by omega));have dE:=AN xm rfl xn (h.aB 8) (id:=id) (off:=0) (len:=a.length+b.length+1) (cap:=cap) (ex:=false) (RW (len:=a.length+b.length+1) (cap:=cap) (ex:=false) (l:=a.length+1) (by omega));have aP:q4.size=1:=rfl;rw[aP]at s1 s2 dE;simp only[YC,ar,ao1,s1,dn,decide_eq_false bo,ba,Bool.false_eq_true,if_false,XQ,s2,XR,dE];have cf:bf h (h.aB 8):=aM.aB _ _ _;have iM:=o.ext cf ab
 have key:∃g,h2 J (h.aB 8) 293 293 (.slice id (0+0*1) (a.length-0) (cap-0) 1 false) (.slice id (0+(a.length+1) *1) (a.length+b.length+1-(a.length+1)) (cap-(a.length+1)) 1 false)=some (.slice id 0 (a.length+b.length) cap 1 false,g)/\(∃z,a8.Obj g id (a++b++z::fC))/\aM (λi=>i=id) (h.aB 8) g/\g.next=(h.aB 8).next:=by
  rw[show a.length+b.length+1-(a.length+1)=b.length by omega];cases aj:b with
  |nil=>
   subst aj;refine⟨h.aB 8,?_,⟨x,by simpa using iM⟩,aM.refl _ _,rfl⟩;rw[EN xm rfl xn (.inr ⟨_,_,_,_,_,_,rfl⟩) rfl];simp
  |cons y dK=>
   have jG:b.length=dK.length+1:=by rw[aj];rfl
   have ag:j4 (h.aB 8) id (0+(a.length+1) *1) ((dK.length+1) *q4.size)=some b:=by have:=iM.cells (a.length+1) b.length (by simp;omega);rw[aP,<-jG,Nat.zero_add,Nat.mul_one,Nat.mul_one,this];congr 1;rw[List.append_assoc,List.drop_append,List.drop_of_length_le (by omega),List.nil_append,show a.length+1-a.length=1 by omega];simp
   obtain⟨g,g1,g2,g3,g4⟩:=za (T:=293) xm rfl xn rfl (by decide) (off:=0) (len:=a.length) (cap:=cap) (ex:=false) (xcap:=cap-(a.length+1)) (xex:=false) iM (n:=dK.length) (new:=b) ag (by rw[aP,Nat.mul_one];exact jG) (List.all_eq_true.2 aA) (by omega) (by rw[aP];simp;omega);rw[aP,<-jG]at g1;refine⟨g,?_,?_,g3,g4⟩
   ·rw[show(y::dK).length=b.length by rw[aj]];simpa using g1
   ·have aC:∃z,(x::b).drop b.length=[z]:=by
     have:((x::b).drop b.length).length=1:=by simp
     obtain⟨z,nx⟩:=List.length_eq_one_iff.1 this;exact⟨z,nx⟩
    obtain⟨z,ahX⟩:=aC;refine⟨z,?_⟩;rw[<-aj];rw[aP,Nat.zero_add,Nat.mul_one]at g2
    have e:(a++x::b++fC).take a.length++b++(a++x::b++fC).drop (a.length+b.length)=a++b++z::fC:=by
     have t1:(a++x::b++fC).take a.length=a:=by rw[List.append_assoc,List.take_left]
     have t2:(a++x::b++fC).drop (a.length+b.length)=z::fC:=by rw[List.append_assoc,List.drop_append,List.drop_of_length_le (by omega),List.nil_append,show a.length+b.length-a.length=b.length by omega,List.drop_append,ahX,show b.length-(x::b).length=0 by simp];rfl
     rw[t1,t2]
    rw[e]at g2;exact g2
 obtain⟨g,kT,⟨z,tl⟩,ia,rZ⟩:=key;rw[kT];have m2:=AN xm rfl xn g (id:=id) (off:=0) (len:=a.length+b.length) (cap:=cap) (ex:=false) (abw (len:=a.length+b.length) (cap:=cap) (ex:=false) (l:=a.length+b.length) (r:=a.length+b.length+1) (by omega) (by omega));rw[aP]at m2;simp only[c3,YC,ar,ao0,m2];obtain⟨cw,Jr,yl,D7,nc⟩:=Sr (T:=293) xm rfl xn rfl rfl (z:=.nilPtr) rfl rfl (id:=id) (off:=0+(a.length+b.length) *1) (n:=a.length+b.length+1-(a.length+b.length)) (cap:=cap-(a.length+b.length)) (ex:=false) tl (by simp;omega);rw[Jr];simp only[ar];have aG:a.length+b.length+1-(a.length+b.length)=1:=by omega
 rw[aG,Nat.zero_add,Nat.mul_one]at yl
 have aT:(a++b++z::fC).take (a.length+b.length)++List.replicate 1 aa.nilPtr++(a++b++z::fC).drop (a.length+b.length+1)=a++b++aa.nilPtr::fC:=by
  have t1:(a++b++z::fC).take (a.length+b.length)=a++b:=by rw[<-List.length_append,List.take_left]
  have t2:(a++b++z::fC).drop (a.length+b.length+1)=fC:=by rw[<-List.drop_drop,<-List.length_append,List.drop_left];rfl
  rw[t1,t2,List.append_assoc (a++b)];rfl
 rw[aT]at yl;have kx:(h.aB 8).next=h.next+8:=rfl
 refine aV.pure ⟨⟨?_,.inr ⟨id,cap,false,.nilPtr::fC,by show aa.slice _ _ _ _ _ _=_;simp,by omega,by simp;omega,by rw[Ft];exact yl,by simp;omega⟩⟩,rfl,?_,rfl,rfl,rfl⟩
 ·intro y aq;obtain⟨Eu,_,rfl⟩:=List.mem_map.1 aq;rfl
 ·exact(((aM.ext cf).trans (ia.mono λi _ e=>e▸rfl)).trans (D7.mono λi _ e=>e▸rfl))
end
section
variable{PV:cn} [cN PV]
def eC(T:dt)(p:Nat) :List aa:=.int .i64 (p:Nat)::(T.ent p).vs
theorem abJ(n:Int)(a b c d:Bool)(m:Int) :dY J 178 [(0,.int .i64 n),(1,.agg [.bool a,.bool b,.bool c,.bool d,.int .i64 m])]=some (.agg [.int .i64 n,.bool a,.bool b,.bool c,.bool d,.int .i64 m]):=by kernel_rfl
def fu(fr:Int)(l:List Nat) :List Nat:=l.filter λp=>decide (fr<=(p:Int))
theorem aeA(fr:Int)(ent:Nat->bj)(m:Nat) :(fu fr (dI ent 0 m)).length<=m:=by refine Nat.le_trans (List.length_filter_le _ _) ?_;rw[N1];exact oJ _ _
theorem vV(fr:Int)(a b:List Nat) :fu fr (a++b)=fu fr a++fu fr b:=by simp[fu]
section
variable{A:gw}{mem held:Nat->Nat}{free:Nat}{t nn:Nat}{T:dt}{tb ib fb yb:Nat}{fr:Int}{yv:aa}
structure EH(A:gw)(mem held:Nat->Nat)(free t nn:Nat)(T:dt)(tb ib fb yb:Nat)(fr:Int)(yv:aa)(h:ae) :Prop where
 ps:fI h A mem held free
 qV:nf h A mem held t nn T
 lt:tb<h.next/\ib<h.next/\fb<h.next/\yb<h.next
 hf:a8.Obj h tb [.ptr t 0]
 wC:a8.Obj h ib [.func 258 [] [.ptr tb 0,.ptr ib 0,.ptr fb 0,.ptr yb 0]]
 of:a8.Obj h fb [.int .i64 fr]
 hV:a8.Obj h yb [yv]
theorem EH.ext{h g:ae}(w:EH A mem held free t nn T tb ib fb yb fr yv h)(u:bf h g) :EH A mem held free t nn T tb ib fb yb fr yv g:=by have:=u.next;exact⟨w.ps.ext u,w.qV.ext u,⟨by have:=w.lt.1;omega,by have:=w.lt.2.1;omega,by have:=w.lt.2.2.1;omega,by have:=w.lt.2.2.2;omega⟩,w.hf.ext u w.lt.1,w.wC.ext u w.lt.2.1,w.of.ext u w.lt.2.2.1,w.hV.ext u w.lt.2.2.2⟩
theorem apu(lq:hB (gC mem) A.n T){l q i:Nat}(ay:l<3)(af:i<8)(aw:T.bd (l+1) (8*q+i)=none) :dI T.ent (q*8^(4-l) +i*8^(3-l)) (8^(3-l))=[]:=by
 refine N2 λj aO=> ?_
 refine VX lq (k:=l+1) (by omega) ?_
 have:pre (q*8^(4-l) +i*8^(3-l) +j) (l+1)=8*q+i:=by
  unfold pre;have e:8^(4-l)=8*8^(3-l):=by rw[<-Nat.pow_succ'];congr 1;omega
  rw[show 4-(l+1)=3-l by omega,e,show q*(8*8^(3-l)) +i*8^(3-l) +j=j+8^(3-l) *(8*q+i)by
   generalize 8^(3-l)=X;rw[Nat.mul_add,Nat.mul_comm X i,show q*(8*X)=X*(8*q)by rw[<-Nat.mul_assoc,Nat.mul_comm (q*8) X,Nat.mul_comm q 8]]
   omega]
  rw[Nat.add_mul_div_left _ _ (Nat.pos_of_neZero _),Nat.div_eq_of_lt aO,Nat.zero_add]
 rw[this];exact aw
theorem ah4{I:List Nat->ae->Prop}{F:List Nat->ae->Prop}
  (kf:∀d h,I d h->EH A mem held free t nn T tb ib fb yb fr yv h) (ma:∀d h g,I d h->bf h g->I d g)
  (B_:∀d p h,I d h->d.length<=4096->T.ent p≠.zero->fr<=(p:Int)->bh (call J PV yv [.agg (eC T p)] h) λv g=>(v=.bool true/\I (d++[p]) g)\/(v=.bool false/\F (d++[p]) g)) :
  ∀(k l q f:Nat) (d:List Nat) (h:ae),l+k=3->T.bd l q=some f->d=fu fr (dI T.ent 0 (q*8^(4-l)))->I d h->
   bh (call J PV (.func 258 [] [.ptr tb 0,.ptr ib 0,.ptr fb 0,.ptr yb 0]) [.int .i64 f,.int .i64 l,.int .i64 q] h) λv g=>
    (v=.bool true/\I (d++fu fr (dI T.ent (q*8^(4-l)) (8^(4-l)))) g)\/(v=.bool false/\∃a p b,fu fr (dI T.ent (q*8^(4-l)) (8^(4-l)))=a++p::b/\F (d++(a++[p])) g):=by
 intro k;induction k with
 |zero=>
  intro l q f d h ay aJ aC B8;obtain rfl:l=3:=by omega
  refine bh.mk (λe=>Vo (first:=[]) (mid:=[_,_,_]) (cap:=[_,_,_,_]) e rfl) ?_;unfold IL;have xZ:=kf d h B8;have mi:=xZ.qV.ok.lvl _ _ _ aJ
  refine hX (I:=λi vs g=>vs=[.bool false,.int .i64 (i:Nat)]/\I (d++fu fr (dI T.ent (q*8) i)) g) 8 (by omega)
   (P:=λx vs g=>(x=.exit 0/\(∃a b,vs=[a,b])/\I (d++fu fr (dI T.ent (q*8) 8)) g)\/(x=.ret/\(∃b,vs=[.bool false,b])/\∃a p b,fu fr (dI T.ent (q*8) 8)=a++p::b/\F (d++(a++[p])) g))
   ⟨rfl,by simpa [dI,fu]using B8⟩ ?_ ?_
  ·rintro i vs g af ⟨rfl,aN⟩;simp only[bz,bp,dk,ar,ba,decide_eq_true_eq];by_cases cz:i=8
   ·subst cz;rw[if_neg (by omega)];exact aV.pure (.inr ⟨by simp,.inl ⟨rfl,⟨_,_,rfl⟩,aN⟩⟩)
   ·rw[if_pos (by omega)];have hw:=kf _ g aN;have aG:b0 .i64 ((i:Int) +1)=((i+1:Nat) :Int):=by rw[wrap_i64 (by omega) (by omega)];simp
    have xR:=mi.2.1;have aT:b0 .i64 ((q:Int) *8)=((q*8:Nat) :Int):=by rw[wrap_i64 (by omega) (by omega)];simp
    have bJ:b0 .i64 (((q*8:Nat) :Int) +(i:Int))=((q*8+i:Nat) :Int):=by rw[wrap_i64 (by omega) (by omega)];simp
    refine fO (P:=λx vs cw=>(x=.normal/\vs=[.bool false]/\I (d++fu fr (dI T.ent (q*8) (i+1))) cw)\/(x=.ret/\vs=[.bool false]/\∃a p b,fu fr (dI T.ent (q*8) 8)=a++p::b/\F (d++(a++[p])) cw)) ?_ ?_
    ·simp only[nh,du,aT,bJ,ar,m4,Obj.get hw.hf (i:=0) rfl];refine b4 (BR hw.ps hw.qV.obj hw.qV.lt mi.2.2 (hw.qV.held _ ⟨_,_,aJ⟩) (show i<8 by omega)) ?_;rintro _ g1 ⟨rfl,bb⟩;have lr:gC mem f i=T.ent (q*8+i):=by rw[hw.qV.ok.leaf q f i aJ (by omega),Nat.mul_comm]
     rw[lr];refine cM (h:=g1) u5 λg2 cE eN bn=> ?_
     refine cX (q1 (cs:=(T.ent (q*8+i)).vs) cE rfl (by simp[bj.vs]) rfl) λg3 ⟨cO,bR,gp⟩=> ?_
     have cO:=ff cO rfl;have fM:bf g g3:=(bb.trans bn).local bR (λj aO e=>by have:=bb.next;omega);have qw:=ma _ _ _ aN fM;have Gl:=kf _ g3 qw;rw[k1 cO];simp only[ar,rk,J8,ba,decide_eq_true_eq];have ep:dI T.ent (q*8) (i+1)=dI T.ent (q*8) i++if T.ent (q*8+i)=.zero then[]else[q*8+i]:=rfl
     by_cases aP:T.ent (q*8+i)=.zero
     ·rw[if_pos aP];refine aV.pure (.inl ⟨rfl,rfl,?_⟩);rw[ep,if_pos aP,List.append_nil];exact qw
     ·rw[if_neg aP,ep,if_neg aP];rw[if_neg (by decide)];simp only[ar,ba,Bool.false_eq_true,if_false,cW,Obj.get Gl.of (i:=0) rfl,gA,cP];by_cases rI:fr<=((q*8+i:Nat) :Int)
      ·have zN:fu fr (dI T.ent (q*8) i++[q*8+i])=fu fr (dI T.ent (q*8) i)++[q*8+i]:=by rw[vV];simp[fu];omega
       rw[decide_eq_true rI,if_pos rfl,zN];refine fO (P:=λx vs cw=>x=.normal/\∃b,vs=[.bool b]/\((b=false/\I (d++(fu fr (dI T.ent (q*8) i)++[q*8+i])) cw)\/(b=true/\F (d++(fu fr (dI T.ent (q*8) i)++[q*8+i])) cw))) ?_ ?_
       ·simp only[aqf,Obj.get Gl.hV (i:=0) rfl,ar,k1 cO];have aj:dY J 178 [(0,.int .i64 ((q*8+i:Nat) :Int)),(1,(T.ent (q*8+i)).eo)]=some (.agg (eC T (q*8+i))):=abJ _ _ _ _ _ _;rw[aj];simp only[ar]
        have hlen:(d++fu fr (dI T.ent (q*8) i)).length<=4096:=by have:=AP T.ent 0 (q*8) i;rw[Nat.zero_add]at this;rw[aC,show q*8^(4-3)=q*8 by simp,<-vV,<-this];exact Nat.le_trans (aeA _ _ _) (by omega)
        refine b4 (B_ _ _ _ qw hlen aP rI) ?_;rintro v g4 (⟨rfl,aE⟩ |⟨rfl,aE⟩)
        ·simp only[fD,ar];exact aV.pure ⟨rfl,_,rfl,.inl ⟨rfl,by rw[<-List.append_assoc];exact aE⟩⟩
        ·simp only[fD,ar];exact aV.pure ⟨rfl,_,rfl,.inr ⟨rfl,by rw[<-List.append_assoc];exact aE⟩⟩
       ·rintro _ _ g4 ⟨rfl,b,rfl,aj⟩;simp only[bz,bp,cF,if_true,ar,ba];rcases aj with⟨rfl,aE⟩ |⟨rfl,aE⟩
        ·simp only[Bool.false_eq_true,if_false];exact aV.pure (.inl ⟨rfl,rfl,aE⟩)
        ·simp only[if_true];refine aV.pure (.inr ⟨rfl,rfl,fu fr (dI T.ent (q*8) i),q*8+i,fu fr (dI T.ent (q*8+(i+1)) (8-(i+1))),?_,aE⟩);have:=AP T.ent (q*8) (i+1) (8-(i+1));rw[show i+1+(8-(i+1))=8 by omega]at this;rw[this,ep,if_neg aP,vV,zN,List.append_assoc];rfl
      ·have zN:fu fr (dI T.ent (q*8) i++[q*8+i])=fu fr (dI T.ent (q*8) i):=by rw[vV];simp[fu];omega
       rw[decide_eq_false rI,zN];simp only[Bool.false_eq_true,if_false,c4,bz,bp,cF,ar,ba];exact aV.pure (.inl ⟨rfl,rfl,qw⟩)
    ·rintro x vs g1 (⟨rfl,rfl,h1⟩ |⟨rfl,rfl,h1⟩)
     ·simp only[bz,bp,jd,du,aG,ar];exact aV.pure (.inl ⟨rfl,by omega,rfl,h1⟩)
     ·simp only[bz,bp,J7];exact aV.pure (.inr ⟨by simp,.inr ⟨rfl,⟨_,rfl⟩,h1⟩⟩)
  ·have nU:q*8^(4-3)=q*8:=by simp
   have t_:8^(4-3)=8:=by simp
   rintro x vs g (⟨rfl,⟨a,b,rfl⟩,h1⟩ |⟨rfl,⟨b,rfl⟩,h1⟩)
   ·simp only[bz,bp,hs,if_true];exact aV.pure (.inl ⟨rfl,by rw[nU,t_];exact h1⟩)
   ·simp only[bz,bp,pj];exact aV.pure (.inr ⟨rfl,by rw[nU,t_];exact h1⟩)
 |succ k b1=>
  intro l q f d h ay aJ aC B8;refine bh.mk (λe=>Vo (first:=[]) (mid:=[_,_,_]) (cap:=[_,_,_,_]) e rfl) ?_;unfold IL;have xZ:=kf d h B8;have mi:=xZ.qV.ok.lvl _ _ _ aJ;have mf:l<3:=by omega
  have vP:8^(4-l)=8*8^(3-l):=by rw[<-Nat.pow_succ'];congr 1;omega
  refine hX (I:=λi vs g=>vs=[.bool false,.int .i64 (i:Nat)]/\I (d++fu fr (dI T.ent (q*8^(4-l)) (i*8^(3-l)))) g) 8 (by omega)
   (P:=λx vs g=>(x=.exit 0/\(∃a b,vs=[a,b])/\I (d++fu fr (dI T.ent (q*8^(4-l)) (8^(4-l)))) g)\/(x=.ret/\(∃b,vs=[.bool false,b])/\∃a p b,fu fr (dI T.ent (q*8^(4-l)) (8^(4-l)))=a++p::b/\F (d++(a++[p])) g))
   ⟨rfl,by simpa [dI,fu]using B8⟩ ?_ ?_
  ·rintro i vs g af ⟨rfl,aN⟩;simp only[bz,bp,dk,ar,ba,decide_eq_true_eq];by_cases cz:i=8
   ·subst cz;rw[if_neg (by omega)];exact aV.pure (.inr ⟨by simp,.inl ⟨rfl,⟨_,_,rfl⟩,by rw[vP];rw[vP]at aN;exact aN⟩⟩)
   ·rw[if_pos (by omega)];have hw:=kf _ g aN;have aG:b0 .i64 ((i:Int) +1)=((i+1:Nat) :Int):=by rw[wrap_i64 (by omega) (by omega)];simp
    have xR:q<512:=Nat.lt_of_lt_of_le mi.2.1 (Nat.pow_le_pow_right (by omega) (by omega:l<=3));have aT:b0 .i64 ((q:Int) *8)=((q*8:Nat) :Int):=by rw[wrap_i64 (by omega) (by omega)];simp
    have bJ:b0 .i64 (((q*8:Nat) :Int) +(i:Int))=((8*q+i:Nat) :Int):=by rw[wrap_i64 (by omega) (by omega)];omega
    have e0:b0 .i64 ((l:Int) +1)=((l+1:Nat) :Int):=by rw[wrap_i64 (by omega) (by omega)];simp
    have ep:dI T.ent (q*8^(4-l)) ((i+1) *8^(3-l))=dI T.ent (q*8^(4-l)) (i*8^(3-l))++dI T.ent (q*8^(4-l) +i*8^(3-l)) (8^(3-l)):=by rw[Nat.succ_mul,AP]
    have ag3:dI T.ent (q*8^(4-l)) (8^(4-l))=dI T.ent (q*8^(4-l)) ((i+1) *8^(3-l))++dI T.ent (q*8^(4-l) +(i+1) *8^(3-l)) ((7-i) *8^(3-l)):=by rw[<-AP,<-Nat.add_mul,show i+1+(7-i)=8 by omega,vP]
    refine fO (P:=λx vs cw=>(x=.normal/\vs=[.bool false]/\I (d++fu fr (dI T.ent (q*8^(4-l)) ((i+1) *8^(3-l)))) cw)\/(x=.ret/\vs=[.bool false]/\∃a p b,fu fr (dI T.ent (q*8^(4-l)) (8^(4-l)))=a++p::b/\F (d++(a++[p])) cw)) ?_ ?_
    ·simp only[nh,du,aT,bJ,ar,m4,Obj.get hw.hf (i:=0) rfl];refine b4 (BR hw.ps hw.qV.obj hw.qV.lt mi.2.2 (hw.qV.held _ ⟨_,_,aJ⟩) (show i<8 by omega)) ?_;rintro _ g1 ⟨rfl,bb⟩;have qx:=hw.qV.ok.s9 l q f i mf aJ (by omega);refine cM (h:=g1) u5 λg2 cE eN bn=> ?_
     refine cX (q1 (cs:=(gC mem f i).vs) cE rfl (by simp[bj.vs]) rfl) λg3 ⟨cO,bR,gp⟩=> ?_
     have cO:=ff cO rfl;have fM:bf g g3:=(bb.trans bn).local bR (λj aO e=>by have:=bb.next;omega);have qw:=ma _ _ _ aN fM;have Gl:=kf _ g3 qw;rw[k1 cO];simp only[ar,rk,J8,ba,decide_eq_true_eq];cases kx:T.bd (l+1) (8*q+i)with
     |none=>
      rw[kx]at qx;rw[if_pos qx];refine aV.pure (.inl ⟨rfl,rfl,?_⟩);rw[ep,apu hw.qV.ok mf (by omega) kx,List.append_nil];exact qw
     |some ht=>
      rw[kx]at qx;rw[if_neg (by rw[qx];exact VP ht)];have ed:((l:Nat) :Int) <3:=by omega
      have fp:bP g3 g1.next 4=some (.int .i64 (ht:Nat)):=by rw[Obj.get cO (i:=4) rfl,qx];rfl
      simp only[dk,ar,ba,decide_eq_true_eq,if_pos ed,Yy,Obj.get Gl.wC (i:=0) rfl,l0,Nat.zero_add,cW,fp,du,e0]
      have S2:(8*q+i) *8^(4-(l+1))=q*8^(4-l) +i*8^(3-l):=by rw[show 4-(l+1)=3-l by omega,vP,Nat.add_mul,Nat.mul_comm 8 q,Nat.mul_assoc]
      have UN:=b1 (l+1) (8*q+i) ht _ g3 (by omega) kx (by
       have:=AP T.ent 0 (q*8^(4-l)) (i*8^(3-l));rw[Nat.zero_add]at this
       rw[S2,this,vV,<-aC]) qw
      rw[S2,show 4-(l+1)=3-l by omega]at UN;refine b4 UN ?_;rintro v g4 (⟨rfl,aE⟩ |⟨rfl,a,p,b,hO,aE⟩)
      ·simp only[fD,Bool.not_true,ar,ba,Bool.false_eq_true,if_false];refine aV.pure (.inl ⟨rfl,rfl,?_⟩);rw[ep,vV,<-List.append_assoc];exact aE
      ·simp only[fD,Bool.not_false,ar,ba,if_true];refine aV.pure (.inr ⟨rfl,rfl,fu fr (dI T.ent (q*8^(4-l)) (i*8^(3-l)))++a,p,b++fu fr (dI T.ent (q*8^(4-l) +(i+1) *8^(3-l)) ((7-i) *8^(3-l))),?_,?_⟩)
       ·rw[ag3,vV,ep,vV,hO];simp
       ·rw[List.append_assoc]at aE;simpa using aE
    ·rintro x vs g1 (⟨rfl,rfl,h1⟩ |⟨rfl,rfl,h1⟩)
     ·simp only[bz,bp,jd,du,aG,ar];exact aV.pure (.inl ⟨rfl,by omega,rfl,h1⟩)
     ·simp only[bz,bp,J7];exact aV.pure (.inr ⟨by simp,.inr ⟨rfl,⟨_,rfl⟩,h1⟩⟩)
  ·rintro x vs g (⟨rfl,⟨a,b,rfl⟩,h1⟩ |⟨rfl,⟨b,rfl⟩,h1⟩)
   ·simp only[bz,bp,hs,if_true];exact aV.pure (.inl ⟨rfl,h1⟩)
   ·simp only[bz,bp,pj];exact aV.pure (.inr ⟨rfl,h1⟩)
end
end
section
set_option maxRecDepth 100000
variable{PV:cn} [cN PV]
section
variable{A:gw}{mem held:Nat->Nat}{free:Nat}{t nn:Nat}{T:dt}{tb fb:Nat}{fr:Int}{yv:aa}
theorem X0{I F:List Nat->ae->Prop}{S:Nat->Prop}{h:ae}(aq:yv.cells=[yv])(fw:fr<=4096)
  (kf:∀d g,I d g->fI g A mem held free/\nf g A mem held t nn T/\tb<g.next/\fb<g.next/\a8.Obj g tb [.ptr t 0]/\a8.Obj g fb [.int .i64 fr])
  (ma:∀d g cw,I d g->bf g cw->I d cw) (dq:∀i,S i->i<h.next)
  (B_:∀d p g,I d g->h.next+2<=g.next->d.length<=4096->T.ent p≠.zero->fr<=(p:Int)->bh (call J PV yv [.agg (eC T p)] g) λv cw=>aM (λi=>S i\/h.next+2<=i) g cw/\((v=.bool true/\I (d++[p]) cw)\/(v=.bool false/\F (d++[p]) cw)))
  (h0:I [] h) :
  bh (call J PV (.func 257 [] [.ptr tb 0,.ptr fb 0]) [yv] h) λv g=>v=.undef/\(I (fu fr (dI T.ent 0 4096)) g\/∃a p b,fu fr (dI T.ent 0 4096)=a++p::b/\F (a++[p]) g):=by
 refine bh.mk (λe=>ajW (first:=[]) (mid:=[_]) (cap:=[_,_]) e rfl) ?_;unfold QP;refine cM (apW (cs:=[yv]) aq) λg1 ct dR bb=> ?_
 have i1:=ma _ _ _ h0 bb;obtain⟨s1,bU,gM,hR,hf,of⟩:=kf _ _ i1;have rt:=Obj.get hf (i:=0) rfl;have r0:=Obj.get bU.obj (i:=0) rfl;simp only[m4,rt,ar,YE,cP,if_true,cl,wW,ha,r0,YD,c4,bz,bp,cF,Bool.false_eq_true,if_false,ba];refine cM (h:=g1) apJ λg2 cE eN bn=> ?_
 refine cX (aqC (v:=.func 258 [] [.ptr tb 0,.ptr g1.next 0,.ptr fb 0,.ptr h.next 0]) cE (by simp) rfl rfl) λg3 ⟨cO,bR,gp⟩=> ?_
 have cO:a8.Obj g3 g1.next [.func 258 [] [.ptr tb 0,.ptr g1.next 0,.ptr fb 0,.ptr h.next 0]]:=cO;have kW:h.next<=g1.next:=bb.next;have cf:bf g3 (g3.aB 6):=aM.aB _ _ _;have k9:bf g1 g3:=bn.local bR (λi af e=>by omega);have i4:=ma _ _ _ i1 (k9.trans cf);have hU:(g3.aB 6).next=g3.next+6:=rfl
 have amY:=ct.ext (k9.trans cf) (by omega);have Wx:=cO.ext cf (by omega);obtain⟨m2,mD,atO,atP,amQ,at6⟩:=kf _ _ i4
 have root:T.bd 0 0=some (nodeAt T 0 0):=by have:=wA (T:=T) (p:=0) (l:=0) (by rw[yp (by omega)];exact mD.ok.root);rwa[yp (by omega)]at this
 have H:=ah4 (A:=A) (mem:=mem) (held:=held) (free:=free) (t:=t) (nn:=nn) (T:=T) (tb:=tb) (ib:=g1.next) (fb:=fb) (yb:=h.next) (fr:=fr) (yv:=yv)
  (I:=λd g=>I d g/\h.next+2<=g.next/\a8.Obj g h.next [yv]/\a8.Obj g g1.next [.func 258 [] [.ptr tb 0,.ptr g1.next 0,.ptr fb 0,.ptr h.next 0]]) (F:=F)
  (λd g ⟨aC,aw,hV,wC⟩=>by
    obtain⟨ao,a2,a3,a4,a5,hZ⟩:=kf _ _ aC
    exact⟨ao,a2,⟨a3,by omega,a4,by omega⟩,a5,wC,hZ,hV⟩)
  (λd g cw ⟨aC,aw,hV,wC⟩ u=>⟨ma _ _ _ aC u,Nat.le_trans aw u.next,hV.ext u (by omega),wC.ext u (by omega)⟩)
  (λd p g ⟨aC,aw,hV,wC⟩ hlen aP rI=>(B_ d p g aC aw hlen aP rI).mono λv cw ⟨u,ai⟩=>by
    rcases ai with⟨rfl,ai⟩ |⟨rfl,ai⟩
    ·refine .inl ⟨rfl,ai,Nat.le_trans aw u.next,hV.az u (by omega) ?_,wC.az u (by omega) ?_⟩
     ·rintro(e|e)
      ·have:=dq _ e;omega
      ·omega
     ·rintro(e|e)
      ·have:=dq _ e;omega
      ·omega
    ·exact .inr ⟨rfl,ai⟩)
  3 0 0 (nodeAt T 0 0) [] (g3.aB 6) rfl root (by simp[dI,fu]) ⟨i4,by omega,amY,Wx⟩
 simp only[Yy,Obj.get Wx (i:=0) rfl,m4,Obj.get amQ (i:=0) rfl,cl,ar,Om,Nat.zero_add,cW,Obj.get mD.obj (i:=1) rfl];refine b4 H ?_;rintro v g5 ai;simp only[eh];have aG:0*8^(4-0)=0:=by omega
 have aT:8^(4-0)=4096:=by decide
 rw[aG,aT]at ai;simp only[List.nil_append]at ai;rcases ai with⟨_,ai,_⟩ |⟨_,ai⟩
 ·exact aV.pure ⟨rfl,.inl ai⟩
 ·exact aV.pure ⟨rfl,.inr ai⟩
theorem X2(h:ae)(t:Nat)(fr:Int) :bh (call J PV (.func 171 [] []) [.ptr t 0,.int .i64 fr] h) λv g=>v=.func 257 [] [.ptr h.next 0,.ptr (h.next+1) 0]/\bf h g/\g.next=h.next+2/\a8.Obj g h.next [.ptr t 0]/\a8.Obj g (h.next+1) [.int .i64 fr]:=by
 refine bh.mk (λe=>aji (first:=[]) (cap:=[]) e rfl) ?_;unfold Qd;refine cM (apP (cs:=[.ptr t 0]) rfl) λg1 ct dR bb=> ?_
 refine cM (yC (cs:=[.int .i64 fr]) rfl) λg2 cE eN bn=> ?_
 rw[dR]at cE|-;exact aV.pure ⟨rfl,bb.trans bn,by omega,ct.ext bn (by omega),cE⟩
end
noncomputable def pd:Code:=R4 Tryz.f95
noncomputable def h_:Code:=d_ (d' (d_ (d' (d' pd))))
theorem acg:Tryz.f95.body=some (.seq (d_ pd) (.seq (d_ (d' pd)) (.seq (.seq (d_ (d_ (d' (d' pd)))) (.block 0 h_)) (.seq (d_ (d' (d' (d' pd)))) .ret)))):=by kernel_rfl
theorem anE:h_=.rangeFunc (.tmp 6) #[7] (d_ h_) (d' h_):=by kernel_rfl
def IU(x:aa)(v3:aa)(h:ae) :Option a1:=
 ca (dz J 178) h λv4 h1=>
 U (bN J h1 178 v4 x) λab=>
 some (.normal,[v3,v4],ab)
def IV(v3 v4:aa)(h:ae) :Option a1:=
 U (ak J h 175 v3) λbA=>
 U (ak J h 178 v4) λv9=>
 ca (lg J 175 1 [(0,v9)]) h λv10 h1=>
 a7 (h2 J h1 175 175 bA v10) λv11 ab=>
 U (bN J ab 175 v3 v11) λal=>
 some (.normal,[],al)
theorem acZ(C:bW)(a0:aa)(h:ae) :den J C 13 (.ah []) (d_ pd) (lT [0]) (pR [(0,a0)]) h=some (.normal,[a0],h):=by kernel_rfl
theorem ac0(C:bW)(a0:aa)(h:ae) :den J C 13 (.ah []) (d_ (d' pd)) (lT [0,3]) (pR [(0,a0)]) h=ca (dz J 175) h λv h1=>some (.normal,[a0,v],h1):=by kernel_rfl
theorem ac1(C:bW)(a0 v3:aa)(h:ae) :den J C 13 (.ah []) (d_ (d_ (d' (d' pd)))) (lT [3,6]) (pR [(0,a0),(3,v3)]) h=a7 (C (.func 171 [] []) [a0,.int .i64 0] h) λv6 h1=>some (.normal,[v3,v6],h1):=by kernel_rfl
theorem ac2(C:bW)(v3 x:aa)(h:ae) :den J C 13 (.ah []) (d_ h_) (lT [3,4]) (pR [(3,v3),(7,x)]) h=IU x v3 h:=by kernel_rfl
theorem ac3(C:bW)(v3 v4:aa)(h:ae) :den J C 13 (.dW (.ah [])) (d' h_) (lT []) (pR [(3,v3),(4,v4)]) h=IV v3 v4 h:=by kernel_rfl
theorem ac4(C:bW)(v3:aa)(h:ae) :den J C 13 (.ah []) (d_ (d' (d' (d' pd)))) (lT [2]) (pR [(3,v3)]) h=U (ak J h 175 v3) λv=>some (.normal,[v],h):=by kernel_rfl
theorem ani{h:ae}{lo:Nat}{v:aa}{rows:List (List aa)}(r:Row h 6 lo v rows){xid xcap:Nat}{xex:Bool}{new:List aa}(fo:a8.Obj h xid new)(jx:new.length=6)(aA:new.all dH=true)(an:rows.length<=2^30)(e1:lo<=h.next) :
  ∃w g,h2 J h 175 175 v (.slice xid 0 1 xcap 6 xex)=some (w,g)/\(Row g 6 lo w (rows++[new])/\aM (λi=>lo<=i) h g/\g.next=h.next+1):=
 Row.push (si:=sc) (ie:=tC) (by kernel_rfl) rfl (by kernel_rfl) rfl (by decide) r fo jx aA (by
  unfold roomy;rw[Bool.and_eq_true,ec,ec];show(2*(rows.length+1) +200) *24<=140737488355328/\1<=24
  omega) e1
theorem ab1{cs:List aa}(aH:cs.length=6) :lg J 175 1 [(0,.agg cs)]=some (λid=>aa.slice id 0 1 1 6 true,.cells cs.length false [] (bu.ofList cs)):=by
 have k:∀a b c d e f:aa,lg J 175 1 [(0,.agg [a,b,c,d,e,f])]=some (λid=>aa.slice id 0 1 1 6 true,.cells 6 false [] (bu.ofList [a,b,c,d,e,f])):=λa b c d e f=>by kernel_rfl
 match cs,aH with
 |[a,b,c,d,e,f],_=>exact k a b c d e f
theorem Yx(h:ae)(id off:Nat) :ak J h 175 (.ptr id off)=bP h id off:=hS (i:=sc) (by kernel_rfl) rfl h id off
theorem aqx{h:ae}{id k:Nat}{l:List aa}(o:a8.Obj h id l)(av:k<l.length){v:aa}(aH:v.cells=[v])(ai:dH v=true) :∃g,bN J h 175 (.ptr id k) v=some g/\(a8.Obj g id (l.set k v)/\aM (λj=>j=id) h g/\g.next=h.next):=qU (i:=sc) (by kernel_rfl) rfl o av aH ai
theorem ar9{g:ae}{l v3 d lo:Nat}{r:bE}{iQ:aa}{rows:List (List aa)}{cs:List aa}(ay:g.get l=.loop .ready none 13 r #[7] (d_ h_) (d' h_) d)(al:bE.get r 3=.ptr v3 0)(cO:a8.Obj g v3 [iQ])(Ds:Row g 6 lo iQ rows)
  (h1:v3<lo) (ab:l<lo) (c':v3≠l) (e1:lo<=g.next) (hlen:rows.length<=4096) (gj:cs.length=6) (s6:cs.all dH=true) :
  ∃cw,call J PV (.yield l) [.agg cs] g=some (.bool true,cw)/\cw.get l=.loop .ready none 13 r #[7] (d_ h_) (d' h_) d/\(∃u4,a8.Obj cw v3 [u4]/\Row cw 6 lo u4 (rows++[cs]))/\aM (λi=>i=l\/i=v3\/lo<=i) g cw:=by
 have aI:wU (#[7] :Array Tmp).toList [.agg cs] 13 r=some (r.set 7 (.agg cs)):=rfl
 obtain⟨_,_,g2,kT,rfl,rfl,dG,bn,eN⟩ :aV (IU (.agg cs) (.ptr v3 0) g) λx vs g2=>x=.normal/\vs=[.ptr v3 0,.ptr g.next 0]/\a8.Obj g2 g.next cs/\bf g g2/\g2.next=g.next+1:=by
  unfold IU;refine cM r_ λg1 ct dR bb=> ?_
  refine cX (q2 ct gj (by simp[gj]) s6) λg2 ⟨cE,bn,eN⟩=> ?_
  exact aV.pure ⟨rfl,rfl,ff cE (by simp[gj]),bb.local bn (λi af e=>by omega),by omega⟩
 obtain⟨s1,Ko,rJ,mj,KT,CO⟩:=piece (p:=PV) (E:=J) (ro:=some l) (s:={r:=r.set 7 (.agg cs),n:=13,ds:=[],h:=g}) ((ac2 (call J PV) (.ptr v3 0) (.agg cs) g).trans kT) (qJ (by
  intro q aF;simp only[List.mem_cons,List.not_mem_nil,or_false]at aF;rcases aF with rfl|rfl
  ·show bE.get (bu.set r 7 _) 3=_;rw[Ks _ _ (by decide)];exact al
  ·exact Kt _ _ _)) rfl
 simp only[List.map_cons,List.map_nil,List.cons.injEq,and_true]at CO;obtain⟨b3,c7⟩:=CO;have oT:g2.get l=.loop .ready none 13 r #[7] (d_ h_) (d' h_) d:=by rw[bn.get l (by omega) (λe=>e)];exact ay
 let ll:=g2.put l (.loop .busy none 13 r #[7] (d_ h_) (d' h_) d);have l1:aM (λi=>i=l) g2 ll:=aM.put _ rfl;have Wm:a8.Obj ll v3 [iQ]:=(cO.ext bn (by omega)).az l1 (by omega) c';have MW:a8.Obj ll g.next cs:=dG.az l1 (by omega) (by omega);have dO:Row ll 6 lo iQ rows:=(Ds.ext bn).az l1 (λi sL xw e=>by omega);have wy:ll.next=g.next+1:=eN
 obtain⟨_,_,g3,oM,rfl,rfl,⟨u4,eH,hI⟩,bR⟩ :aV (IV (.ptr v3 0) (.ptr g.next 0) ll) λx vs g3=>x=.normal/\vs=[]/\(∃u4,a8.Obj g3 v3 [u4]/\Row g3 6 lo u4 (rows++[cs]))/\aM (λi=>i=v3\/lo<=i) ll g3:=by
  unfold IV;simp only[Yx,Obj.get Wm (i:=0) rfl,ar];rw[sb MW (by omega)];rw[show(List.drop 0 cs).take 6=cs by rw[List.drop_zero,List.take_of_length_le (by omega)]];simp only[ar];refine cM (ab1 gj) λg4 uP hU bO=> ?_
  have anJ:=dO.ext bO;obtain⟨w,g5,fJ,hI,cD,n5⟩:=ani anJ (xcap:=1) (xex:=true) uP gj s6 (by omega) (by omega);refine b4 (P:=λv g=>v=w/\g=g5) ⟨w,g5,fJ,rfl,rfl⟩ ?_;rintro aZ aeK ⟨Ka,J5⟩;rw[Ka,J5];have C':=(Wm.ext bO (by omega)).az cD (by omega) (by omega)
  have hw:w.cells=[w]/\dH w=true:=by rcases hI.2 with⟨rfl,_⟩ |⟨b,rfl,_⟩<;>exact⟨rfl,rfl⟩
  refine cX (aqx C' (by simp) hw.1 hw.2) λg6 ⟨eO,cJ,n6⟩=> ?_
  have:=bO.next;refine aV.pure ⟨rfl,rfl,⟨w,eO,hI.az cJ (λi sL xw e=>by omega)⟩,?_⟩;exact((aM.ext bO).trans (cD.mono λi _ e=>.inr e)).trans (cJ.mono λi _ e=>.inl e)
 obtain⟨s2,Kq,px,qz,KU,ahu⟩:=piece (p:=PV) (E:=J) (ro:=some l) (s:={s1 with h:=ll}) ((ac3 (call J PV) (.ptr v3 0) (.ptr g.next 0) ll).trans oM) (qJ (by
  intro q aF;simp only[List.mem_cons,List.not_mem_nil,or_false]at aF;rcases aF with rfl|rfl
  ·exact b3.symm
  ·exact c7.symm)) mj
 have mf:g3.get l=.loop .busy none 13 r #[7] (d_ h_) (d' h_) d:=by rw[bR.get l (by omega) (by omega)];exact ln _ _ _
 have aq:=Sk (E:=J) (p:=PV) (l:=l) (g:=g) ay aI Ko (by rw[rJ];exact oT) (by rw[rJ];exact Kq) (by rw[KU];exact KT) (by rw[px];exact mf);refine⟨_,aq,ln _ _ _,⟨u4,?_,?_⟩,?_⟩
 ·rw[px];exact eH.pV (ke c')
 ·rw[px];exact hI.az (aM.put (S:=λi=>i=l) _ rfl) (λi sL xw e=>by omega)
 ·rw[px];refine((aM.ext bn).trans (l1.mono λi _ e=>.inl e)).trans ((bR.mono λi _ e=>.inr e).trans (aM.put _ (.inl rfl)))
theorem apb(T:dt)(p:Nat) :(eC T p).length=6/\(eC T p).all dH=true:=⟨rfl,rfl⟩
theorem aeB{fr:Int}(h:fr<=0)(l:List Nat) :fu fr l=l:=List.filter_eq_self.2 λp _=>by simp;omega
section
variable{A:gw}{mem held:Nat->Nat}{free:Nat}{t nn:Nat}{T:dt}
theorem EJ{h:ae}(s:fI h A mem held free)(x:nf h A mem held t nn T) :
  bh (call J PV (.func 95 [] []) [.ptr t 0] h) λv g=>Row g 6 h.next v ((dI T.ent 0 4096).map (eC T))/\bf h g:=by
 have aj:=s.p.lt;have z0:=s.w.lt;have aW:=x.lt;let gb:cU:={r:=r7 [.ptr t 0] 0 .nil,n:=13,ds:=[],h}
 obtain⟨s1,Fz,rJ,mj,zG,iH⟩:=piece (p:=PV) (E:=J) (ro:=none) (s:=gb) (acZ (call J PV) (.ptr t 0) h) (qJ (by
  intro q aF;simp only[List.mem_cons,List.not_mem_nil,or_false]at aF;subst aF;rfl)) rfl
 simp only[List.map_cons,List.map_nil,List.cons.injEq,and_true]at iH;let h1:=h.new (.cells 1 false [] (bu.ofList [aa.bI]));have ct:a8.Obj h1 h.next [.bI]:=Obj.new h [.bI] false [];have bb:bf h h1:=aM.new _ _ _;have ado:dz J 175=some (λid=>aa.ptr id 0,.cells 1 false [] (bu.ofList [aa.bI])):=nP (i:=sc) (by kernel_rfl) rfl
 obtain⟨s2,aeM,px,qz,KP,pH⟩:=piece (p:=PV) (E:=J) (ro:=none) (s:=s1) (g:=h1) (vs:=[.ptr t 0,.ptr h.next 0]) (x:=.normal) (by
  rw[rJ]
  exact(ac0 (call J PV) (.ptr t 0) h).trans (by rw[ado];rfl)) (qJ (by
  intro q aF;simp only[List.mem_cons,List.not_mem_nil,or_false]at aF;subst aF;exact iH.symm)) mj
 simp only[List.map_cons,List.map_nil,List.cons.injEq,and_true]at pH;obtain⟨nA,b3⟩:=pH;obtain⟨_,g2,BO,rfl,bn,eN,hf,of⟩:=X2 h1 t 0;have alN:h1.next=h.next+1:=rfl
 obtain⟨dE,FA,sX,s0,zH,oc⟩:=piece (p:=PV) (E:=J) (ro:=none) (s:=s2) (g:=g2) (vs:=[.ptr h.next 0,.func 257 [] [.ptr h1.next 0,.ptr (h1.next+1) 0]]) (x:=.normal) (by
  rw[px]
  exact(ac1 (call J PV) (.ptr t 0) (.ptr h.next 0) h1).trans (by rw[BO];rfl)) (qJ (by
  intro q aF;simp only[List.mem_cons,List.not_mem_nil,or_false]at aF;rcases aF with rfl|rfl
  ·exact nA.symm
  ·exact b3.symm)) (qz.trans mj)
 simp only[List.map_cons,List.map_nil,List.cons.injEq,and_true]at oc;obtain⟨L3,x5⟩:=oc;let Ah:bT:=.loop .ready none dE.n dE.r #[7] (d_ h_) (d' h_) g2.next;have xV:dE.n=13:=(s0.trans qz).trans mj;let ay:=(g2.new .deferred).new Ah;have alO:ay.next=g2.next+2:=rfl;have ul:bf g2 ay:=(aM.new _ _ _).trans (aM.new _ _ _);have Bc:bf h ay:=(bb.trans bn).trans ul;have FC:ay.get (g2.next+1)=.loop .ready none 13 dE.r #[7] (d_ h_) (d' h_) g2.next:=by rw[<-xV];exact ks _ _
 have G':a8.Obj ay h.next [.bI]:=(ct.ext bn (by omega)).ext ul (by omega)
 have W:=X0 (A:=A) (mem:=mem) (held:=held) (free:=free) (t:=t) (nn:=nn) (T:=T) (tb:=h1.next) (fb:=h1.next+1) (fr:=0) (yv:=.yield (g2.next+1)) (h:=ay)
  (I:=λd g=>aM (λi=>i=g2.next+1\/i=h.next\/ay.next+2<=i) ay g/\g.get (g2.next+1)=.loop .ready none 13 dE.r #[7] (d_ h_) (d' h_) g2.next/\∃iQ,a8.Obj g h.next [iQ]/\Row g 6 (ay.next+2) iQ (d.map (eC T)))
  (F:=λ_ _=>False) (S:=λi=>i=g2.next+1\/i=h.next) rfl (by omega)
  (λd g ⟨u,_,_⟩=>by
    have hu:=u.next;have us:aM (λi=>i=g2.next+1\/i=h.next\/ay.next+2<=i) h g:=(aM.ext Bc).trans u
    exact⟨s.c0 us ⟨by omega,by omega,by omega,by omega⟩,⟨Obj.az x.obj us aW (by omega),by omega,x.ok,x.held⟩,by omega,by omega,
     (hf.ext ul (by omega)).az u (by omega) (by omega),(of.ext ul (by omega)).az u (by omega) (by omega)⟩)
  (λd g cw ⟨u,aN,iQ,o,r⟩ Bb=>⟨u.trans (aM.ext Bb),by rw[Bb.get _ (by have:=u.next;omega) (λe=>e)];exact aN,iQ,o.ext Bb (by have:=u.next;omega),r.ext Bb⟩)
  (λi af=>by omega)
  (λd p g ⟨u,aN,iQ,o,r⟩ aw hlen aP rI=>by
    obtain⟨cw,aG,aT,⟨u4,cg,cR⟩,eD⟩:=ar9 (cs:=eC T p) aN L3.symm o r (by omega) (by omega) (by omega) aw (by simpa using hlen) rfl rfl
    exact⟨_,cw,aG,eD.mono λi _ e=>by omega,Or.inl ⟨rfl,u.trans eD,aT,u4,cg,by simpa using cR⟩⟩)
  ⟨aM.refl _ _,FC,.bI,G',Row.nil _ _ _⟩
 obtain⟨_,g3,qp,rfl,hw⟩:=W;rcases hw with⟨bR,qw,iQ,cO,eS⟩ |⟨_,_,_,_,aJ⟩
 ·rw[aeB (by omega)]at eS;have CM:=bR.next
  have G:=Kv (E:=J) (p:=PV) (s:=dE) (f:=.tmp 6) (params:= #[7]) (assign:=d_ h_) (body:=d' h_) (fv:=.func 257 [] [.ptr h1.next 0,.ptr (h1.next+1) 0]) (by show some (bE.get dE.r 6)=_;rw[<-x5]) (v:=.undef) (h1:=g3)
   (by rw[sX];exact qp) (st:=.ready) (pend:=none) (n:=13) (r:=dE.r) (ps:= #[7]) (a:=d_ h_) (b:=d' h_) (d:=g2.next) (by rw[sX];exact qw) (by simp) (x:=.normal) (s2:={dE with h:=g3.put (g2.next+1) (.loop .exhausted none 13 dE.r #[7] (d_ h_) (d' h_) g2.next),ds:=[g2.next]}) ⟨rfl,by rw[sX,zH,KP,zG]⟩
  let g4:=g3.put (g2.next+1) (.loop .exhausted none 13 dE.r #[7] (d_ h_) (d' h_) g2.next);have bO:aM (λi=>i=g2.next+1) g3 g4:=aM.put _ rfl;have dG:a8.Obj g4 h.next [iQ]:=cO.az bO (by omega) (by omega);have fp:=eS.az bO (λi a b e=>by omega)
  obtain⟨j6,Kp,Cj,uu,KQ,jZ⟩:=piece (p:=PV) (E:=J) (ro:=none) (s:={dE with h:=g4,ds:=[g2.next]}) (g:=g4) (vs:=[iQ]) (x:=.normal) ((ac4 (call J PV) (.ptr h.next 0) g4).trans (by rw[Yx,Obj.get dG (i:=0) rfl];rfl)) (qJ (by
   intro q aF;simp only[List.mem_cons,List.not_mem_nil,or_false]at aF;subst aF;exact L3.symm)) xV
  simp only[List.map_cons,List.map_nil,List.cons.injEq,and_true]at jZ
  have sP:iA J PV none (.seq (d_ pd) (.seq (d_ (d' pd)) (.seq (.seq (d_ (d_ (d' (d' pd)))) (.block 0 h_)) (.seq (d_ (d' (d' (d' pd)))) .ret)))) gb .ret j6:=by refine ru Fz (ru aeM (ru (ru FA (Ku ?_ (.inl rfl))) (ru Kp ⟨1,rfl⟩)));rw[anE];exact G
  have vZ:g4.get g2.next=.deferred:=by show(g3.put (g2.next+1) _).get g2.next=_;rw[ke (by omega),bR.get _ (by omega) (by omega)];show((g2.new .deferred).new Ah).get g2.next=_;rw[ug (by show g2.next<g2.next+1;omega),ks]
  let g5:=g4.put g2.next .dead
  have KS:nT j6.ds j6.h=some g5:=by rw[KQ,Cj];show nT [g2.next] g4=_;unfold nT;rw[vZ];rfl
  refine⟨iQ,g5,JC (vs:=[iQ]) (show J.fn 95=some Tryz.f95 by kernel_rfl) (show PV 95=none from b' rfl (by kernel_rfl)) acg (args:=[.ptr t 0]) sP (.inr rfl) KS ?_ rfl,?_,?_⟩
  ·show jB J j6.r g5 [.tmp 2]=_;unfold jB jB;rw[<-jZ]
  ·have:Row g5 6 (ay.next+2) iQ ((dI T.ent 0 4096).map (eC T)):=fp.az (aM.put (S:=λi=>i=g2.next) _ rfl) (λi a b e=>by omega);exact⟨this.1,this.2.imp id λ⟨b,sL,xw,ry,xx⟩=>⟨b,sL,by omega,ry,xx⟩⟩
  ·refine aM.local (T:=λi=>i=g2.next+1\/i=h.next\/ay.next+2<=i\/i=g2.next) Bc ((bR.mono λi _ e=>by omega).trans ((bO.mono λi _ e=>.inl e).trans (aM.put _ (.inr (.inr (.inr rfl)))))) (λi af e=>by omega)
 ·exact aJ.elim
end
end
section
set_option maxRecDepth 100000
variable{PV:cn} [cN PV]
noncomputable def pc:Code:=R4 Tryz.f108
noncomputable def gx:Code:=d_ (d' (d_ (d' pc)))
theorem Sf:Tryz.f108.body=some (.seq (d_ pc) (.seq (.seq (d_ (d_ (d' pc))) (.block 0 gx)) (.seq (d_ (d' (d' pc))) .ret))):=by kernel_rfl
theorem W2:gx=.rangeFunc (.tmp 9) #[10] (d_ gx) (d' gx):=by kernel_rfl
def IB(x v4 v5:aa)(h:ae) :Option a1:=
 ca (dz J 178) h λv6 h1=>
 U (bN J h1 178 v6 x) λab=>
 some (.normal,[v4,v5,v6],ab)
def IC(v4 v5 v6:aa)(h:ae) :Option a1:=
 U (ak J h 178 v6) λv11=>
 U (bN J h 178 v4 v11) λh1=>
 U (bN J h1 4 v5 (.bool true)) λab=>
 some (.ret,[],ab)
def ID(v4 v5:aa)(h:ae) :Option a1:=
 U (dY J 178 []) λv12=>
 U (bN J h 178 v4 v12) λh1=>
 U (bN J h1 4 v5 (.bool false)) λab=>
 some (.normal,[v4,v5],ab)
theorem acT(C:bW)(a0 ao:aa)(h:ae) :den J C 13 (.ah []) (d_ pc) (lT [0,1,4,5]) (pR [(0,a0),(1,ao)]) h=ca (dz J 178) h λv h1=>ca (dz J 4) h1 λw ab=>some (.normal,[a0,ao,v,w],ab):=by kernel_rfl
theorem acU(C:bW)(a0 ao v4 v5:aa)(h:ae) :den J C 13 (.ah []) (d_ (d_ (d' pc))) (lT [4,5,9]) (pR [(0,a0),(1,ao),(4,v4),(5,v5)]) h=a7 (C (.func 171 [] []) [a0,ao] h) λv h1=>some (.normal,[v4,v5,v],h1):=by kernel_rfl
theorem acV(C:bW)(v4 v5 x:aa)(h:ae) :den J C 13 (.ah []) (d_ gx) (lT [4,5,6]) (pR [(4,v4),(5,v5),(10,x)]) h=IB x v4 v5 h:=by kernel_rfl
theorem acW(C:bW)(v4 v5 v6:aa)(h:ae) :den J C 13 (.dW (.seq (.ah []) .leaf)) (d' gx) (lT []) (pR [(4,v4),(5,v5),(6,v6)]) h=IC v4 v5 v6 h:=by kernel_rfl
theorem acX(C:bW)(v4 v5:aa)(h:ae) :den J C 13 (.ah []) (d_ (d' (d' pc))) (lT [4,5]) (pR [(4,v4),(5,v5)]) h=ID v4 v5 h:=by kernel_rfl
theorem H5{h:ae}{id k:Nat}{l:List aa}(o:a8.Obj h id l)(av:k<l.length)(b:Bool) :∃g,bN J h 4 (.ptr id k) (.bool b)=some g/\(a8.Obj g id (l.set k (.bool b))/\aM (λj=>j=id) h g/\g.next=h.next):=qU (i:=yK) (by kernel_rfl) rfl o av rfl rfl
theorem OE{h:ae}{id k:Nat}{l cs:List aa}(o:a8.Obj h id l)(ay:cs.length=6)(av:k+cs.length<=l.length)(ai:cs.all dH=true) :∃g,bN J h 178 (.ptr id k) (.agg cs)=some g/\(a8.Obj g id (l.take k++cs++l.drop (k+cs.length))/\aM (λj=>j=id) h g/\g.next=h.next):=tt (i:=tC) (by kernel_rfl) (by decide) o ay av ai
def i_:List aa:=[.int .i64 0,.bool false,.bool false,.bool false,.bool false,.int .i64 0]
theorem R1:dY J 178 []=some (.agg i_):=by kernel_rfl
theorem RH:dz J 178=some (λid=>aa.ptr id 0,.cells i_.length false [] (bu.ofList i_)):=nP (i:=tC) (by kernel_rfl) rfl
theorem aba:dz J 4=some (λid=>aa.ptr id 0,.cells [aa.bool false].length false [] (bu.ofList [aa.bool false])):=nP (i:=yK) (by kernel_rfl) rfl
theorem ar8{g:ae}{l v4 v5 d:Nat}{r:bE}{jq cs:List aa}{kP:aa}(ay:g.get l=.loop .ready none 13 r #[10] (d_ gx) (d' gx) d)(aE:bE.get r 4=.ptr v4 0)(aL:bE.get r 5=.ptr v5 0)(dG:a8.Obj g v4 jq)(KH:jq.length=6)(eH:a8.Obj g v5 [kP])
  (aiC:v4<g.next) (aiD:v5<g.next) (akJ:l<g.next) (aly:v4≠v5) (hU:v4≠l) (n5:v5≠l) (gj:cs.length=6) (s6:cs.all dH=true) :
  ∃cw,call J PV (.yield l) [.agg cs] g=some (.bool false,cw)/\cw.get l=.loop .done (some .ret) 13 r #[10] (d_ gx) (d' gx) d/\a8.Obj cw v4 cs/\a8.Obj cw v5 [.bool true]/\aM (λi=>i=l\/i=v4\/i=v5) g cw:=by
 have aI:wU (#[10] :Array Tmp).toList [.agg cs] 13 r=some (r.set 10 (.agg cs)):=rfl
 obtain⟨_,_,g2,kT,rfl,rfl,eO,bn,eN⟩ :aV (IB (.agg cs) (.ptr v4 0) (.ptr v5 0) g) λx vs g2=>x=.normal/\vs=[.ptr v4 0,.ptr v5 0,.ptr g.next 0]/\a8.Obj g2 g.next cs/\bf g g2/\g2.next=g.next+1:=by
  unfold IB;refine cM RH λg1 ct dR bb=> ?_
  refine cX (OE ct gj (by simp[gj,i_]) s6) λg2 ⟨cE,bn,eN⟩=> ?_
  exact aV.pure ⟨rfl,rfl,ff cE (by simp[gj,i_]),bb.local bn (λi af e=>by omega),by omega⟩
 obtain⟨s1,Ko,rJ,mj,KT,CO⟩:=piece (p:=PV) (E:=J) (ro:=some l) (s:={r:=r.set 10 (.agg cs),n:=13,ds:=[],h:=g}) ((acV (call J PV) (.ptr v4 0) (.ptr v5 0) (.agg cs) g).trans kT) (qJ (by
  intro q aF;simp only[List.mem_cons,List.not_mem_nil,or_false]at aF;rcases aF with rfl|rfl|rfl
  ·show bE.get (bu.set r 10 _) 4=_;rw[Ks _ _ (by decide)];exact aE
  ·show bE.get (bu.set r 10 _) 5=_;rw[Ks _ _ (by decide)];exact aL
  ·exact Kt _ _ _)) rfl
 simp only[List.map_cons,List.map_nil,List.cons.injEq,and_true]at CO;obtain⟨c7,dQ,eL⟩:=CO;have oT:g2.get l=.loop .ready none 13 r #[10] (d_ gx) (d' gx) d:=by rw[bn.get l akJ (λe=>e)];exact ay
 let ll:=g2.put l (.loop .busy none 13 r #[10] (d_ gx) (d' gx) d);have l1:aM (λi=>i=l) g2 ll:=aM.put _ rfl;have MW:a8.Obj ll v4 jq:=(dG.ext bn aiC).az l1 (by omega) hU;have MX:a8.Obj ll v5 [kP]:=(eH.ext bn aiD).az l1 (by omega) n5;have aml:a8.Obj ll g.next cs:=eO.az l1 (by omega) (by omega);have wy:ll.next=g.next+1:=eN
 obtain⟨_,_,g3,oM,rfl,rfl,uP,MR,bR,gp⟩ :aV (IC (.ptr v4 0) (.ptr v5 0) (.ptr g.next 0) ll) λx vs g3=>x=.ret/\vs=[]/\a8.Obj g3 v4 cs/\a8.Obj g3 v5 [.bool true]/\aM (λi=>i=v4\/i=v5) ll g3/\g3.next=ll.next:=by
  unfold IC;rw[sb aml (by omega)];rw[show(List.drop 0 cs).take 6=cs by rw[List.drop_zero,List.take_of_length_le (by omega)]];simp only[ar];refine cX (OE MW gj (by omega) s6) λg4 ⟨uP,bO,atY⟩=> ?_
  have uP:=ff uP (by omega);refine cX (H5 (MX.az bO (by omega) (by omega)) (by simp) true) λg5 ⟨MR,cD,atZ⟩=> ?_
  exact aV.pure ⟨rfl,rfl,uP.az cD (by omega) (by omega),MR,(bO.mono λi _ e=>.inl e).trans (cD.mono λi _ e=>.inr e),by omega⟩
 obtain⟨s2,Kq,px,qz,KU,ahu⟩:=piece (p:=PV) (E:=J) (ro:=some l) (s:={s1 with h:=ll}) ((acW (call J PV) (.ptr v4 0) (.ptr v5 0) (.ptr g.next 0) ll).trans oM) (qJ (by
  intro q aF;simp only[List.mem_cons,List.not_mem_nil,or_false]at aF;rcases aF with rfl|rfl|rfl
  ·exact c7.symm
  ·exact dQ.symm
  ·exact eL.symm)) mj
 have mf:g3.get l=.loop .busy none 13 r #[10] (d_ gx) (d' gx) d:=by rw[bR.get l (by omega) (by omega)];exact ln _ _ _
 have aq:=Sk (E:=J) (p:=PV) (l:=l) (g:=g) ay aI Ko (by rw[rJ];exact oT) (by rw[rJ];exact Kq) (by rw[KU];exact KT) (by rw[px];exact mf);refine⟨_,aq,ln _ _ _,?_,?_,?_⟩
 ·rw[px];exact uP.pV (ke hU)
 ·rw[px];exact MR.pV (ke n5)
 ·rw[px];exact((aM.ext bn).trans (l1.mono λi _ e=>.inl e)).trans ((bR.mono λi _ e=>.inr e).trans (aM.put _ (.inl rfl)))
section
variable{A:gw}{mem held:Nat->Nat}{free:Nat}{t nn:Nat}{T:dt}
theorem aeE{h:ae}(s:fI h A mem held free)(x:nf h A mem held t nn T)(cu:Nat)(n':cu<=4096) :
  bh (call J PV (.func 108 [] []) [.ptr t 0,.int .i64 cu] h) λv g=>bf h g/\((fu cu (dI T.ent 0 4096)=[]/\v=.tuple [.agg i_,.bool false])\/∃p l,fu cu (dI T.ent 0 4096)=p::l/\v=.tuple [.agg (eC T p),.bool true]):=by
 have aj:=s.p.lt;have z0:=s.w.lt;have aW:=x.lt;let gb:cU:={r:=r7 [.ptr t 0,.int .i64 cu] 0 .nil,n:=13,ds:=[],h};let h1:=h.new (.cells i_.length false [] (bu.ofList i_));have ct:a8.Obj h1 h.next i_:=Obj.new h i_ false [];have bb:bf h h1:=aM.new _ _ _;have alN:h1.next=h.next+1:=rfl;let ab:=h1.new (.cells [aa.bool false].length false [] (bu.ofList [aa.bool false]));have cE:a8.Obj ab h1.next [.bool false]:=Obj.new h1 [.bool false] false [];have bn:bf h1 ab:=aM.new _ _ _;have at2:ab.next=h.next+2:=rfl
 obtain⟨s1,Fz,rJ,mj,zG,iH⟩:=piece (p:=PV) (E:=J) (ro:=none) (s:=gb) (g:=ab) (vs:=[.ptr t 0,.int .i64 cu,.ptr h.next 0,.ptr h1.next 0]) (x:=.normal)
  ((acT (call J PV) (.ptr t 0) (.int .i64 cu) h).trans (by rw[RH,aba];rfl)) (qJ (by
  intro q aF;simp only[List.mem_cons,List.not_mem_nil,or_false]at aF;rcases aF with rfl|rfl
  ·rfl
  ·show bE.get (bu.set (bu.set .nil 0 _) 1 _) 1=_
   exact Kt _ _ _)) rfl
 simp only[List.map_cons,List.map_nil,List.cons.injEq,and_true]at iH;obtain⟨nA,bk,c7,dQ⟩:=iH;obtain⟨_,g2,BO,rfl,bR,eN,hf,of⟩:=X2 ab t cu
 obtain⟨dE,FA,sX,s0,zH,oc⟩:=piece (p:=PV) (E:=J) (ro:=none) (s:=s1) (g:=g2) (vs:=[.ptr h.next 0,.ptr h1.next 0,.func 257 [] [.ptr ab.next 0,.ptr (ab.next+1) 0]]) (x:=.normal) (by
  rw[rJ]
  exact(acU (call J PV) (.ptr t 0) (.int .i64 cu) (.ptr h.next 0) (.ptr h1.next 0) ab).trans (by rw[BO];rfl)) (qJ (by
  intro q aF;simp only[List.mem_cons,List.not_mem_nil,or_false]at aF;rcases aF with rfl|rfl|rfl|rfl
  ·exact nA.symm
  ·exact bk.symm
  ·exact c7.symm
  ·exact dQ.symm)) mj
 simp only[List.map_cons,List.map_nil,List.cons.injEq,and_true]at oc;obtain⟨Gx,uF,UZ⟩:=oc;let Ah:bT:=.loop .ready none dE.n dE.r #[10] (d_ gx) (d' gx) g2.next;have xV:dE.n=13:=s0.trans mj;let ay:=(g2.new .deferred).new Ah;have alO:ay.next=g2.next+2:=rfl;have ul:bf g2 ay:=(aM.new _ _ _).trans (aM.new _ _ _);have Bc:bf h ay:=((bb.trans bn).trans bR).trans ul;have FC:ay.get (g2.next+1)=.loop .ready none 13 dE.r #[10] (d_ gx) (d' gx) g2.next:=by rw[<-xV];exact ks _ _
 have G':a8.Obj ay h.next i_:=ct.ext ((bn.trans bR).trans ul) (by omega);have V_:a8.Obj ay h1.next [.bool false]:=cE.ext (bR.trans ul) (by omega)
 have W:=X0 (A:=A) (mem:=mem) (held:=held) (free:=free) (t:=t) (nn:=nn) (T:=T) (tb:=ab.next) (fb:=ab.next+1) (fr:=cu) (yv:=.yield (g2.next+1)) (h:=ay)
  (I:=λd g=>d=[]/\bf ay g)
  (F:=λd g=>∃p,d=[p]/\aM (λi=>i=g2.next+1\/i=h.next\/i=h1.next) ay g/\g.get (g2.next+1)=.loop .done (some .ret) 13 dE.r #[10] (d_ gx) (d' gx) g2.next/\a8.Obj g h.next (eC T p)/\a8.Obj g h1.next [.bool true])
  (S:=λi=>i=g2.next+1\/i=h.next\/i=h1.next) rfl (by omega)
  (λd g ⟨_,u⟩=>by
    have hu:=u.next;have us:bf h g:=Bc.trans u
    exact⟨s.ext us,x.ext us,by omega,by omega,(hf.ext ul (by omega)).ext u (by omega),(of.ext ul (by omega)).ext u (by omega)⟩)
  (λd g cw ⟨e,u⟩ Bb=>⟨e,u.trans Bb⟩)
  (λi af=>by omega)
  (λd p g ⟨e,u⟩ aw hlen aP rI=>by
    subst e;have hu:=u.next;obtain⟨cw,aG,aT,dG,eH,eD⟩:=ar8 (g:=g) (cs:=eC T p) (by rw[u.get (g2.next+1) (by omega) (λe=>e)];exact FC) Gx.symm uF.symm (G'.ext u (by omega)) rfl (V_.ext u (by omega)) (by omega) (by omega) (by omega) (by omega) (by omega) (by omega) rfl rfl
    exact⟨_,cw,aG,eD.mono λi _ e=>by omega,Or.inr ⟨rfl,p,rfl,(aM.ext u).trans (eD.mono λi _ e=>e),aT,dG,eH⟩⟩)
  ⟨rfl,aM.refl _ _⟩
 obtain⟨_,g3,qp,rfl,hw⟩:=W;rcases hw with⟨he,tD⟩ |⟨a,p,b,hO,q,aF,tD,qw,cO,dG⟩
 ·
  have CM:=tD.next
  have G:=Kv (E:=J) (p:=PV) (s:=dE) (f:=.tmp 9) (params:= #[10]) (assign:=d_ gx) (body:=d' gx) (fv:=.func 257 [] [.ptr ab.next 0,.ptr (ab.next+1) 0]) (by show some (bE.get dE.r 9)=_;rw[<-UZ]) (v:=.undef) (h1:=g3)
   (by rw[sX];exact qp) (st:=.ready) (pend:=none) (n:=13) (r:=dE.r) (ps:= #[10]) (a:=d_ gx) (b:=d' gx) (d:=g2.next) (by rw[sX,tD.get _ (by omega) (λe=>e)];exact FC) (by simp) (x:=.normal) (s2:={dE with h:=g3.put (g2.next+1) (.loop .exhausted none 13 dE.r #[10] (d_ gx) (d' gx) g2.next),ds:=[g2.next]}) ⟨rfl,by rw[sX,zH,zG]⟩
  let g4:=g3.put (g2.next+1) (.loop .exhausted none 13 dE.r #[10] (d_ gx) (d' gx) g2.next);have bO:aM (λi=>i=g2.next+1) g3 g4:=aM.put _ rfl;have iX:a8.Obj g4 h.next i_:=(G'.ext tD (by omega)).az bO (by omega) (by omega);have tj:a8.Obj g4 h1.next [.bool false]:=(V_.ext tD (by omega)).az bO (by omega) (by omega)
  obtain⟨_,_,g5,fJ,rfl,rfl,nF,Ao,cD,n5⟩ :aV (ID (.ptr h.next 0) (.ptr h1.next 0) g4) λx vs g5=>x=.normal/\vs=[.ptr h.next 0,.ptr h1.next 0]/\a8.Obj g5 h.next i_/\a8.Obj g5 h1.next [.bool false]/\aM (λi=>i=h.next\/i=h1.next) g4 g5/\g5.next=g4.next:=by
   unfold ID;rw[R1];simp only[ar];have hU:g4.next=g3.next:=rfl;refine cX (OE iX rfl (by simp[i_]) rfl) λg6 ⟨eO,cJ,n6⟩=> ?_
   have eO:=ff eO rfl;refine cX (H5 (tj.az cJ (by omega) (by omega)) (by simp) false) λg7 ⟨fj,fk,n7⟩=> ?_
   exact aV.pure ⟨rfl,rfl,eO.az fk (by omega) (by omega),fj,(cJ.mono λi _ e=>.inl e).trans (fk.mono λi _ e=>.inr e),by omega⟩
  obtain⟨j6,Kp,Cj,uu,KQ,jZ⟩:=piece (p:=PV) (E:=J) (ro:=none) (s:={dE with h:=g4,ds:=[g2.next]}) ((acX (call J PV) (.ptr h.next 0) (.ptr h1.next 0) g4).trans fJ) (qJ (by
   intro q aF;simp only[List.mem_cons,List.not_mem_nil,or_false]at aF;rcases aF with rfl|rfl
   ·exact Gx.symm
   ·exact uF.symm)) xV
  simp only[List.map_cons,List.map_nil,List.cons.injEq,and_true]at jZ
  have sP:iA J PV none (.seq (d_ pc) (.seq (.seq (d_ (d_ (d' pc))) (.block 0 gx)) (.seq (d_ (d' (d' pc))) .ret))) gb .ret j6:=by refine ru Fz (ru (ru FA (Ku ?_ (.inl rfl))) (ru Kp ⟨1,rfl⟩));rw[W2];exact G
  have zT:g4.next=g3.next:=rfl
  have vZ:g5.get g2.next=.deferred:=by rw[cD.get _ (by omega) (by omega)];show(g3.put (g2.next+1) _).get g2.next=_;rw[ke (by omega),tD.get _ (by omega) (λe=>e)];show((g2.new .deferred).new Ah).get g2.next=_;rw[ug (by show g2.next<g2.next+1;omega),ks]
  let g6:=g5.put g2.next .dead;have cJ:aM (λi=>i=g2.next) g5 g6:=aM.put _ rfl
  have KS:nT j6.ds j6.h=some g6:=by rw[KQ,Cj];show nT [g2.next] g5=_;unfold nT;rw[vZ];rfl
  have r2:=nF.az cJ (by omega) (by omega);have MQ:=Ao.az cJ (by omega) (by omega);refine⟨_,g6,JC (vs:=[.agg i_,.bool false]) (show J.fn 108=some Tryz.f108 by kernel_rfl) (show PV 108=none from b' rfl (by kernel_rfl)) Sf (args:=[.ptr t 0,.int .i64 cu]) sP (.inr rfl) KS ?_ rfl,?_,.inl ⟨he,rfl⟩⟩
  ·show jB J j6.r g6 [.cell 4 178,.cell 5 4]=_;unfold jB jB jB;rw[<-jZ.1,<-jZ.2];have aG:loadT J g6 178 h.next 0=some (.agg i_):=by have:=sb r2 (off:=0) (by simp[i_]);exact this
   have aT:loadT J g6 4 h1.next 0=some (.bool false):=by have:=km g6 h1.next 0;rw[Obj.get MQ (i:=0) rfl]at this;exact this
   simp only[aG,aT]
  ·exact aM.local (T:=λi=>i=g2.next+1\/i=h.next\/i=h1.next\/i=g2.next) (Bc.trans tD) ((bO.mono λi _ e=>.inl e).trans ((cD.mono λi _ e=>by omega).trans (cJ.mono λi _ e=>.inr (.inr (.inr e))))) (λi af e=>by omega)
 ·
  obtain⟨rfl,rfl⟩ :a=[]/\p=q:=by
   cases a with
   |nil=>simp at aF;exact⟨rfl,aF⟩
   |cons y l=>simp at aF
  have CM:=tD.next
  have G:=Kv (E:=J) (p:=PV) (s:=dE) (f:=.tmp 9) (params:= #[10]) (assign:=d_ gx) (body:=d' gx) (fv:=.func 257 [] [.ptr ab.next 0,.ptr (ab.next+1) 0]) (by show some (bE.get dE.r 9)=_;rw[<-UZ]) (v:=.undef) (h1:=g3)
   (by rw[sX];exact qp) (st:=.done) (pend:=some .ret) (n:=13) (r:=dE.r) (ps:= #[10]) (a:=d_ gx) (b:=d' gx) (d:=g2.next) (by rw[sX];exact qw) (by simp) (x:=.ret) (s2:={dE with h:=g3.put (g2.next+1) (.loop .exhausted (some .ret) 13 dE.r #[10] (d_ gx) (d' gx) g2.next),ds:=[g2.next]}) (by
     show iA J PV none .ret _ _ _
     rw[sX,zH,zG];exact⟨1,rfl⟩)
  let g4:=g3.put (g2.next+1) (.loop .exhausted (some .ret) 13 dE.r #[10] (d_ gx) (d' gx) g2.next);have bO:aM (λi=>i=g2.next+1) g3 g4:=aM.put _ rfl;have iX:=cO.az bO (by omega) (by omega);have tj:=dG.az bO (by omega) (by omega)
  have sP:iA J PV none (.seq (d_ pc) (.seq (.seq (d_ (d_ (d' pc))) (.block 0 gx)) (.seq (d_ (d' (d' pc))) .ret))) gb .ret {dE with h:=g4,ds:=[g2.next]}:=by refine ru Fz (aeS (ru FA (Ku ?_ (.inr rfl))) (by simp));rw[W2];exact G
  have zT:g4.next=g3.next:=rfl
  have vZ:g4.get g2.next=.deferred:=by show(g3.put (g2.next+1) _).get g2.next=_;rw[ke (by omega),tD.get _ (by omega) (by omega)];show((g2.new .deferred).new Ah).get g2.next=_;rw[ug (by show g2.next<g2.next+1;omega),ks]
  let g6:=g4.put g2.next .dead;have cJ:aM (λi=>i=g2.next) g4 g6:=aM.put _ rfl;have r2:=iX.az cJ (by omega) (by omega);have MQ:=tj.az cJ (by omega) (by omega)
  refine⟨_,g6,JC (g:=g6) (vs:=[.agg (eC T p),.bool true]) (show J.fn 108=some Tryz.f108 by kernel_rfl) (show PV 108=none from b' rfl (by kernel_rfl)) Sf (args:=[.ptr t 0,.int .i64 cu]) sP (.inr rfl) (by
   show nT [g2.next] g4=_;unfold nT
   rw[vZ];rfl) ?_ rfl,?_,.inr ⟨p,b,by simpa using hO,rfl⟩⟩
  ·show jB J dE.r g6 [.cell 4 178,.cell 5 4]=_;unfold jB jB jB;rw[<-Gx,<-uF];have aG:loadT J g6 178 h.next 0=some (.agg (eC T p)):=by have:=sb r2 (off:=0) (by rw[(apb T p).1];omega);exact this
   have aT:loadT J g6 4 h1.next 0=some (.bool true):=by have:=km g6 h1.next 0;rw[Obj.get MQ (i:=0) rfl]at this;exact this
   simp only[aG,aT]
  ·exact aM.local (T:=λi=>i=g2.next+1\/i=h.next\/i=h1.next\/i=g2.next) Bc ((tD.mono λi _ e=>by omega).trans ((bO.mono λi _ e=>.inl e).trans (cJ.mono λi _ e=>.inr (.inr (.inr e))))) (λi af e=>by omega)
end
end
theorem acO{h:ae}{id off len cap xid xoff xcap size N:Nat}{ex xex st:Bool}(aN:h.get id=.bytes size st N)(ag:xid=id)(h0:0<len)(aA:off+len<=size)(gm:xoff+len<=size) :
  pg J h 135 (.slice id off len cap 1 ex) (.slice xid xoff len xcap 1 xex)=some (.int .i64 len,h.put id (.bytes size st (e8 N off len (cB N xoff len)))):=by
 subst ag;have aG:J.ty 135=some nK:=by kernel_rfl
 have bJ:J.ty 5=some m6:=by kernel_rfl
 obtain⟨n,rfl⟩ :∃n,len=n+1:=⟨len-1,by omega⟩;have rN:min (n+1) (n+1)=n+1:=Nat.min_self _
 have an:oo h xid xoff (n+1)=some (cB N xoff (n+1)):=by unfold oo;rw[aN];show(bif Nat.ble (xoff+(n+1)) size then some (N>>> (8*xoff) %2^(8*(n+1)))else none)=_;rw[ec.2 gm,Nat.shiftRight_eq_div_pow];rfl
 have hw:=y1 (m:=cB N xoff (n+1)) aN aA;unfold pg;rw[aG]
 show(match J.ty 5 with
  |none=>none
  |some ie=>
  match min (n+1) (n+1)with
  |0=>some (aa.int .i64 (.ofNat 0),h)
  |k+1=>bif Nat.beq 1 ie.size then
   match jh ie.desc with
   |true=>bif Nat.beq ie.size 1 then match oo h xid xoff (k+1)with
    |some new=>match qd h xid off (k+1) new with
     |some h=>some (aa.int .i64 (.ofNat (k+1)),h)
     |none=>none
    |none=>none else none
   |false=>bif Nat.beq 1 ie.size&&Nat.ble 1 ie.size then match j4 h xid xoff ((k+1) *1)with
    |some cs=>match j9 h xid off cs with
     |some h=>some (aa.int .i64 (.ofNat (k+1)),h)
     |none=>none
    |none=>none else none
   else none)=_
 rw[bJ,rN]
 show(match oo h xid xoff (n+1)with
  |some new=>match qd h xid off (n+1) new with
   |some h=>some (aa.int .i64 (.ofNat (n+1)),h)
   |none=>none
  |none=>none)=_
 rw[an]
 show(match qd h xid off (n+1) (cB N xoff (n+1))with
  |some h=>some (aa.int .i64 (.ofNat (n+1)),h)
  |none=>none)=_
 rw[hw];rfl
section
variable{PV:cn} [cN PV]
theorem OT{α:Type}(f:Nat->α)(i:Nat)(a b:α) :az (az f i a) i b=az f i b:=by funext j;unfold az;by_cases h:j=i<;>simp[h]
theorem anl{N m:Nat}(e6:N<2^(8*64))(hm:m<2^(8*64)) :e8 N 0 64 m=m:=by have h1:=ti (N:=N) (o:=0) (w:=64) (m:=m) hm;have ab:=Nr (N:=N) (w:=64) (a:=0) (m:=m) (K:=64) e6 hm (by omega);unfold cB at h1;rw[Nat.mul_zero,Nat.pow_zero,Nat.div_one,Nat.mod_eq_of_lt ab]at h1;exact h1
section
variable{h:ae}{A:gw}{mem held:Nat->Nat}{free:Nat}
theorem HV(aI:er h A mem held free)(n1:free=cq (λf=>held f==0) A.n)(aJ:0<free) :∃f,f<A.n/\held f=0/\∃g,call J PV (.func 159 [] []) [.ptr A.p 0] h=some (.tuple [.int .i64 f,.int .i64 0],g)/\er g A (az mem f 0) (az held f 1) (free-1)/\aM (λi=>i=A.b\/i=A.q\/i=A.p) h g:=by
 obtain⟨f,f1,f2,f3⟩:=least (by rw[<-n1];exact aJ:0<cq (λf=>held f==0) A.n);have rG:free<=4096:=by rw[n1];exact Nat.le_trans (oJ _ _) aI.n
 exact⟨f,f1,by simpa using f2,Yk aI (by omega) (by omega) f1 (by simpa using f2) (λj aO=>by simpa using f3 j aO)⟩
theorem am_(aI:er h A mem held free)(n1:free=cq (λf=>held f==0) A.n)(fw:0<free){f:Nat}(aJ:f<A.n)(aD:held f≠0) :
  bh (call J PV (.func 248 [] []) [.ptr A.p 0,.int .i64 f] h) λv g=>∃ht,ht<A.n/\held ht=0/\v=.tuple [.int .i64 (ht:Nat),.int .i64 0]/\er g A (az mem ht (mem f)) (az held ht 1) (free-1)/\aM (gq A) h g:=by
 refine bh.mk (λe=>ajN (first:=[]) (cap:=[]) e rfl) ?_;unfold QH;refine cM (apM (cs:=[.ptr A.p 0]) rfl) λg1 ct dR bb=> ?_
 refine cM apI λg2 cE eN bn=> ?_
 refine cX (m5 (v:=.int .i64 0) cE (by simp) rfl rfl) λg3 ⟨cO,bR,gp⟩=> ?_
 have b6:=aI.lt;have jz:=(ct.ext bn (by omega)).az bR (by omega) (by omega);have fM:bf h g3:=(bb.trans bn).local bR (λj aO e=>by omega);have pB:er g3 A mem held free:=aI.az fM ⟨λe=>e,λe=>e,λe=>e⟩;simp only[ha,Obj.get jz (i:=0) rfl,ar];obtain⟨ht,f1,f2,g4,e0,Cv,bO⟩:=HV pB n1 fw;have c':f≠ht:=λe=>aD (e▸f2)
 obtain⟨adP,afR⟩:=Kj Cv f1;obtain⟨st,N,aj,e6⟩:=Cv.bytes;have hm:mem f<2^(8*64):=aI.GX aJ;have agp:cB N (64*f) 64=mem f:=by rw[e6 f aJ,eE _ _ c']
 have pE:=HH Cv (f:=ht) (a:=0) (w:=64) (m:=mem f) f1 (by omega) hm aj e6;rw[e4,anl (Nat.two_pow_pos _) hm,Nat.add_zero,OT]at pE;have ahm:=bO.next;have uu:(g4.put A.b (.bytes (64*A.n) st (e8 N (64*ht) 64 (mem f)))).next=g4.next:=rfl
 have yk:=cO.az bO (by omega) (by omega);let g5:=g4.put A.b (.bytes (64*A.n) st (e8 N (64*ht) 64 (mem f)));have cD:aM (λi=>i=A.b) g4 g5:=aM.put _ rfl;have C':=yk.az cD (by omega) (by omega);obtain⟨g6,kc,eO,cJ,n6⟩:=m5 (k:=0) (v:=.int .i64 (ht:Nat)) C' (by simp) rfl rfl;have BN:bN J (g4.put A.b (.bytes (64*A.n) st (e8 N (64*ht) 64 (mem f)))) 3 (.ptr g1.next 0) (.int .i64 (ht:Nat))=some g6:=kc
 have aH:∀gi,call J PV (.func 320 [] [.ptr h.next 0,.ptr g1.next 0]) [.slice A.b (64*f) 64 (64*A.n-64*f) 1 gi] g3=some (.int .i64 0,g6):=λgi=>by refine aj_ (x:=.ret) (vs:=[.int .i64 0]) (first:=[]) (mid:=[_]) (cap:=[_,_]) ?_ rfl;have iX:=jz.az bO (by omega) (by omega);have sR:=acO (id:=A.b) (off:=64*ht) (len:=64) (cap:=64*A.n-64*ht) (ex:=adP) (xid:=A.b) (xoff:=64*f) (xcap:=64*A.n-64*f) (xex:=gi) aj rfl (by omega) (by omega) (by omega);rw[agp]at sR;simp only[Q2,ha,Obj.get jz (i:=0) rfl,ar,e0,c3,dA,List.getElem?_cons_zero,List.getElem?_cons_succ,dn,ba,decide_true,if_true,Obj.get iX (i:=0) rfl,afR,sR,BN,c4,bp,jd]
 have hw:=w8 pB aJ aD aH;rw[hw];simp only[c3,cW,Obj.get eO (i:=0) rfl,ar];refine aV.pure ⟨ht,f1,f2,rfl,er.az pE cJ ⟨by omega,by omega,by omega⟩,?_⟩;exact(((aM.ext (S:=gq A) fM).trans (bO.mono λi _ e=>e)).trans (cD.mono λi _ e=>.inl e)).local cJ (λi af e=>by omega)
theorem G1(n:Nat)(aw:n<=1099511627776) :mn J 64 (.int .i64 (n:Nat)) (.int .i64 (n:Nat))=some (λid=>aa.slice id 0 n n 1 true,.cells (n*1) false [.int .i64 0] .nil):=by
 have aG:J.ty 64=some vc:=by kernel_rfl
 have aT:J.ty 3=some lA:=by kernel_rfl
 unfold mn wx;rw[aG]
 show(match(match J.ty 3 with
  |some ie=>
   bif Nat.ble n n&&Nat.ble (ie.bytes*n) 140737488355328&&Nat.ble 1 ie.bytes then
    match jh ie.desc,ie.zero with
    |true,[.int .u8 (.ofNat 0)]=>some (n,n,ie.size,bT.bytes n false 0)
    |_,_=>some (n,n,ie.size,.cells (n*ie.size) false ie.zero .nil)
   else none
  |none=>none)with|some (l,c,sz,o)=>some ((λid=>aa.slice id 0 l c sz true),o) |none=>none)=_
 rw[aT];have h1:Nat.ble n n=true:=ec.2 (Nat.le_refl _);have ab:Nat.ble (lA.bytes*n) 140737488355328=true:=ec.2 (by show 8*n<=_;omega);simp only[h1,ab,Bool.true_and];rfl
theorem Hc{h:ae}{id n:Nat}(aN:h.get id=.cells (n*1) false [.int .i64 0] .nil) :a8.Obj h id ((List.range n).map λ_=>aa.int .i64 ((0:Nat) :Int)):=by
 refine⟨⟨[.int .i64 0],.nil,by rw[aN];simp⟩,λi=> ?_⟩;unfold bP;rw[aN];show(bif Nat.blt i (n*1)then _ else none)=_;by_cases af:i<n
 ·rw[dM.2 (by omega)];simp only[cond_true];rw[List.getElem?_map,List.getElem?_range af];show([aa.int .i64 0] :List aa)[i%1]? =_;rw[Nat.mod_one];rfl
 ·rw[show Nat.blt i (n*1)=false by rw[<-Bool.not_eq_true,dM];omega];simp[af]
theorem JJ(n:Nat) :cq (λ_=>true) n=n:=by
 have:=JH (λ_:Nat=>true) n;have ab:cq (λ_:Nat=> !true) n=0:=kS.2 λ_ _=>rfl
 omega
theorem alR{t r nn:Nat}(hf:hh h A t r nn) :call J PV (.func 94 [] []) [.ptr t 0] h=some (.int .i64 (nn:Nat),h):=by refine akB (x:=.ret) (vs:=[.int .i64 (nn:Nat)]) (first:=[]) (cap:=[]) ?_ rfl;simp only[Ru,YE,ar,ba,Bool.false_eq_true,if_false,cl,HZ,Nat.zero_add,cW,Obj.get hf (i:=2) rfl]
theorem abN(a b:Nat)(f n:Int) :dY J 272 [(0,.ptr a b),(1,.int .i64 f),(2,.int .i64 n)]=some (.agg [.ptr a b,.int .i64 f,.int .i64 n]):=by kernel_rfl
theorem aqk(s:fI h A mem held free)(n1:free=cq (λf=>held f==0) A.n)(fw:0<free) :
  bh (call J PV (.func 82 [] []) [.ptr A.p 0] h) λv g=>∃f t,f<A.n/\held f=0/\v=.tuple [.ptr t 0,.int .i64 0]/\h.next<=t/\t<g.next/\fI g A (az mem f 0) (az held f 1) (free-1)/\hh g A t f 1/\aM (gq A) h g:=by
 refine bh.mk (λe=>akq (first:=[]) (cap:=[]) e rfl) ?_;unfold Rj;obtain⟨f,f1,f2,g1,aG,g',bb⟩:=HV s.p n1 fw;have s1:fI g1 A (az mem f 0) (az held f 1) (free-1):=⟨s.wid bb s.Ng,g',s.ji⟩;rw[aG];simp only[c3,dA,List.getElem?_cons_zero,List.getElem?_cons_succ,ar,dP,ba];rw[if_neg (by decide),abN,ar];refine cM (apS (cs:=[.ptr A.p 0,.int .i64 (f:Nat),.int .i64 1]) rfl) λg2 cE eN bn=> ?_
 have:=bb.next;exact aV.pure ⟨f,g1.next,f1,f2,rfl,this,by omega,s1.ext bn,cE,(bb.mono λi _ e=>e).trans (aM.ext bn)⟩
theorem ap1{t:Nat}{T:dt}(s:fI h A mem held free)(x:nf h A mem held t T.ee T)(aP:∀p,T.ent p=.zero)(h1:held (nodeAt T 0 0)=1)(rG:free<=4096)(kY:¬gq A t/\t≠0) :
  bh (call J PV (.func 103 [] []) [.ptr t 0] h) λv g=>fI g A mem (az held (nodeAt T 0 0) 0) (free+1)/\aM (λi=>gq A i\/i=t) h g:=by
 refine bh.mk (λe=>aiR (first:=[]) (cap:=[]) e rfl) ?_;unfold PK;refine b4 (EJ s x) ?_;rintro v g1 ⟨cS,bb⟩;have ep:dI T.ent 0 4096=[]:=N2 λi _=>aP _
 rw[ep]at cS;have ay:dw J g1 175 v=some (.int .i64 0):=by have:=cS.len (E:=J) (T:=175) (si:=sc) (by kernel_rfl) rfl;simpa using this
 have bU:=x.ext bb;have r0:=Obj.get bU.obj (i:=0) rfl;simp only[ay,ar];refine hX (I:=λi vs g=>vs=[.int .i64 0]/\g1=g) 0 (by omega) (P:=λy vs g=>y=.exit 0/\vs=[.int .i64 0]/\g1=g) ⟨rfl,rfl⟩ ?_ ?_
 ·rintro i vs _ af ⟨rfl,rfl⟩;simp only[bz,bp,dk,ar,ba];rw[if_neg (by decide)];exact aV.pure (.inr ⟨by simp,rfl,rfl,rfl⟩)
 ·rintro _ _ _ ⟨rfl,rfl,rfl⟩;simp only[bz,bp,hs,if_true,aqn,ar,cP,cl,wW,ha,r0,aqm,c4,cF,ba];have cf:bf g1 (g1.aB 9):=aM.aB _ _ _;have ar6:=bU.ext cf;have AR:=(s.ext bb).ext cf
  have root:T.bd 0 0=some (nodeAt T 0 0):=by have:=wA (T:=T) (p:=0) (l:=0) (by rw[yp (by omega)];exact x.ok.root);rwa[yp (by omega)]at this
  have mi:=x.ok.lvl _ _ _ root;have aj:∀i,gq A i->i<h.next:=λi af=>s.lt af
  have b6:=x.lt;have pG:=bb.next;have th:(g1.aB 9).next=g1.next+9:=rfl
  refine fO (P:=λy vs g=>y=.normal/\vs=[]/\fI g A mem (az held (nodeAt T 0 0) 0) (free+1)/\aM (λi=>gq A i\/i=t) g1 g) ?_ ?_
  ·simp only[cl,ar,wW,Om,ha,cW,dd,r0,Obj.get bU.obj (i:=1) rfl];refine b4 (bh.ex (BM AR.p mi.2.2 (by omega) (by omega) (by omega))) ?_;rintro _ g2 ⟨rfl,gO,bn⟩;rw[h1,if_pos rfl]at gO;have Gg:=bn.next;have s2:fI g2 A mem (az held (nodeAt T 0 0) (1-1)) (free+1):=⟨AR.wid bn (by rintro(e|e);exact s.ji.2.2 e.symm;exact s.ji.1 e.symm),gO,s.ji⟩;have cE:hh g2 A t (nodeAt T 0 0) T.ee:=Obj.az ar6.obj bn (by omega) (λe=>kY.1 (e.elim (λe=>.inr (.inl e)) λe=>.inr (.inr e)));simp only[eh,cl,ar,wW,HZ,Nat.zero_add];refine cX (aqv (v:=.nilPtr) cE (by simp) rfl rfl) λg3 ⟨cO,bR,gp⟩=> ?_
   refine cX (m5 (k:=2) (v:=.int .i64 0) cO (by simp) rfl rfl) λg4 ⟨dG,bO,hU⟩=> ?_
   have c':∀i,gq A i->i≠t:=λi af e=>kY.1 (e▸af)
   have k:¬A.p=t/\¬A.b=t/\¬A.q=t/\¬0=t:=⟨c' _ (.inr (.inr rfl)),c' _ (.inl rfl),c' _ (.inr (.inl rfl)),λe=>kY.2 e.symm⟩;refine aV.pure ⟨rfl,rfl,(s2.c0 bR k).c0 bO k,?_⟩;exact(((aM.ext cf).trans (bn.mono λi _ e=>.inl (e.elim (λe=>.inr (.inl e)) λe=>.inr (.inr e)))).trans (bR.mono λi _ e=>.inr e)).trans (bO.mono λi _ e=>.inr e)
  ·rintro _ _ g ⟨rfl,rfl,s2,bn⟩;simp only[bp,jd];exact aV.pure ⟨s2,(aM.ext bb).trans bn⟩
end
end
section
variable{PV:cn} [cN PV]
theorem W4{n f:Nat}(aJ:f<n)(fn:Nat->Nat)(v:Nat) :((List.range n).map λj=>aa.int .i64 (fn j:Nat)).set f (.int .i64 (v:Nat))=(List.range n).map λj=>aa.int .i64 (az fn f v j:Nat):=by
 apply List.ext_getElem?;intro j;rw[List.getElem?_set];by_cases aO:f=j
 ·subst aO;simp[aJ,az]
 ·have py:¬j=f:=λe=>aO e.symm
  rw[if_neg aO];by_cases Cl:j<n
  ·simp[Cl,az,py]
  ·simp[Cl]
structure ra where
 a:Nat
 q:Nat
 first:Nat
 c1:Nat
structure hp(h:ae)(R:ra)(D:ij)(bY:Nat->Nat)(used:Nat) :Prop where
 s:R.c1<=4096
 f:R.first+R.c1<=D.n
 lt:R.a<h.next/\R.q<h.next
 ne:R.a≠R.q/\R.a≠D.d/\R.a≠D.b/\R.q≠D.d/\R.q≠D.b
 str:∃ex,a8.Obj h R.a [.ptr D.d 0,.int .i64 R.first,.slice R.q 0 R.c1 R.c1 1 ex,.int .i64 used]
 arr:a8.Obj h R.q ((List.range R.c1).map λi=>aa.int .i64 (bY i:Nat))
section
variable{h g:ae}{R:ra}{D:ij}{bY:Nat->Nat}{used:Nat}{sec:Nat->Nat}{dh:Nat}
theorem hp.az{S:Nat->Prop}(k:hp h R D bY used)(u:aM S h g)(aA:¬S R.a/\¬S R.q) :hp g R D bY used where
 s:=k.s
 f:=k.f
 lt:=⟨Nat.lt_of_lt_of_le k.lt.1 u.next,Nat.lt_of_lt_of_le k.lt.2 u.next⟩
 ne:=k.ne
 str:=let⟨ex,o⟩:=k.str;⟨ex,o.az u k.lt.1 aA.1⟩
 arr:=k.arr.az u k.lt.2 aA.2
theorem hp.ext(k:hp h R D bY used)(u:bf h g) :hp g R D bY used:=k.az u ⟨λe=>e,λe=>e⟩
theorem hp.Ay(k:hp h R D bY used){i:Nat}(af:i<R.c1) :bP h R.q i=some (.int .i64 (bY i:Nat)):=by rw[k.arr.rd i];simp[af]
theorem NS(k:hp h R D bY used){i:Nat}(af:i<R.c1)(v:Nat) :∃g,bN J h 3 (.ptr R.q i) (.int .i64 v)=some g/\(hp g R D (az bY i v) used/\aM (λj=>j=R.q) h g/\g.next=h.next):=by
 obtain⟨g,e,o,u,n⟩:=m5 (k:=i) (v:=.int .i64 v) k.arr (by simpa using af) rfl rfl;refine⟨g,e,⟨k.s,k.f,by rw[n];exact k.lt,k.ne,?_,?_⟩,u,n⟩
 ·obtain⟨ex,cg⟩:=k.str;exact⟨ex,cg.az u k.lt.1 k.ne.1⟩
 ·rw[W4 af]at o;exact o
theorem XN(k:hp h R D bY used)(v:Nat) :∃g,bN J h 3 (.ptr R.a 3) (.int .i64 v)=some g/\(hp g R D bY v/\aM (λj=>j=R.a) h g/\g.next=h.next):=by obtain⟨ex,cg⟩:=k.str;obtain⟨g,e,o,u,n⟩:=m5 (k:=3) (v:=.int .i64 v) cg (by simp) rfl rfl;exact⟨g,e,⟨k.s,k.f,by rw[n];exact k.lt,k.ne,⟨ex,o⟩,k.arr.az u k.lt.2 (λe=>k.ne.1 e.symm)⟩,u,n⟩
theorem ao5(k:hp h R D bY used) :call J PV (.func 93 [] []) [.ptr R.a 0] h=some (.int .i64 (R.c1:Nat),h):=by obtain⟨ex,o⟩:=k.str;refine akA (x:=.ret) (vs:=[.int .i64 (R.c1:Nat)]) (first:=[]) (cap:=[]) ?_ rfl;simp only[Rt,A6,ar,ba,Bool.false_eq_true,if_false,cl,tx,Nat.zero_add,tB,Obj.get o (i:=2) rfl,wZ]
theorem XO(k:hp h R D bY used){i:Nat}(af:i<R.c1) :call J PV (.func 99 [] []) [.ptr R.a 0,.int .i64 i] h=some (.int .i64 (bY i:Nat),h):=by
 obtain⟨ex,o⟩:=k.str;refine akF (x:=.ret) (vs:=[.int .i64 (bY i:Nat)]) (first:=[]) (cap:=[]) ?_ rfl;have fm:¬(i:Int) <0:=by omega
 have bo:¬(R.c1:Int)<=(i:Int):=by omega
 simp only[Ry,A6,ar,cP,if_true,dk,decide_eq_false fm,c4,bz,bp,cF,Bool.false_eq_true,if_false,ba,cl,tx,Nat.zero_add,tB,Obj.get o (i:=2) rfl,wZ,gA,decide_eq_false bo,qZ af,cW,k.Ay af]
theorem N_(k:hp h R D bY used){i:Nat}(af:i<R.c1)(aD:bY i≠0){sA:aa}{Q:aa->ae->Prop}(aH:bh (call J PV sA [] h) Q) :bh (call J PV (.func 185 [] []) [.ptr R.a 0,.int .i64 i,sA] h) Q:=by
 obtain⟨ex,o⟩:=k.str;refine bh.mk (λe=>ajt (first:=[]) (cap:=[]) e rfl) ?_;unfold Qn;have fm:¬(i:Int) <0:=by omega
 have bo:¬(R.c1:Int)<=(i:Int):=by omega
 have cp:¬(bY i:Int)=0:=by omega
 simp only[A6,ar,ba,Bool.false_eq_true,if_false,dk,decide_eq_false fm,cP,if_true,cl,tx,Nat.zero_add,tB,Obj.get o (i:=2) rfl,wZ,gA,decide_eq_false bo,c4,bz,bp,cF,qZ af,cW,k.Ay af,dn,decide_eq_false cp];exact b4 aH λv g aF=>aV.pure aF
theorem aoU(k:hp h R D bY used){i:Nat}(af:i<R.c1)(aD:bY i≠0)(aj:bY i<2^60) :bh (call J PV (.func 111 [] []) [.ptr R.a 0,.int .i64 i] h) λv g=>v=.int .i64 0/\hp g R D (az bY i (bY i+1)) used/\aM (λj=>j=R.q) h g:=by
 refine bh.mk (λe=>aiY (first:=[]) (cap:=[]) e rfl) ?_;unfold PS;refine cM (Oe (cs:=[.ptr R.a 0]) rfl) λg1 ct dR bb=> ?_
 refine cM (yC (cs:=[.int .i64 (i:Nat)]) rfl) λg2 cE eN bn=> ?_
 have b6:=k.lt;have iq:=ct.ext bn (by omega);have b_:=k.ext (bb.trans bn);simp only[m3,cW,Obj.get iq (i:=0) rfl,Obj.get cE (i:=0) rfl,ar];refine b4 (N_ b_ af aD (Q:=λv g=>v=.int .i64 0/\hp g R D (az bY i (bY i+1)) used/\aM (λj=>j=R.q) g2 g) ?_) ?_
 ·refine bh.mk (λe=>aju (first:=[]) (mid:=[]) (cap:=[_,_]) e rfl) ?_;unfold Qo;have cf:bf g2 (g2.aB 10):=aM.aB _ _ _;have x7:=b_.ext cf;obtain⟨ex,o⟩:=x7.str;have an:=x7.Ay af;have aA:=Obj.get o (i:=2) rfl;rw[dd]at an aA;have aG:b0 .i64 ((bY i:Int) +1)=((bY i+1:Nat) :Int):=by rw[wrap_i64 (by omega) (by omega)];omega
  simp only[m3,tB,cW,dd,Obj.get iq (i:=0) rfl,Obj.get cE (i:=0) rfl,ar,cl,tx,Nat.zero_add,aA,qZ af,an,du,aG];refine cX (NS x7 af _) λg3 ⟨b3,bR,gp⟩=> ?_
  simp only[eh];exact aV.pure ⟨rfl,b3,(aM.ext cf).trans bR⟩
 ·rintro _ g3 ⟨rfl,b3,bR⟩;exact aV.pure ⟨rfl,b3,(aM.ext (bb.trans bn)).trans bR⟩
theorem aoQ(k:hp h R D bY used){i:Nat}(af:i<R.c1)(aD:bY i≠0)(aj:bY i<2^60)(hu:1<=used/\used<=4096) :
  bh (call J PV (.func 176 [] []) [.ptr R.a 0,.int .i64 i] h) λv g=>v=.int .i64 0/\hp g R D (az bY i (bY i-1)) (if bY i=1 then used-1 else used)/\aM (λj=>j=R.q\/j=R.a) h g:=by
 refine bh.mk (λe=>ajk (first:=[]) (cap:=[]) e rfl) ?_;unfold Qf;refine cM (Oe (cs:=[.ptr R.a 0]) rfl) λg1 ct dR bb=> ?_
 refine cM (yC (cs:=[.int .i64 (i:Nat)]) rfl) λg2 cE eN bn=> ?_
 have b6:=k.lt;have c':=k.ne;have iq:=ct.ext bn (by omega);have b_:=k.ext (bb.trans bn);simp only[m3,cW,Obj.get iq (i:=0) rfl,Obj.get cE (i:=0) rfl,ar];refine b4 (N_ b_ af aD (Q:=λv g=>v=.int .i64 0/\hp g R D (az bY i (bY i-1)) (if bY i=1 then used-1 else used)/\aM (λj=>j=R.q\/j=R.a) g2 g) ?_) ?_
 ·refine bh.mk (λe=>ajY (first:=[]) (mid:=[]) (cap:=[_,_]) e rfl) ?_;unfold QR;have cf:bf g2 (g2.aB 10):=aM.aB _ _ _;have x7:=b_.ext cf;obtain⟨ex,o⟩:=x7.str;have an:=x7.Ay af;have aA:=Obj.get o (i:=2) rfl;rw[dd]at an aA;have aG:b0 .i64 ((bY i:Int) -1)=((bY i-1:Nat) :Int):=by rw[wrap_i64 (by omega) (by omega)];omega
  simp only[m3,tB,cW,dd,Obj.get iq (i:=0) rfl,Obj.get cE (i:=0) rfl,ar,cl,tx,DI,Nat.zero_add,aA,qZ af,an,fT,aG];refine cX (NS x7 af _) λg3 ⟨b3,bR,gp⟩=> ?_
  have th:(g2.aB 10).next=g2.next+10:=rfl
  have D9:bf g3 (g3.aB 8):=aM.aB _ _ _;have ta:=b3.ext D9;obtain⟨asM,cO⟩:=ta.str;have CB:=ta.Ay af;have Gd:=Obj.get cO (i:=2) rfl;have CM:=Obj.get cO (i:=3) rfl;rw[dd]at CB Gd CM;rw[e4]at CB;have jz:=(iq.ext cf (by omega)).az bR (by omega) (by omega);have yj:=(cE.ext cf (by omega)).az bR (by omega) (by omega);simp only[eh,m3,tB,cW,dd,Obj.get jz (i:=0) rfl,Obj.get yj (i:=0) rfl,ar,cl,tx,DI,Nat.zero_add,Gd,qZ af,CB,dn,CM,fT,ba,decide_eq_true_eq];have l1:aM (λj=>j=R.q\/j=R.a) g2 (g3.aB 8):=((aM.ext cf).trans (bR.mono λj _ e=>.inl e)).trans (aM.ext D9);by_cases c:bY i=1
  ·have h3:((bY i-1:Nat) :Int)=0:=by omega
   have aT:b0 .i64 ((used:Int) -1)=((used-1:Nat) :Int):=by rw[wrap_i64 (by omega) (by omega)];omega
   rw[if_pos h3,if_pos c,aT];refine fO (P:=λx vs g=>x=.normal/\vs=[]/\hp g R D (az bY i (bY i-1)) (used-1)/\aM (λj=>j=R.a) (g3.aB 8) g) (cX (XN ta _) λg4 ⟨c7,bO,hU⟩=>aV.pure ⟨rfl,rfl,c7,bO⟩) ?_;rintro _ _ g4 ⟨rfl,rfl,c7,bO⟩;simp only[bp,jd];exact aV.pure ⟨rfl,c7,l1.trans (bO.mono λj _ e=>.inr e)⟩
  ·have h3:¬((bY i-1:Nat) :Int)=0:=by omega
   rw[if_neg h3,if_neg c];simp only[c4,bp,jd];exact aV.pure ⟨rfl,ta,l1⟩
 ·rintro _ g3 ⟨rfl,b3,bR⟩;exact aV.pure ⟨rfl,b3,(aM.ext (bb.trans bn)).trans bR⟩
theorem aoR(k:hp h R D bY used)(d:fH h D sec dh){i:Nat}(af:i<R.c1)(aD:bY i≠0) :
  bh (call J PV (.func 228 [] []) [.ptr R.a 0,.int .i64 i] h) λv g=>v=.tuple [.str 64 (sec (R.first+i)),.int .i64 0]/\hp g R D bY used/\fH g D sec dh/\aM (λj=>j=D.d) h g:=by
 refine bh.mk (λe=>ajC (first:=[]) (cap:=[]) e rfl) ?_;unfold Qw;refine cM (Oe (cs:=[.ptr R.a 0]) rfl) λg1 ct dR bb=> ?_
 refine cM (yC (cs:=[.int .i64 (i:Nat)]) rfl) λg2 cE eN bn=> ?_
 refine cM Yi λg3 cO gp bR=> ?_
 refine cX (H6 (v:=.str 0 0) cO (by simp) rfl rfl) λg4 ⟨dG,bO,hU⟩=> ?_
 have b6:=k.lt;have c':=k.ne;have aJ:=k.f;have afA:=d.lt;have TR:=d.n;have iX:=(ct.ext (bn.trans bR) (by omega)).az bO (by omega) (by omega);have tj:=(cE.ext bR (by omega)).az bO (by omega) (by omega);have nL:bf h g4:=((bb.trans bn).trans bR).local bO (λj aO e=>by omega);have c7:=k.ext nL;have d4:=d.ext nL;simp only[m3,cW,Obj.get iX (i:=0) rfl,Obj.get tj (i:=0) rfl,ar];refine b4 (N_ c7 af aD (Q:=λv g=>v=.int .i64 0/\fH g D sec dh/\aM (λj=>j=D.d\/j=g2.next) g4 g/\a8.Obj g g2.next [.str 64 (sec (R.first+i))]) ?_) ?_
 ·refine bh.mk (λe=>aj4 (first:=[]) (mid:=[]) (cap:=[_,_,_]) e rfl) ?_;unfold QW;have cf:bf g4 (g4.aB 16):=aM.aB _ _ _;have GC:=c7.ext cf;have acY:=d4.ext cf;obtain⟨ex,o⟩:=GC.str;have iE:=Obj.get o (i:=0) rfl;have mU:=Obj.get o (i:=1) rfl;rw[dd]at iE mU;have aG:b0 .i64 ((R.first:Int) +(i:Int))=((R.first+i:Nat) :Int):=by rw[wrap_i64 (by omega) (by omega)];omega
  simp only[m3,u9,cW,dd,Obj.get iX (i:=0) rfl,Obj.get tj (i:=0) rfl,ar,cl,Yq,Yr,Nat.zero_add,iE,mU,du,aG];refine b4 (SM acY (i:=R.first+i) (by omega)) ?_;rintro _ g5 ⟨rfl,d5,cD⟩;have th:(g4.aB 16).next=g4.next+16:=rfl
  have:=cD.next;have amd:=(dG.ext cf (by omega)).az cD (by omega) (by omega);simp only[dA,List.getElem?_cons_zero,List.getElem?_cons_succ,ar];refine cX (H6 (v:=.str 64 (sec (R.first+i))) amd (by simp) rfl rfl) λg6 ⟨eO,cJ,n6⟩=> ?_
  simp only[eh];exact aV.pure ⟨rfl,d5.az cJ ⟨by omega,by omega⟩,((aM.ext cf).trans (cD.mono λj _ e=>.inl e)).trans (cJ.mono λj _ e=>.inr e),eO⟩
 ·rintro _ g5 ⟨rfl,d5,cD,eH⟩;simp only[A2,Obj.get eH (i:=0) rfl,ar];exact aV.pure ⟨rfl,c7.az cD ⟨by omega,by omega⟩,d5,(aM.ext (S:=λj=>j=D.d) nL).local cD (λj aO e=>by omega)⟩
theorem apf(k:hp h R D bY used)(d:fH h D sec dh)(zY:dh<=R.first){m:Nat}(hm:m<2^512)(hu:used<=4096) :
  bh (call J PV (.func 240 [] []) [.ptr R.a 0,.str 64 m] h) λv g=>
   (∃i,i<R.c1/\bY i=0/\v=.tuple [.int .i64 (i:Nat),.int .i64 0]/\hp g R D (az bY i 1) (used+1)/\fH g D (az sec (R.first+i) m) dh/\aM (λj=>j=D.d\/j=D.b\/j=R.q\/j=R.a) h g)\/
   ((∀i,i<R.c1->bY i≠0)/\v=.tuple [.int .i64 0,.int .i64 15]/\g=h):=by
 refine bh.mk (λe=>ajH (first:=[]) (cap:=[]) e rfl) ?_;unfold QB;obtain⟨ex,o⟩:=k.str;have b6:=k.lt;have c':=k.ne;have aJ:=k.f;have aA:=k.s;have afA:=d.lt;have TR:=d.n;simp only[A6,ar,cP,if_true,Af,dP,c4,bz,bp,cF,Bool.false_eq_true,if_false,ba];rw[if_neg (by decide)];simp only[cl,ar,tx,Nat.zero_add,tB,Obj.get o (i:=2) rfl,wZ]
 refine hX (I:=λi vs g=>g=h/\vs=[.int .i64 (R.c1:Nat),.int .i64 (i:Nat)]/\∀j,j<i->bY j≠0) R.c1 (by omega)
  (P:=λx vs g=>g=h/\x=.exit 0/\((∃i b,i<R.c1/\bY i=0/\vs=[.int .i64 (i:Nat),b])\/((∃b,vs=[.int .i64 (R.c1:Nat),b])/\∀i,i<R.c1->bY i≠0))) ⟨rfl,rfl,by omega⟩ ?_ ?_
 ·rintro i vs _ af ⟨rfl,rfl,aP⟩;simp only[bz,bp,dk,ar,ba,decide_eq_true_eq];by_cases fh:i=R.c1
  ·subst fh;rw[if_neg (by omega)];exact aV.pure (.inr ⟨by simp,rfl,rfl,.inr ⟨⟨_,rfl⟩,aP⟩⟩)
  ·have K6:i<R.c1:=by omega
   have aG:b0 .i64 ((i:Int) +1)=((i+1:Nat) :Int):=by rw[wrap_i64 (by omega) (by omega)];omega
   rw[if_pos (by omega)];simp only[qZ K6,Nat.zero_add,cW,k.Ay K6,ar,dn,ba,decide_eq_true_eq];by_cases nx:bY i=0
   ·rw[if_pos (by omega)];exact aV.pure (.inr ⟨by simp,rfl,rfl,.inl ⟨i,_,K6,nx,rfl⟩⟩)
   ·rw[if_neg (by omega)];simp only[du,aG,ar];refine aV.pure (.inl ⟨rfl,by omega,rfl,rfl,λj aO=> ?_⟩);by_cases e:j=i
    ·subst e;exact nx
    ·exact aP j (by omega)
 ·rintro _ vs g ⟨aN,rfl,ai⟩;rcases ai with⟨i,b,af,aP,rfl⟩ |⟨⟨b,rfl⟩,aP⟩
  ·subst aN;simp only[bz,bp,hs,if_true,cl,ar,tx,Nat.zero_add,tB,Obj.get o (i:=2) rfl,wZ,dn,ba,decide_eq_true_eq];rw[if_neg (by omega)];have cf:bf g (g.aB 13):=aM.aB _ _ _;have tY:=d.ext cf;have x':=k.ext cf;have aG:b0 .i64 ((R.first:Int) +(i:Int))=((R.first+i:Nat) :Int):=by rw[wrap_i64 (by omega) (by omega)];omega
   simp only[u9,cW,dd,cl,ar,Yq,Yr,Nat.zero_add,Obj.get o (i:=0) rfl,Obj.get o (i:=1) rfl,du,aG];refine b4 (adj tY (i:=R.first+i) (by omega) (by omega) hm) ?_;rintro _ g1 ⟨rfl,d1,bb⟩;have bk:=x'.az bb ⟨by omega,by omega⟩;obtain⟨asL,ct⟩:=bk.str;simp only[eh,dP,ar,ba];rw[if_neg (by decide)];simp only[cl,ar,tx,Nat.zero_add,tB,Obj.get ct (i:=2) rfl,qZ af];refine cX (show∃g,bN J g1 3 (.ptr R.q i) (.int .i64 1)=some g/\_ from NS bk af 1) λg2 ⟨b_,bn,eN⟩=> ?_
   obtain⟨adO,cE⟩:=b_.str;have aT:b0 .i64 ((used:Int) +1)=((used+1:Nat) :Int):=by rw[wrap_i64 (by omega) (by omega)];omega
   simp only[cl,ar,DI,Nat.zero_add,cW,Obj.get cE (i:=3) rfl,du,aT];refine cX (XN b_ (used+1)) λg3 ⟨b3,bR,gp⟩=> ?_
   refine aV.pure (.inl ⟨i,af,aP,rfl,b3,(d1.az bn ⟨by omega,by omega⟩).az bR ⟨by omega,by omega⟩,?_⟩);exact(((aM.ext cf).trans (bb.mono λj _ e=>by omega)).trans (bn.mono λj _ e=>by omega)).trans (bR.mono λj _ e=>by omega)
  ·subst aN;simp only[bz,bp,hs,if_true,cl,ar,tx,Nat.zero_add,tB,Obj.get o (i:=2) rfl,wZ,dn,ba,decide_true];exact aV.pure (.inr ⟨aP,rfl,rfl⟩)
end
end
def hQ(a b:Int) :aa:=.agg [.int .i64 a,.int .i64 b]
theorem Fk(h:ae)(a b c d:Int) :gE J h 5 182 (hQ a b) (hQ c d)=some (decide (a=c/\b=d)):=by
 have e:gE J h 5 182 (hQ a b) (hQ c d)=bif jW a c then(bif jW b d then some true else some false)else some false:=by kernel_rfl
 have kf:∀n ho,jW n ho=decide (n=ho):=λn ho=>by rw[rn,Bool.eq_iff_iff];simp
 rw[e,kf,kf];by_cases h1:a=c<;>by_cases ab:b=d<;>simp[h1,ab]
theorem GD(h:ae)(a b:Int) :og J h 182 (hQ a b)=true:=by
 have aG:wq J 182=true:=by kernel_rfl
 have aT:J.ty 182=some sf:=by kernel_rfl
 unfold og;rw[aG,Fk,aT];simp[hQ,sf]
def lC(h:ae)(m:Nat)(l:List dj) :Prop:=∃es clock,h.get m=.map es clock/\es.map (λe=>(e.1,e.2.1))=l.map λy=>(hQ y.file y.bM,aa.ptr y.id 0)
theorem lC.az{h g:ae}{m:Nat}{l:List dj}(k:lC h m l){S:Nat->Prop}(u:aM S h g)(hm:m<h.next)(aA:¬S m) :lC g m l:=by obtain⟨es,clock,e,q⟩:=k;exact⟨es,clock,by rw[u.get _ hm aA];exact e,q⟩
theorem Kc{h:ae}{a b:Int} :∀{es:List (aa×aa×Nat)} {l:List dj} {i:Nat},es.map (λe=>(e.1,e.2.1))=l.map (λy=>(hQ y.file y.bM,aa.ptr y.id 0))->(∀y,y∈l->¬(y.file=a/\y.bM=b))->lJ J h 182 (hQ a b) es i=some none
 |[],_,_,_,_=>rfl
 |(k,v,t)::es,[],_,e,_=>by simp at e
 |(k,v,t)::es,y::l,i,e,aw=>by
  simp only[List.map_cons,List.cons.injEq,Prod.mk.injEq]at e;obtain⟨⟨rfl,rfl⟩,e⟩:=e;have h1:¬(a=y.file/\b=y.bM):=λaD=>aw y (by simp) ⟨aD.1.symm,aD.2.symm⟩
  unfold lJ;rw[Fk,decide_eq_false h1];show lJ J h 182 (hQ a b) es (i+1)=_;exact Kc e λz aP=>aw z (by simp[aP])
theorem Kd{h:ae}{x:dj} :∀{es:List (aa×aa×Nat)} {p q:List dj} {i:Nat},es.map (λe=>(e.1,e.2.1))=(p++x::q).map (λy=>(hQ y.file y.bM,aa.ptr y.id 0))->(∀y,y∈p->¬(y.file=x.file/\y.bM=x.bM))->∃t,lJ J h 182 (hQ x.file x.bM) es i=some (some (i+p.length,.ptr x.id 0,t))
 |[],p,q,_,e,_=>by simp at e
 |(k,v,t)::es,[],q,i,e,aw=>by simp only[List.nil_append,List.map_cons,List.cons.injEq,Prod.mk.injEq]at e;obtain⟨⟨rfl,rfl⟩,e⟩:=e;refine⟨t,?_⟩;unfold lJ;rw[Fk,decide_eq_true ⟨rfl,rfl⟩];rfl
 |(k,v,t)::es,y::p,q,i,e,aw=>by
  simp only[List.cons_append,List.map_cons,List.cons.injEq,Prod.mk.injEq]at e;obtain⟨⟨rfl,rfl⟩,e⟩:=e;have h1:¬(x.file=y.file/\x.bM=y.bM):=λaD=>aw y (by simp) ⟨aD.1.symm,aD.2.symm⟩
  obtain⟨j7,de⟩:=Kd (h:=h) (i:=i+1) e λz aP=>aw z (by simp[aP])
  refine⟨j7,?_⟩;unfold lJ;rw[Fk,decide_eq_false h1];show lJ J h 182 (hQ x.file x.bM) es (i+1)=_;rw[de,List.length_cons,show i+1+p.length=i+(p.length+1)by omega]
theorem Mw{α β:Type}(f:α->β) :∀(l:List α) (i:Nat),(l.eraseIdx i).map f=(l.map f).eraseIdx i
 |[],_=>rfl
 |_::_,0=>rfl
 |x::l,i+1=>by show f x::(l.eraseIdx i).map f=f x::(l.map f).eraseIdx i;rw[Mw f l i]
section
variable{h:ae}{m:Nat}{l p q:List dj}{x:dj}
theorem akI(k:lC h m l){a b:Int}(aw:∀y,y∈l->¬(y.file=a/\y.bM=b)) :pN J h 292 (.map m) (hQ a b) true=some (.tuple [.nilPtr,.bool false]):=by
 obtain⟨es,clock,e,q⟩:=k;have aG:J.ty 292=some sj:=by kernel_rfl
 have aT:J.ty 296=some q4:=by kernel_rfl
 have bJ:sj.desc=.map 182 296:=rfl;simp only[pN,aG,aT,bJ,GD,cond_true,e,Kc (h:=h) q aw];rfl
theorem Vx(k:lC h m (p++x::q))(aw:∀y,y∈p->¬(y.file=x.file/\y.bM=x.bM)) :pN J h 292 (.map m) (hQ x.file x.bM) true=some (.tuple [.ptr x.id 0,.bool true]):=by
 obtain⟨es,clock,e,q⟩:=k;have aG:J.ty 292=some sj:=by kernel_rfl
 have aT:J.ty 296=some q4:=by kernel_rfl
 have bJ:sj.desc=.map 182 296:=rfl;obtain⟨t,e0⟩:=Kd (h:=h) (i:=0) q aw;simp only[pN,aG,aT,bJ,GD,cond_true,e,e0]
theorem aqT(k:lC h m l){y:dj}(aw:∀z,z∈l->¬(z.file=y.file/\z.bM=y.bM)) :∃g,td J h 292 (.map m) (hQ y.file y.bM) (.ptr y.id 0)=some g/\(lC g m (l++[y])/\aM (λi=>i=m) h g/\g.next=h.next):=by
 obtain⟨es,clock,e,q⟩:=k;have aG:J.ty 292=some sj:=by kernel_rfl
 have bJ:sj.desc=.map 182 296:=rfl;refine⟨_,?_,⟨es++[(hQ y.file y.bM,.ptr y.id 0,clock)],clock+1,ln _ _ _,by simp[q]⟩,aM.put _ rfl,rfl⟩;simp only[td,aG,bJ,e,GD,cond_true,Kc (h:=h) q aw]
theorem adb(k:lC h m (p++x::q))(aw:∀y,y∈p->¬(y.file=x.file/\y.bM=x.bM)) :∃g,vN J h 292 (.map m) (hQ x.file x.bM)=some g/\(lC g m (p++q)/\aM (λi=>i=m) h g/\g.next=h.next):=by
 obtain⟨es,clock,e,aF⟩:=k;have aG:J.ty 292=some sj:=by kernel_rfl
 have bJ:sj.desc=.map 182 296:=rfl;obtain⟨t,e0⟩:=Kd (h:=h) (i:=0) aF aw;rw[Nat.zero_add]at e0;refine⟨h.put m (.map (es.eraseIdx p.length) clock),by simp only[vN,aG,bJ,e,GD,cond_true,e0],⟨_,clock,ln _ _ _,?_⟩,aM.put _ rfl,rfl⟩;rw[Mw,aF,<-Mw,List.eraseIdx_append_of_length_le (Nat.le_refl _),Nat.sub_self];rfl
end
def dj.vs(y:dj) :List aa:=[.int .i64 y.file,.int .i64 y.bM,.int .i64 y.fr,.bool y.fresh]
structure ew where
 A:gw
 D:ij
 R:ra
 F:kI
 k:Nat
 m:Nat
 M:Nat
 dh:Nat
 HF:Nat->Nat
structure kK(h:ae)(X:ew)(ρ:Nat->Nat)(ring:List dj)(hand:Nat) :Prop where
 str:∃rv hits fills,a8.Obj h X.k [.ptr X.A.p 0,.ptr X.F.f 0,.map X.m,rv,.int .i64 hand,.int .i64 hits,.int .i64 fills]/\gg h 1 rv ((ring.map λy=>aa.ptr y.id 0).map one)/\oO rv=true/\∀b,cI rv=some b->ρ b=10
 map:lC h X.m ring
 fx:∀y,y∈ring->a8.Obj h y.id y.vs/\ρ y.id=11
 keys:ring.Pairwise λa b=>¬(a.file=b.file/\a.bM=b.bM)
 nj:ring.length<=4096
 db:hand<=4096
structure Core(h:ae)(X:ew)(ρ:Nat->Nat)(σ:b8) :Prop where
 ps:fI h X.A σ.mem σ.held σ.free
 jV:fH h X.D σ.sec X.dh
 hi:hp h X.R X.D σ.bY σ.used
 fl:kL h X.F X.D
 dX:kK h X ρ σ.ring σ.hand
 e3:ρ X.A.b=1/\ρ X.A.q=2/\ρ X.A.p=3
 f':ρ X.D.d=4/\ρ X.D.b=5
 ga:ρ X.R.a=6/\ρ X.R.q=7
 gH:ρ X.k=8/\ρ X.m=9
 r0:ρ 0=12
 eB:ρ X.F.f=12/\(∀b,cI X.F.h8=some b->ρ b=12)/\∀n b,n∈X.F.cb->cI n.cQ=some b->ρ b=12
 lt:∀i,ρ i≠0->i<h.next
section
variable{h g:ae}{X:ew}{ρ bD:Nat->Nat}{σ:b8}{ring:List dj}{hand:Nat}
theorem kK.c0(k:kK h X ρ ring hand){S:Nat->Prop}(u:aM S h g)(aA:∀i,S i->i<h.next->ρ i<8\/11<ρ i)(an:∀i,i<h.next->bD i=ρ i)(ay:∀i,ρ i≠0->i<h.next)(av:ρ X.k=8/\ρ X.m=9) :kK g X bD ring hand:=by
 have no:∀i,8<=ρ i->ρ i<=11->i<h.next/\¬S i:=λi h1 ab=>by have kv:=ay i (by omega);refine⟨kv,λe=> ?_⟩;have:=aA i e kv;omega
 obtain⟨rv,hits,fills,o,v,ex,dO⟩:=k.str;have bk:=no X.k (by omega) (by omega);have b_:=no X.m (by omega) (by omega);refine⟨⟨rv,hits,fills,o.az u bk.1 bk.2,v.az u (λb aj=>(no b (by rw[dO b aj];decide) (by rw[dO b aj];decide)).2),ex,λb aj=> ?_⟩,k.map.az u b_.1 b_.2,λy aq=> ?_,k.keys,k.nj,k.db⟩
 ·rw[an b (no b (by rw[dO b aj];decide) (by rw[dO b aj];decide)).1];exact dO b aj
 ·obtain⟨g',gO⟩:=k.fx y aq;have b3:=no y.id (by omega) (by omega);exact⟨g'.az u b3.1 b3.2,by rw[an _ b3.1];exact gO⟩
theorem Core.c0(k:Core h X ρ σ){S:Nat->Prop}(u:aM S h g)(aA:∀i,S i->i<h.next->ρ i=0\/12<ρ i)(an:∀i,i<h.next->bD i=ρ i)(ay:∀i,bD i≠0->i<g.next) :Core g X bD σ:=by
 have no:∀i,i<h.next->(1<=ρ i/\ρ i<=12)->¬S i:=λi h1 ab e=>by have:=aA i e h1;omega
 have e3:=k.e3;have f':=k.f';have ga:=k.ga;have gH:=k.gH;have eB:=k.eB;have pl:=k.ps.p.lt;have dl:=k.jV.lt;have tO:=k.hi.lt;have Al:(0:Nat) <h.next:=by omega
 have lQ:=k.lt X.k (by omega);have pS:=k.lt X.m (by omega);have fl:=k.fl.lt
 have xO:∀b,cI X.F.h8=some b->b<h.next:=λb aj=>by
  rcases k.fl.nodes.2 with⟨e,_⟩ |⟨dK,_,_,_,e,ab,_⟩
  ·rw[e]at aj;cases aj
  ·rw[e]at aj;cases aj;exact ab
 have uo:∀n b,n∈X.F.cb->cI n.cQ=some b->b<h.next:=λn b aw aj=>by
  rcases(k.fl.exts n aw).2 with⟨e,_⟩ |⟨dK,_,_,_,e,ab,_⟩
  ·rw[e]at aj;cases aj
  ·rw[e]at aj;cases aj;exact ab
 refine⟨k.ps.c0 u ⟨no _ pl.1 (by omega),no _ pl.2.1 (by omega),no _ pl.2.2 (by omega),no 0 Al (by have:=k.r0;omega)⟩,
  k.jV.az u ⟨no _ dl.1 (by omega),no _ dl.2 (by omega)⟩,k.hi.az u ⟨no _ tO.1 (by omega),no _ tO.2 (by omega)⟩,
  k.fl.az u ⟨no _ fl (by omega),λb aj=>no b (xO b aj) (by have:=eB.2.1 b aj;omega),λn b aw aj=>no b (uo n b aw aj) (by have:=eB.2.2 n b aw aj;omega)⟩,
  k.dX.c0 u (λi af ay=>by have:=aA i af ay;omega) an k.lt gH,?_,?_,?_,?_,?_,?_,ay⟩
 ·rw[an _ pl.1,an _ pl.2.1,an _ pl.2.2];exact e3
 ·rw[an _ dl.1,an _ dl.2];exact f'
 ·rw[an _ tO.1,an _ tO.2];exact ga
 ·rw[an _ lQ,an _ pS];exact gH
 ·rw[an _ Al];exact k.r0
 ·exact⟨by rw[an _ fl];exact eB.1,λb aj=>by rw[an _ (xO b aj)];exact eB.2.1 b aj,λn b aw aj=>by rw[an _ (uo n b aw aj)];exact eB.2.2 n b aw aj⟩
theorem Core.ext(k:Core h X ρ σ)(u:bf h g) :Core g X ρ σ:=k.c0 u (λ_ e _=>e.elim) (λ_ _=>rfl) (λi af=>Nat.lt_of_lt_of_le (k.lt i af) u.next)
end
section
variable{PV:cn} [cN PV]
section
variable{h g:ae}{X:ew}{ρ bD:Nat->Nat}{σ:b8}{ring:List dj}{hand:Nat}
def c2(ρ:Nat->Nat)(h g:ae) :Prop:=aM (λi=>ρ i≠0/\ρ i<=12) h g
theorem c2.ext(u:bf h g) :c2 ρ h g:=aM.ext u
theorem c2.of{S:Nat->Prop}(u:aM S h g)(aA:∀i,i<h.next->S i->ρ i≠0/\ρ i<=12) :c2 ρ h g:=u.mono aA
theorem c2.trans{a b c:ae}(x:c2 ρ a b)(y:c2 bD b c)(an:∀i,i<a.next->bD i=ρ i) :c2 ρ a c:=
 aM.local x y λi af e=>by rw[<-an i af];exact e
theorem c2.c0{id:Nat}{l:List aa}(u:c2 ρ h g)(o:a8.Obj h id l)(af:id<h.next)(an:ρ id=0) :a8.Obj g id l:=o.az u af (λe=>e.1 an)
theorem Core.mv(k:Core h X ρ σ){i:Nat}(af:gq X.A i) :1<=ρ i/\ρ i<=3:=by have:=k.e3;rcases af with rfl|rfl|rfl<;>omega
theorem Core.m1(k:Core h X ρ σ){mem held:Nat->Nat}{free:Nat}(p:er g X.A mem held free)(u:aM (gq X.A) h g) :Core g X ρ {σ with mem:=mem,held:=held,free:=free}:=by
 have dq:∀i,gq X.A i->1<=ρ i/\ρ i<=3:=λi af=>k.mv af
 have f':=k.f';have ga:=k.ga;have eB:=k.eB
 exact{
  ps:=⟨k.ps.w.az u k.ps.Ng,p,k.ps.ji⟩
  jV:=k.jV.az u ⟨λe=>by have:=dq _ e;omega,λe=>by have:=dq _ e;omega⟩
  hi:=k.hi.az u ⟨λe=>by have:=dq _ e;omega,λe=>by have:=dq _ e;omega⟩
  fl:=k.fl.az u ⟨λe=>by have:=dq _ e;omega,λb aj e=>by have:=dq _ e;have:=eB.2.1 b aj;omega,λn b aw aj e=>by have:=dq _ e;have:=eB.2.2 n b aw aj;omega⟩
  dX:=k.dX.c0 u (λi af _=>.inl (by have:=dq i af;omega)) (λ_ _=>rfl) k.lt k.gH
  e3:=k.e3,f':=k.f',ga:=k.ga,gH:=k.gH,r0:=k.r0,eB:=k.eB
  lt:=λi af=>Nat.lt_of_lt_of_le (k.lt i af) u.next}
theorem Core.vO(k:Core h X ρ σ){sec:Nat->Nat}(d:fH g X.D sec X.dh)(u:aM (λi=>i=X.D.d\/i=X.D.b) h g) :Core g X ρ {σ with sec:=sec}:=by
 have e3:=k.e3;have f':=k.f';have ga:=k.ga;have eB:=k.eB;have dq:∀i,(i=X.D.d\/i=X.D.b)->4<=ρ i/\ρ i<=5:=by rintro i (rfl|rfl)<;>omega
 exact{
  ps:=k.ps.c0 u ⟨λe=>by have:=dq _ e;omega,λe=>by have:=dq _ e;omega,λe=>by have:=dq _ e;omega,λe=>by have:=dq _ e;have:=k.r0;omega⟩
  jV:=d
  hi:=k.hi.az u ⟨λe=>by have:=dq _ e;omega,λe=>by have:=dq _ e;omega⟩
  fl:=k.fl.az u ⟨λe=>by have:=dq _ e;omega,λb aj e=>by have:=dq _ e;have:=eB.2.1 b aj;omega,λn b aw aj e=>by have:=dq _ e;have:=eB.2.2 n b aw aj;omega⟩
  dX:=k.dX.c0 u (λi af _=>.inl (by have:=dq i af;omega)) (λ_ _=>rfl) k.lt k.gH
  e3:=k.e3,f':=k.f',ga:=k.ga,gH:=k.gH,r0:=k.r0,eB:=k.eB
  lt:=λi af=>Nat.lt_of_lt_of_le (k.lt i af) u.next}
theorem Core.zb(k:Core h X ρ σ){bY:Nat->Nat}{used:Nat}(d:hp g X.R X.D bY used)(u:aM (λi=>i=X.R.q\/i=X.R.a) h g) :Core g X ρ {σ with bY:=bY,used:=used}:=by
 have e3:=k.e3;have f':=k.f';have ga:=k.ga;have eB:=k.eB;have dq:∀i,(i=X.R.q\/i=X.R.a)->6<=ρ i/\ρ i<=7:=by rintro i (rfl|rfl)<;>omega
 exact{
  ps:=k.ps.c0 u ⟨λe=>by have:=dq _ e;omega,λe=>by have:=dq _ e;omega,λe=>by have:=dq _ e;omega,λe=>by have:=dq _ e;have:=k.r0;omega⟩
  jV:=k.jV.az u ⟨λe=>by have:=dq _ e;omega,λe=>by have:=dq _ e;omega⟩
  hi:=d
  fl:=k.fl.az u ⟨λe=>by have:=dq _ e;omega,λb aj e=>by have:=dq _ e;have:=eB.2.1 b aj;omega,λn b aw aj e=>by have:=dq _ e;have:=eB.2.2 n b aw aj;omega⟩
  dX:=k.dX.c0 u (λi af _=>.inl (by have:=dq i af;omega)) (λ_ _=>rfl) k.lt k.gH
  e3:=k.e3,f':=k.f',ga:=k.ga,gH:=k.gH,r0:=k.r0,eB:=k.eB
  lt:=λi af=>Nat.lt_of_lt_of_le (k.lt i af) u.next}
theorem Core.cache(k:Core h X ρ σ)(c:kK g X bD ring hand){S:Nat->Prop}(u:aM S h g)(dq:∀i,i<h.next->S i->8<=ρ i/\ρ i<=11)(an:∀i,i<h.next->bD i=ρ i)(ay:∀i,bD i≠0->i<g.next) :Core g X bD {σ with ring:=ring,hand:=hand}:=by
 have e3:=k.e3;have f':=k.f';have ga:=k.ga;have gH:=k.gH;have eB:=k.eB;have pl:=k.ps.p.lt;have dl:=k.jV.lt;have tO:=k.hi.lt;have Al:(0:Nat) <h.next:=by omega
 have lQ:=k.lt X.k (by omega);have pS:=k.lt X.m (by omega);have fl:=k.fl.lt;have no:∀i,i<h.next->(ρ i<8\/11<ρ i)->¬S i:=λi h1 ab e=>by have:=dq i h1 e;omega
 have xO:∀b,cI X.F.h8=some b->b<h.next:=λb aj=>by
  rcases k.fl.nodes.2 with⟨e,_⟩ |⟨dK,_,_,_,e,ab,_⟩
  ·rw[e]at aj;cases aj
  ·rw[e]at aj;cases aj;exact ab
 have uo:∀n b,n∈X.F.cb->cI n.cQ=some b->b<h.next:=λn b aw aj=>by
  rcases(k.fl.exts n aw).2 with⟨e,_⟩ |⟨dK,_,_,_,e,ab,_⟩
  ·rw[e]at aj;cases aj
  ·rw[e]at aj;cases aj;exact ab
 exact{
  ps:=k.ps.c0 u ⟨no _ pl.1 (by omega),no _ pl.2.1 (by omega),no _ pl.2.2 (by omega),no 0 Al (by have:=k.r0;omega)⟩
  jV:=k.jV.az u ⟨no _ dl.1 (by omega),no _ dl.2 (by omega)⟩
  hi:=k.hi.az u ⟨no _ tO.1 (by omega),no _ tO.2 (by omega)⟩
  fl:=k.fl.az u ⟨no _ fl (by omega),λb aj=>no b (xO b aj) (by have:=eB.2.1 b aj;omega),λn b aw aj=>no b (uo n b aw aj) (by have:=eB.2.2 n b aw aj;omega)⟩
  dX:=c
  e3:=by rw[an _ pl.1,an _ pl.2.1,an _ pl.2.2];exact e3
  f':=by rw[an _ dl.1,an _ dl.2];exact f'
  ga:=by rw[an _ tO.1,an _ tO.2];exact ga
  gH:=by rw[an _ lQ,an _ pS];exact gH
  r0:=by rw[an _ Al];exact k.r0
  eB:=⟨by rw[an _ fl];exact eB.1,λb aj=>by rw[an _ (xO b aj)];exact eB.2.1 b aj,λn b aw aj=>by rw[an _ (uo n b aw aj)];exact eB.2.2 n b aw aj⟩
  lt:=ay}
theorem ae6(k:Core h X ρ σ){y:dj}(aq:y∈σ.ring) :bh (call J PV (.func 97 [] []) [.ptr X.k 0,hQ y.file y.bM] h) λv g=>v=.tuple [.int .i64 y.fr,.bool true]/\bf h g:=by
 refine bh.mk (λe=>akD (first:=[]) (cap:=[]) e rfl) ?_;unfold Rw;refine cM (Of (cs:=[.int .i64 y.file,.int .i64 y.bM]) rfl) λg1 ct dR bb=> ?_
 have cf:bf g1 (g1.aB 11):=aM.aB _ _ _;have bk:=(k.ext bb).ext cf;have or:=ct.ext cf (by omega);obtain⟨rv,hits,fills,os,hK,ex,dO⟩:=bk.dX.str;have s2:=Obj.get os (i:=2) rfl;have gO:=Obj.get (bk.dX.fx y aq).1 (i:=2) rfl;rw[dd]at s2 gO;obtain⟨pre,post,an⟩:=List.append_of_mem aq;have xM:=bk.dX.keys
 have xQ:∀z,z∈pre->¬(z.file=y.file/\z.bM=y.bM):=λz aP=>by rw[an]at xM;exact(List.pairwise_append.1 xM).2.2 z aP y (by simp)
 simp only[A5,ar,ba,Bool.false_eq_true,if_false,cl,DJ,Nat.zero_add,DN,dd,s2];rw[o8 or (by simp)];simp only[ar];have ay:=Vx (an▸bk.dX.map) xQ;unfold hQ at ay;simp only[List.drop_zero,List.take_succ_cons,List.take_zero];rw[ay];simp only[ar,dA,List.getElem?_cons_zero,List.getElem?_cons_succ,eh,fD,ba,Bool.not_true,Bool.false_eq_true,if_false,cl,H0,Nat.zero_add,cW,dd,gO];exact aV.pure ⟨rfl,bb.trans cf⟩
end
end
section
variable{PV:cn} [cN PV]
theorem abQ(f p fr:Int) :dY J 298 [(0,hQ f p),(1,.int .i64 fr)]=some (.agg [.int .i64 f,.int .i64 p,.int .i64 fr,.bool false]):=by kernel_rfl
theorem ab3(a b:Nat) :lg J 293 1 [(0,.ptr a b)]=some (λid=>aa.slice id 0 1 1 1 true,.cells ([aa.ptr a b] :List aa).length false [] (bu.ofList [.ptr a b])):=by kernel_rfl
section
variable{h g:ae}{X:ew}{ρ bD:Nat->Nat}{σ:b8}{ring:List dj}{hand:Nat}
theorem kK.ah2(k:kK h X ρ ring hand){pre post:List dj}{y:dj}(an:ring=pre++y::post){z:dj}(aP:z∈pre++post) :z.id≠y.id:=λe=>by have av:=k.keys;rw[an]at av;have h1:=((jA (R:=λa b:dj=>¬(a.file=b.file/\a.bM=b.bM)) (λa b aw aD=>aw ⟨aD.1.symm,aD.2.symm⟩)).1 av).1 z aP;have hV:=(k.fx y (by rw[an];simp)).1;have k4:=(k.fx z (by rw[an];exact fe.2 (.inr aP))).1;rw[e]at k4;have a0:=Obj.get hV (i:=0) rfl;have ao:=Obj.get hV (i:=1) rfl;have mI:=Obj.get k4 (i:=0) rfl;have fS:=Obj.get k4 (i:=1) rfl;rw[a0]at mI;rw[ao]at fS;simp only[Option.some.injEq,aa.int.injEq,true_and]at mI fS;exact h1 ⟨mI,fS⟩
theorem kK.mark(k:kK h X ρ ring hand)(ay:∀i,ρ i≠0->i<h.next)(av:ρ X.k=8/\ρ X.m=9){pre post:List dj}{y:dj}(an:ring=pre++y::post){b:Bool}(o:a8.Obj g y.id ({y with fresh:=b} :dj).vs)(u:aM (λi=>i=y.id) h g) :
  kK g X ρ (pre++{y with fresh:=b}::post) hand:=by
 obtain⟨rv,hits,fills,os,hK,ex,dO⟩:=k.str;have iO:=(k.fx y (by rw[an];simp)).2;have ne:∀i,ρ i≠11->i≠y.id:=λi af e=>af (e▸iO)
 have xN:=ay X.k (by omega);have agt:=ay X.m (by omega);have F2:∀{β:Type} (f:dj->β),(∀z b,f {z with fresh:=b}=f z)->(pre++{y with fresh:=b}::post).map f=ring.map f:=λf aJ=>by rw[an];simp[aJ]
 refine⟨⟨rv,hits,fills,os.az u xN (ne _ (by omega)),?_,ex,dO⟩,?_,?_,?_,?_,k.db⟩
 ·rw[F2 (λy=>aa.ptr y.id 0) (λ_ _=>rfl)];exact hK.az u λb aj=>ne _ (by rw[dO b aj];decide)
 ·obtain⟨es,kb,aG,aT⟩:=k.map;refine⟨es,kb,by rw[u.get _ agt (ne _ (by omega))];exact aG,?_⟩;rw[F2 (λy=>(hQ y.file y.bM,aa.ptr y.id 0)) (λ_ _=>rfl)];exact aT
 ·intro z aP;rcases fe.1 aP with rfl|aP
  ·exact⟨o,iO⟩
  ·obtain⟨k4,jk⟩:=k.fx z (by rw[an];exact fe.2 (.inr aP));exact⟨k4.az u (ay _ (by omega)) (k.ah2 an aP),jk⟩
 ·have av:=k.keys;rw[an]at av;have iR:∀a b:dj,¬(a.file=b.file/\a.bM=b.bM)->¬(b.file=a.file/\b.bM=a.bM):=λa b aw aD=>aw ⟨aD.1.symm,aD.2.symm⟩
  have h1:=(jA (R:=λa b:dj=>¬(a.file=b.file/\a.bM=b.bM)) iR).1 av;exact(jA (R:=λa b:dj=>¬(a.file=b.file/\a.bM=b.bM)) iR).2 ⟨λz aP=>h1.1 z aP,h1.2⟩
 ·have:=k.nj;rw[an]at this;simpa using this
theorem kK.num(k:kK h X ρ ring hand)(ay:∀i,ρ i≠0->i<h.next)(av:ρ X.k=8/\ρ X.m=9){j:Nat}(aO:j=5\/j=6)(v:Int) :∃g,bN J h 3 (.ptr X.k j) (.int .i64 v)=some g/\(kK g X ρ ring hand/\aM (λi=>i=X.k) h g/\g.next=h.next):=by
 obtain⟨rv,hits,fills,os,hK,ex,dO⟩:=k.str;obtain⟨g,e,o,u,n⟩:=m5 (k:=j) (v:=.int .i64 v) os (by simp;omega) rfl rfl;have ne:∀i,ρ i≠8->i≠X.k:=λi af e=>af (e▸av.1)
 refine⟨g,e,⟨?_,k.map.az u (ay _ (by omega)) (ne _ (by omega)),λy aq=> ?_,k.keys,k.nj,k.db⟩,u,n⟩
 ·rcases aO with rfl|rfl
  ·exact⟨rv,v,fills,o,hK.az u (λb aj=>ne b (by rw[dO b aj];decide)),ex,dO⟩
  ·exact⟨rv,hits,v,o,hK.az u (λb aj=>ne b (by rw[dO b aj];decide)),ex,dO⟩
 ·obtain⟨g',gO⟩:=k.fx y aq;exact⟨g'.az u (ay _ (by omega)) (ne _ (by omega)),gO⟩
theorem kK.field(k:kK h X ρ ring hand) :(∃v,bP h X.k 5=some (.int .i64 v))/\(∃v,bP h X.k 6=some (.int .i64 v))/\bP h X.k 0=some (.ptr X.A.p 0)/\bP h X.k 1=some (.ptr X.F.f 0)/\bP h X.k 2=some (.map X.m)/\bP h X.k 4=some (.int .i64 hand):=by obtain⟨rv,hits,fills,os,hK,ex,dO⟩:=k.str;exact⟨⟨hits,os.rd 5⟩,⟨fills,os.rd 6⟩,os.rd 0,os.rd 1,os.rd 2,os.rd 4⟩
theorem acx(k:Core h X ρ σ){pre post:List dj}{y:dj}(an:σ.ring=pre++y::post)(aJ:y.fr<X.A.n)(aD:σ.held y.fr≠0)(aj:σ.held y.fr<2^60) :
  bh (call J PV (.func 246 [] []) [.ptr X.k 0,hQ y.file y.bM] h) λv g=>v=.tuple [.int .i64 y.fr,.int .i64 0]/\Core g X ρ {σ with ring:=pre++{y with fresh:=true}::post,held:=az σ.held y.fr (σ.held y.fr+1)}/\c2 ρ h g:=by
 refine bh.mk (λe=>Vn (first:=[]) (cap:=[]) e rfl) ?_;unfold IK;refine cM (Of (cs:=[.int .i64 y.file,.int .i64 y.bM]) rfl) λg1 ct dR bb=> ?_
 have cf:bf g1 (g1.aB 11):=aM.aB _ _ _;have bk:=(k.ext bb).ext cf;have or:=ct.ext cf (by omega);have aq:y∈σ.ring:=by rw[an];simp
 obtain⟨_,_,_,_,s2,_⟩:=bk.dX.field;have xM:=bk.dX.keys
 have xQ:∀z,z∈pre->¬(z.file=y.file/\z.bM=y.bM):=λz aP=>by rw[an]at xM;exact(List.pairwise_append.1 xM).2.2 z aP y (by simp)
 have ay:=Vx (an▸bk.dX.map) xQ;unfold hQ at ay;rw[dd]at s2;obtain⟨wI,iO⟩:=bk.dX.fx y aq;simp only[A5,ar,ba,Bool.false_eq_true,if_false,cl,DJ,Nat.zero_add,DN,dd,s2];rw[o8 or (by simp)];simp only[ar,List.drop_zero,List.take_succ_cons,List.take_zero];rw[ay];simp only[ar,dA,List.getElem?_cons_zero,List.getElem?_cons_succ,eh,ba,if_true,cl,Ys,Nat.zero_add];refine cX (YK (k:=3) (v:=.bool true) wI (by simp[dj.vs]) rfl rfl) λg2 ⟨cE,bn,eN⟩=> ?_
 have cp:=bk.dX.mark bk.lt bk.gH an (b:=true) cE bn;have b_:=bk.cache cp bn (λi af e=>by subst e;omega) (λ_ _=>rfl) (λi af=>by rw[eN];exact bk.lt i af);obtain⟨⟨ai,aL⟩,_⟩:=b_.dX.field;simp only[ap_,Nat.zero_add,ar,cW,aL,du];refine cX (b_.dX.num b_.lt b_.gH (.inl rfl) _) λg3 ⟨ed,bR,gp⟩=> ?_
 have b3:=b_.cache ed bR (λi af e=>by subst e;have:=k.gH;omega) (λ_ _=>rfl) (λi af=>by rw[gp];exact b_.lt i af);have D9:bf g3 (g3.aB 15):=aM.aB _ _ _;have c7:=b3.ext D9;obtain⟨_,_,gb,_⟩:=c7.dX.field;have gO:=Obj.get (c7.dX.fx {y with fresh:=true} (fe.2 (.inl rfl))).1 (i:=2) rfl;simp only[dd]at gO gb;simp only[H0,Nat.zero_add,cW,dd,gO,ar,A0,ha,gb];obtain⟨g5,fJ,kD,cD⟩:=Lp c7.ps.p aJ aD aj;rw[fJ];have dQ:=c7.m1 kD (cD.mono λi _ e=>.inr (.inl e));have Nj:=Obj.get (dQ.dX.fx {y with fresh:=true} (fe.2 (.inl rfl))).1 (i:=2) rfl;have am2:bP g5 y.id 2=some (.int .i64 y.fr):=Nj;simp only[c3,eh];rw[ze am2,eh];refine aV.pure ⟨rfl,dQ,?_⟩;have ck:c2 ρ h (g1.aB 11):=c2.ext (bb.trans cf);have dT:c2 ρ (g1.aB 11) g2:=c2.of bn λi _ e=>by subst e;omega
 have eJ:c2 ρ g2 g3:=c2.of bR λi _ e=>by subst e;have:=k.gH;omega
 have gf:c2 ρ (g3.aB 15) g5:=c2.of cD λi _ e=>by subst e;have:=k.e3;omega
 have same:∀{a:ae},∀i,i<a.next->ρ i=ρ i:=λ_ _=>rfl
 exact(((ck.trans dT (λ_ _=>rfl)).trans eJ (λ_ _=>rfl)).trans (c2.ext D9) (λ_ _=>rfl) (bD:=ρ)).trans gf (λ_ _=>rfl)
theorem kK.more(k:kK h X ρ ring hand)(ay:∀i,ρ i≠0->i<h.next)(av:ρ X.k=8/\ρ X.m=9){y:dj}(hV:a8.Obj h y.id y.vs)(aq:ρ y.id=0/\y.id<h.next)(aw:∀z,z∈ring->¬(z.file=y.file/\z.bM=y.bM))(aJ:ring.length<4096)
  {g:ae} {rv:aa} {hits fills:Int} (os:a8.Obj g X.k [.ptr X.A.p 0,.ptr X.F.f 0,.map X.m,rv,.int .i64 hand,.int .i64 hits,.int .i64 fills]) (hK:gg g 1 rv (((ring++[y]).map λy=>aa.ptr y.id 0).map one)) (ex:oO rv=true)
  (wh:∀b,cI rv=some b->(ρ b=10\/h.next<=b)) (mp:lC g X.m (ring++[y])) {S:Nat->Prop} (u:aM S h g) (dq:∀i,i<h.next->S i->ρ i≠11/\i≠y.id) :
  kK g X (λi=>if i=y.id then 11 else if cI rv=some i then 10 else ρ i) (ring++[y]) hand:=by
 refine⟨⟨rv,hits,fills,os,hK,ex,λb aj=> ?_⟩,mp,λz aP=> ?_,?_,?_,k.db⟩
 ·rw[if_neg,if_pos aj];rintro rfl;rcases wh _ aj with h1|h1
  ·omega
  ·omega
 ·rcases List.mem_append.1 aP with aP|aP
  ·obtain⟨k4,jk⟩:=k.fx z aP;have jg:=ay z.id (by omega);refine⟨k4.az u jg (λe=>(dq _ jg e).1 jk),?_⟩;rw[if_neg (λe=>by rw[e]at jk;omega),if_neg,jk];intro aj;rcases wh _ aj with h1|h1<;>omega
  ·rw[List.mem_singleton]at aP;subst aP;exact⟨hV.az u aq.2 (λe=>(dq _ aq.2 e).2 rfl),if_pos rfl⟩
 ·refine List.pairwise_append.2 ⟨k.keys,List.pairwise_singleton _ _,λa bc b aj=> ?_⟩;rw[List.mem_singleton]at aj;subst aj;exact aw a bc
 ·rw[List.length_append,List.length_singleton];omega
theorem acw(k:Core h X ρ σ){f p:Int}(aw:∀y,y∈σ.ring->¬(y.file=f/\y.bM=p))(n1:σ.free=cq (λf=>σ.held f==0) X.A.n)(uq:0<σ.free->σ.ring.length<4096) :
  bh (call J PV (.func 246 [] []) [.ptr X.k 0,hQ f p] h) λv g=>c2 ρ h g/\
   ((fileAt X.F.cb σ.sec f p=none/\v=.tuple [.int .i64 0,.int .i64 14]/\Core g X ρ σ)\/
    (fileAt X.F.cb σ.sec f p≠none/\σ.free=0/\v=.tuple [.int .i64 0,.int .i64 18]/\Core g X ρ σ)\/
    ∃m fr id bD,fileAt X.F.cb σ.sec f p=some m/\fr<X.A.n/\σ.held fr=0/\v=.tuple [.int .i64 (fr:Nat),.int .i64 0]/\(∀i,i<h.next->bD i=ρ i)/\
     Core g X bD {σ with mem:=az σ.mem fr m,held:=az σ.held fr 2,free:=σ.free-1,ring:=σ.ring++[⟨id,f,p,fr,false⟩]}):=by
 refine bh.mk (λe=>Vn (first:=[]) (cap:=[]) e rfl) ?_;unfold IK;refine cM (Of (cs:=[.int .i64 f,.int .i64 p]) rfl) λg1 ct dR bb=> ?_
 have cf:bf g1 (g1.aB 11):=aM.aB _ _ _;have bk:=(k.ext bb).ext cf;have or:=ct.ext cf (by omega);obtain⟨_,_,_,s1,s2,_⟩:=bk.dX.field;have ay:=akI bk.dX.map aw;unfold hQ at ay;rw[dd]at s2 s1;have amB:=Obj.get ct (i:=0) rfl;have amC:=Obj.get ct (i:=1) rfl;simp only[A5,ar,ba,Bool.false_eq_true,if_false,cl,DJ,Nat.zero_add,DN,dd,s2];rw[o8 or (by simp)];simp only[ar,List.drop_zero,List.take_succ_cons,List.take_zero];rw[ay];simp only[ar,dA,List.getElem?_cons_zero,List.getElem?_cons_succ,eh,ba,Bool.false_eq_true,if_false,cl,ap9,Nat.zero_add,aqg,dd,s1,ap2,ap3,cW,amB,amC];have OV:bf (g1.aB 11) ((g1.aB 11).aB 14):=aM.aB _ _ _;have b_:=bk.ext OV;have amD:=or.ext OV (by have:(g1.aB 11).next=g1.next+11:=rfl;omega);have kx:((g1.aB 11).aB 14).next=h.next+26:=by show g1.next+11+14=_;omega
 have dT:c2 ρ h ((g1.aB 11).aB 14):=c2.ext ((bb.trans cf).trans OV);cases K0:fileAt X.F.cb σ.sec f p with
 |none=>
  refine b4 (am7 (sec:=σ.sec) b_.fl K0) ?_;rintro _ g3 ⟨rfl,bR⟩;simp only[ar,dA,List.getElem?_cons_zero,List.getElem?_cons_succ,dP,ba];rw[if_pos (by decide)];exact aV.pure ⟨dT.trans (c2.ext (ρ:=ρ) bR) (λ_ _=>rfl),.inl ⟨by simp,rfl,b_.ext bR⟩⟩
 |some m=>
  refine b4 (aeu b_.fl b_.jV K0) ?_;rintro _ g3 ⟨rfl,d3,bR⟩;have b3:Core g3 X ρ σ:=b_.vO d3 (bR.mono λi _ e=>.inl e);have eJ:c2 ρ h g3:=dT.trans (c2.of (ρ:=ρ) bR λi _ e=>by subst e;have:=k.f';omega) (λ_ _=>rfl);have av:=k.gH;have h6:=k.e3;have Lg:=ad4 K0
  have h':ρ h.next=0:=by
   rcases Nat.eq_zero_or_pos (ρ h.next)with e|e
   ·exact e
   ·have:=k.lt h.next (by omega);omega
  have amE:=c2.c0 (ρ:=ρ) (c2.of bR λi _ e=>by subst e;have:=k.f';omega) amD (by omega) h';obtain⟨_,_,gb,_⟩:=b3.dX.field;simp only[ar,dA,List.getElem?_cons_zero,List.getElem?_cons_succ,dP,ba];rw[if_neg (by decide)];simp only[cl,ar,A0,ha,gb];by_cases aP:σ.free=0
  ·have aI:=b3.ps.p;rw[aP]at aI;rw[apK aI];simp only[c3,ar,dA,List.getElem?_cons_zero,List.getElem?_cons_succ,dP,ba];rw[if_pos (by decide)];exact aV.pure ⟨eJ,.inr (.inl ⟨by simp,aP,rfl,b3⟩)⟩
  ·obtain⟨fr,f1,f2,g4,e0,tn,bO⟩:=HV b3.ps.p n1 (by omega);rw[e0];have c7:=b3.m1 tn (bO.mono λi _ e=>e);have fq:c2 ρ h g4:=eJ.trans (c2.of (ρ:=ρ) bO λi _ e=>by have:=k.mv e;omega) (λ_ _=>rfl);have amF:=c2.c0 (ρ:=ρ) (c2.of bO λi _ e=>by have:=k.mv e;omega) amE (by have:=bR.next;omega) h';obtain⟨_,_,NL,_⟩:=c7.dX.field;simp only[c3,ar,dA,List.getElem?_cons_zero,List.getElem?_cons_succ,dP,ba];rw[if_neg (by decide)];simp only[cl,ar,A0,ha,NL];obtain⟨g5,fJ,Nj,cD⟩:=Tf c7.ps.p f1 (m:=m) (by simp[az]) Lg;rw[fJ];have dQ:=c7.m1 Nj (cD.mono λi _ e=>.inl e);have v5:c2 ρ g4 g5:=c2.of cD λi _ e=>by subst e;omega
   have gf:c2 ρ h g5:=fq.trans v5 (λ_ _=>rfl);have uU:=v5.c0 amF (by have:=bR.next;have:=bO.next;omega) h';have uu:h.next+26<=g5.next:=by have:=bR.next;have:=bO.next;have:=cD.next;omega
   simp only[c3];rw[o8 uU (by simp)];simp only[ar,List.drop_zero,List.take_succ_cons,List.take_zero];rw[show(aa.agg [.int .i64 f,.int .i64 p])=hQ f p from rfl,abQ];simp only[ar];refine cM (apV (cs:=[.int .i64 f,.int .i64 p,.int .i64 (fr:Nat),.bool false]) rfl) λg6 eO n6 cJ=> ?_
   have vh:bf g6 (g6.aB 7):=aM.aB _ _ _;have eL:=(dQ.ext cJ).ext vh;obtain⟨_,_,_,_,HB,_⟩:=eL.dX.field;rw[dd]at HB;have M_:=(uU.ext cJ (by omega)).ext vh (by omega);simp only[DJ,Nat.zero_add,ar,DN,dd,HB];rw[o8 M_ (by simp)];simp only[ar,List.drop_zero,List.take_succ_cons,List.take_zero];let y:dj:=⟨g5.next,f,p,fr,false⟩;have amZ:a8.Obj (g6.aB 7) g5.next y.vs:=eO.ext vh (by omega);refine cX (aqT (y:=y) eL.dX.map aw) λg7 ⟨akW,fk,n7⟩=> ?_
   have F4:(g6.aB 7).next=g5.next+8:=by show g6.next+7=_;omega
   have ats:g7.next=g5.next+8:=by omega
   obtain⟨rv,hits,fills,os,hK,ex,dO⟩:=eL.dX.str;have lQ:=k.lt X.k (by omega);have pS:=k.lt X.m (by omega);have WH:=os.az fk (by omega) (λe=>by rw[e]at av;omega);have O6:=hK.az fk (λb aj e=>by have:=dO b aj;rw[e]at this;omega);simp only[eh,cl,wX,Nat.zero_add,ar,wY,Obj.get WH (i:=3) rfl];refine cM (ab3 _ _) λg8 iM n8 u8=> ?_
   have Nb:=WH.ext u8 (by omega)
   obtain⟨w,g9,t_,Im,adR,gy,⟨asz,afb,afc,TJ⟩,yZ,ws⟩:=(O6.ext u8).push (T:=293) (si:=q3) (ie:=q4) (by kernel_rfl) rfl (by kernel_rfl) rfl (by decide) ex (xcap:=1) (xex:=true) iM rfl rfl (by
    rw[List.length_map,List.length_map];have:=uq (by omega);show roomy (σ.ring.length+1) 8=true;unfold roomy;rw[Bool.and_eq_true,ec,ec]
    omega)
   rw[show q4.size=1 from rfl]at t_;rw[t_]
   have Dj:∀b,cI rv=some b->b≠X.k/\b≠X.m/\b≠h.next/\b<h.next/\b≠g5.next:=λb aj=>by have:=dO b aj;have:=k.lt b (by omega);refine⟨λe=> ?_,λe=> ?_,by omega,by omega,by omega⟩<;>(rw[e]at this;subst e;omega)
   have Hj:=Nb.az gy (by omega) (λe=>(Dj _ e).1 rfl);have agB:=gy.next;simp only[c3,ar];refine cX (YJ (k:=3) (v:=w) Hj (by simp) yZ ws) λg10 ⟨m0,iw,n10⟩=> ?_
   simp only[List.set_cons_succ,List.set_cons_zero]at m0;have bm:=Obj.get m0 (i:=6) rfl;simp only[ap',Nat.zero_add,ar,cW,bm,du];refine cX (m5 (k:=6) (v:=.int .i64 (b0 .i64 (fills+1))) m0 (by simp) rfl rfl) λg11 ⟨An,iZ,n11⟩=> ?_
   simp only[List.set_cons_succ,List.set_cons_zero]at An;let S:Nat->Prop:=λi=>i=X.m\/i=X.k\/cI rv=some i
   have Bd:aM S (g6.aB 7) g11:=by
    have ao:aM S (g6.aB 7) g7:=fk.mono λi _ e=>.inl e
    have a2:aM S g7 g8:=aM.ext u8;have a3:aM S g8 g9:=gy.mono λi _ e=>.inr (.inr e)
    have a4:aM S g9 g10:=iw.mono λi _ e=>.inr (.inl e)
    have a5:aM S g10 g11:=iZ.mono λi _ e=>.inr (.inl e)
    exact(((ao.trans a2).trans a3).trans a4).trans a5
   have oQ:∀b,cI w=some b->(ρ b=10\/(g6.aB 7).next<=b)/\b<g9.next/\b≠X.k/\b≠X.m:=λb aj=>by
    rw[afb]at aj;cases aj;refine⟨?_,afc,?_⟩
    ·rcases TJ with e|e
     ·exact .inl (dO _ e)
     ·exact .inr (by omega)
    ·rcases TJ with e|e
     ·exact⟨(Dj _ e).1,(Dj _ e).2.1⟩
     ·constructor<;>omega
   have O4:=(Im.az iw (λb aj e=>(oQ b aj).2.2.1 e)).az iZ (λb aj e=>(oQ b aj).2.2.1 e)
   have Mp:lC g11 X.m (σ.ring++[y]):=by
    have eA:=akW.az u8 (by omega) (λe=>e);have gr:=eA.az gy (by omega) (λe=>(Dj _ e).2.1 rfl);have mk:X.m≠X.k:=λe=>by rw[e]at av;omega
    exact(gr.az iw (by omega) mk).az iZ (by omega) mk
   have aoe:ρ g5.next=0:=by
    rcases Nat.eq_zero_or_pos (ρ g5.next)with e|e
    ·exact e
    ·have:=k.lt g5.next (by omega);omega
   have EX:=eL.dX.more (g:=g11) (y:=y) eL.lt eL.gH amZ ⟨aoe,by show g5.next<_;omega⟩ aw (uq (by omega)) (rv:=w) (hits:=hits) (fills:=b0 .i64 (fills+1)) An (by
    rw[show((σ.ring++[y]).map λy=>aa.ptr y.id 0).map one=((σ.ring.map λy=>aa.ptr y.id 0).map one)++[[aa.ptr g5.next 0]]by simp[one,y]]
    exact O4) adR (λb aj=>(oQ b aj).1) Mp Bd (λi af e=>by
     rcases e with rfl|rfl|e
     ·exact⟨by omega,by show X.m≠g5.next;omega⟩
     ·exact⟨by omega,by show X.k≠g5.next;omega⟩
     ·exact⟨by rw[dO _ e];decide,(Dj _ e).2.2.2.2⟩)
   have ki:∀i,i<h.next->(λi=>if i=y.id then 11 else if cI w=some i then 10 else ρ i) i=ρ i:=λi af=>by
    show(if i=g5.next then 11 else if cI w=some i then 10 else ρ i)=ρ i;rw[if_neg (by omega)];by_cases e:cI w=some i
    ·rw[if_pos e];rcases(oQ i e).1 with de|de
     ·exact de.symm
     ·omega
    ·rw[if_neg e]
   have CC:∀i,i<g5.next->(λi=>if i=y.id then 11 else if cI w=some i then 10 else ρ i) i=ρ i:=λi af=>by
    show(if i=g5.next then 11 else if cI w=some i then 10 else ρ i)=ρ i;rw[if_neg (by omega)];by_cases e:cI w=some i
    ·rw[if_pos e];rcases(oQ i e).1 with de|de
     ·exact de.symm
     ·omega
    ·rw[if_neg e]
   have aat:aM S g5 g11:=(aM.ext (cJ.trans vh)).trans Bd
   have s':=dQ.cache EX aat (λi af e=>by
     rcases e with rfl|rfl|e
     ·omega
     ·omega
     ·rw[dO _ e];decide) CC (λi af=>by
    have fh:(if i=g5.next then 11 else if cI w=some i then 10 else ρ i)≠0:=af;by_cases aG:i=g5.next
    ·omega
    ·rw[if_neg aG]at fh;by_cases aT:cI w=some i
     ·have:=(oQ i aT).2.1;omega
     ·rw[if_neg aT]at fh
      have:=k.lt i fh;omega)
   simp only[A0,cl,ar,ha,Obj.get An (i:=0) rfl];obtain⟨g12,adl,Hl,jC⟩:=Lp s'.ps.p f1 (by simp[az]) (by simp[az]);rw[adl];have Gz:=s'.m1 Hl (jC.mono λi _ e=>.inr (.inl e));simp only[c3]
   have v12:c2 ρ g5 g11:=c2.of aat λi af e=>by
    rcases e with rfl|rfl|e
    ·omega
    ·omega
    ·rw[dO _ e];decide
   have agZ:∀i,i<h.next->(λi=>if i=y.id then 11 else if cI w=some i then 10 else ρ i) i=ρ i:=ki;have q9:c2 ρ g11 g12:=c2.of jC λi _ e=>by subst e;omega
   refine aV.pure ⟨(gf.trans v12 (λ_ _=>rfl)).trans q9 (λ_ _=>rfl),.inr (.inr ⟨m,fr,g5.next,_,rfl,f1,f2,rfl,agZ,?_⟩)⟩;simp only[OT,e4]at Gz;exact Gz
end
end
section
variable{PV:cn} [cN PV]
def mY(y:dj) :Nat×Int×Int×Nat:=(y.id,y.file,y.bM,y.fr)
section
variable{h g:ae}{X:ew}{ρ bD:Nat->Nat}{σ:b8}{ring:List dj}{hand:Nat}
theorem Core.Kl(k:Core h X ρ σ){i:Nat}(af:h.next<=i) :ρ i=0:=by
 rcases Nat.eq_zero_or_pos (ρ i)with e|e
 ·exact e
 ·have:=k.lt i (by omega);omega
theorem adK(k:Core h X ρ σ){eV:Nat}(ob:a8.Obj h eV [.ptr X.k 0]){pre post:List dj}{y:dj}(an:σ.ring=pre++y::post)(aJ:y.fr<X.A.n) :
  bh (call J PV (.func 316 [] [.ptr eV 0]) [.ptr y.id 0] h) λv g=>∃b fr,v=.bool b/\(b=true->σ.held y.fr<=1)/\Core g X ρ {σ with ring:=pre++{y with fresh:=fr}::post}/\c2 ρ h g:=by
 refine bh.mk (λe=>aj6 (first:=[]) (mid:=[_]) (cap:=[_]) e rfl) ?_;unfold QY;have cf:bf h (h.aB 10):=aM.aB _ _ _;have bk:=k.ext cf;have aq:y∈σ.ring:=by rw[an];simp
 obtain⟨wI,iO⟩:=bk.dX.fx y aq;obtain⟨_,_,gb,_⟩:=bk.dX.field;have gO:=Obj.get wI (i:=2) rfl;have ym:=Obj.get wI (i:=3) rfl;rw[dd]at gb gO;have same:({σ with ring:=pre++{y with fresh:=y.fresh}::post} :b8)=σ:=by rw[<-an]
 simp only[o7,dd,Obj.get ob (i:=0) rfl,ar,cl,A0,ha,gb,H0,Nat.zero_add,cW,gO,FO bk.ps.p aJ,c3,iT,eh,ba];by_cases c:(1:Int) <(σ.held y.fr:Int)
 ·rw[if_pos (by simpa using c)];exact aV.pure ⟨false,y.fresh,rfl,by simp,by rw[same];exact bk,c2.ext cf⟩
 ·rw[if_neg (by simpa using c)];simp only[cl,ar,Ys,Nat.zero_add,km,ym];refine cX (YK (k:=3) (v:=.bool false) wI (by simp[dj.vs]) rfl rfl) λg2 ⟨cE,bn,eN⟩=> ?_
  have cp:=bk.dX.mark bk.lt bk.gH an (b:=false) cE bn;have b_:=bk.cache cp bn (λi af e=>by subst e;omega) (λ_ _=>rfl) (λi af=>by rw[eN];exact bk.lt i af);simp only[fD,ar];exact aV.pure ⟨_,false,rfl,λ_=>by omega,b_,(c2.ext cf).trans (c2.of (ρ:=ρ) bn λi _ e=>by subst e;omega) (λ_ _=>rfl)⟩
theorem kK.less(k:kK h X ρ ring hand)(ay:∀i,ρ i≠0->i<h.next){pre post:List dj}{y:dj}(an:ring=pre++y::post){g:ae}{rv:aa}{hits fills:Int}{sO:Nat}
  (os:a8.Obj g X.k [.ptr X.A.p 0,.ptr X.F.f 0,.map X.m,rv,.int .i64 sO,.int .i64 hits,.int .i64 fills]) (hK:gg g 1 rv (((pre++post).map λy=>aa.ptr y.id 0).map one)) (ex:oO rv=true)
  (wh:∀b,cI rv=some b->ρ b=10) (mp:lC g X.m (pre++post)) {S:Nat->Prop} (u:aM S h g) (dq:∀i,i<h.next->S i->ρ i≠11) (aD:sO<=4096) :kK g X ρ (pre++post) sO:=by
 refine⟨⟨rv,hits,fills,os,hK,ex,wh⟩,mp,λz aP=> ?_,?_,?_,aD⟩
 ·obtain⟨k4,jk⟩:=k.fx z (by rw[an];exact fe.2 (.inr aP));have jg:=ay z.id (by omega);exact⟨k4.az u jg (λe=>dq _ jg e jk),jk⟩
 ·have av:=k.keys;rw[an]at av;exact((jA (R:=λa b:dj=>¬(a.file=b.file/\a.bM=b.bM)) (λa b aw aD=>aw ⟨aD.1.symm,aD.2.symm⟩)).1 av).2
 ·have:=k.nj;rw[an]at this;simp at this|-;omega
theorem Ve{a b:List dj}(h:a.map mY=b.map mY) :a.length=b.length:=by have:=congrArg List.length h;simpa using this
theorem ase:dY J 182 []=some (.agg [.int .i64 0,.int .i64 0]):=by kernel_rfl
theorem adL(k:Core h X ρ σ)(n':∀y,y∈σ.ring->y.fr<X.A.n/\σ.held y.fr≠0)(rG:σ.free<2^60) :
  bh (call J PV (.func 236 [] []) [.ptr X.k 0] h) λv g=>c2 ρ h g/\∃gu,gu.map mY=σ.ring.map mY/\
   ((v=.tuple [.agg [.int .i64 0,.int .i64 0],.bool false]/\Core g X ρ {σ with ring:=gu})\/
    ∃pre y post sO,gu=pre++y::post/\σ.held y.fr=1/\v=.tuple [hQ y.file y.bM,.bool true]/\Core g X ρ {σ with ring:=pre++post,hand:=sO,held:=az σ.held y.fr 0,free:=σ.free+1}):=by
 refine bh.mk (λe=>ajD (first:=[]) (cap:=[]) e rfl) ?_;unfold Qx;refine cM (apN (cs:=[.ptr X.k 0]) rfl) λg1 ct dR bb=> ?_
 refine cM DF λg2 cE eN bn=> ?_
 have iq:=ct.ext bn (by omega);have b_:=k.ext (bb.trans bn);obtain⟨rv,hits,fills,os,hK,ex,dO⟩:=b_.dX.str;have ay:=hK.len (T:=293) (si:=q3) (by kernel_rfl) rfl;rw[List.length_map,List.length_map]at ay;have uq:=b_.dX.nj;have as7:=b_.dX.db;have aG:b0 .i64 (2*(σ.ring.length:Int))=((2*σ.ring.length:Nat) :Int):=by rw[wrap_i64 (by omega) (by omega)];omega
 have yr:ρ h.next=0:=k.Kl (Nat.le_refl _);have uY:ρ g1.next=0:=k.Kl (by omega);simp only[o7,Obj.get iq (i:=0) rfl,ar,A5,ba,Bool.false_eq_true,if_false,cl,wX,Nat.zero_add,wY,Obj.get os (i:=3) rfl,ay,nh,aG]
 refine hX (n:=14) (I:=λi vs g=>vs=[.int .i64 (-1),.int .i64 (i:Nat)]/\∃gu,gu.map mY=σ.ring.map mY/\Core g X ρ {σ with ring:=gu}/\c2 ρ g2 g) (m:=2*σ.ring.length)
  (P:=λx vs g=>x=.exit 0/\∃gu,gu.map mY=σ.ring.map mY/\Core g X ρ {σ with ring:=gu}/\c2 ρ g2 g/\
    ((∃c,vs=[.int .i64 (-1),c])\/∃pre y post c,vs=[.int .i64 (pre.length:Nat),c]/\gu=pre++y::post/\σ.held y.fr<=1)) (Nat.lt_of_le_of_lt (show 2*σ.ring.length<=8192 by omega) (by decide)) ⟨rfl,σ.ring,rfl,b_,c2.ext (aM.refl _ _)⟩ ?_ ?_
 ·rintro i _ aE af ⟨rfl,gu,al,c7,bO⟩;have hlen:=Ve al;simp only[bz,bp,dk,ar,ba];by_cases c:(i:Int) <((2*σ.ring.length:Nat) :Int)
  ·rw[if_pos (by simpa using c)];have ml:0<σ.ring.length:=by omega
   have iX:=bO.c0 iq (by omega) yr;obtain⟨_,_,_,_,_,m2⟩:=c7.dX.field;obtain⟨AI,as',asN,Na,ard,gi,W5⟩:=c7.dX.str;have aT:b0 .i64 ((σ.hand:Int) +(i:Int))=((σ.hand+i:Nat) :Int):=by rw[wrap_i64 (by omega) (by omega)];omega
   have bJ:((σ.hand+i:Nat) :Int).tmod (σ.ring.length:Int)=(((σ.hand+i) %σ.ring.length:Nat) :Int):=rfl;have b6:(σ.hand+i) %σ.ring.length<gu.length:=by rw[hlen];exact Nat.mod_lt _ ml
   generalize T2:(σ.hand+i) %σ.ring.length=g_ at b6 bJ;obtain⟨pre,y,post,ep,ky⟩ :∃pre y post,gu=pre++y::post/\pre.length=g_:=⟨gu.take g_,gu[g_],gu.drop (g_+1),by rw[<-List.drop_eq_getElem_cons b6,List.take_append_drop],by rw[List.length_take];omega⟩
   have me:((gu.map (λy=>aa.ptr y.id 0)).map one)[g_]? =some [aa.ptr y.id 0]:=by rw[ep,<-ky];simp[one]
   obtain⟨b,cap,Fl,l,ai,aj,ol,oU,_,_,hE⟩:=ard.at me;rw[List.length_map,List.length_map]at ai oU;have iE:=hE 0 (by decide);rw[Nat.mul_one,Nat.add_zero]at iE;have HC:bP aE X.k 4=some (.int .i64 (σ.hand:Nat)):=m2;simp only[o7,Obj.get iX (i:=0) rfl,ar,cl,On,Nat.zero_add,cW,HC,du,aT,tR .i64 (show(σ.ring.length:Int)≠0 by omega),bJ,wX,wY,Obj.get Na (i:=3) rfl,ai,Ov oU,Ox,iE,List.getElem?_cons_zero]
   have FU:y.fr<X.A.n:=by
    have:mY y∈σ.ring.map mY:=by rw[<-al,ep];simp
    obtain⟨z,aP,LM⟩:=List.mem_map.1 this;have LL:z.fr=y.fr:=by have:=congrArg (λq=>q.2.2.2) LM;exact this
    rw[<-LL];exact(n' z aP).1
   refine b4 (adK c7 iX ep FU) ?_;rintro _ g6 ⟨dK,sI,rfl,kW,eL,cJ⟩;have TE:(pre++{y with fresh:=sI}::post).map mY=σ.ring.map mY:=by rw[<-al,ep];simp[mY]
   simp only[ba];cases dK with
   |true=>
    rw[if_pos rfl];exact aV.pure (.inr ⟨by simp,rfl,_,TE,eL,bO.trans cJ (λ_ _=>rfl),.inr ⟨pre,_,post,_,by rw[ky],rfl,kW rfl⟩⟩)
   |false=>
    rw[if_neg (by decide)];have e0:b0 .i64 ((i:Int) +1)=((i+1:Nat) :Int):=by rw[wrap_i64 (by omega) (by omega)];omega
    simp only[du,e0,ar];exact aV.pure (.inl ⟨rfl,by omega,rfl,_,TE,eL,bO.trans cJ (λ_ _=>rfl)⟩)
  ·rw[if_neg (by simpa using c)];exact aV.pure (.inr ⟨by simp,rfl,gu,al,c7,bO,.inl ⟨_,rfl⟩⟩)
 ·rintro _ vs aL ⟨rfl,gu,al,dQ,cD,xB⟩;have dT:c2 ρ h g2:=c2.ext (bb.trans bn);have gf:=dT.trans cD (λ_ _=>rfl);have nF:=cD.c0 iq (by omega) yr;have Ao:=cD.c0 cE (by omega) uY;have n5:=cD.next;rcases xB with⟨c,rfl⟩ |⟨pre,y,post,c,rfl,ep,hle⟩
  ·simp only[bz,bp,hs,if_true,dk,ar,ba];rw[if_pos (by decide),ase,ar];refine cX (A8 (k:=0) (cs:=[.int .i64 0,.int .i64 0]) Ao rfl (by simp) rfl) λg6 ⟨eO,cJ,n6⟩=> ?_
   have eO:=ff eO rfl;rw[o8 eO (by simp)];have D4:c2 ρ h g6:=aM.local gf cJ (λi af e=>by omega);have eL:Core g6 X ρ {σ with ring:=gu}:=dQ.c0 cJ (λi e af=>.inl (by subst e;exact uY)) (λ_ _=>rfl) (λi af=>by rw[n6];exact dQ.lt i af);exact aV.pure ⟨D4,gu,al,.inl ⟨rfl,eL⟩⟩
  ·have hlen:=Ve al;have hP:pre.length+post.length+1=σ.ring.length:=by rw[<-hlen,ep];simp;omega
   have FU:y.fr<X.A.n/\σ.held y.fr≠0:=by
    have:mY y∈σ.ring.map mY:=by rw[<-al,ep];simp
    obtain⟨z,aP,LM⟩:=List.mem_map.1 this;have LL:z.fr=y.fr:=by have:=congrArg (λq=>q.2.2.2) LM;exact this
    rw[<-LL];exact n' z aP
   have h1:σ.held y.fr=1:=by omega
   have av:=k.gH;have h6:=k.e3;obtain⟨aor,ata,asO,amI,Ed,BX,aub⟩:=dQ.dX.str;have T9:(gu.map λy=>aa.ptr y.id 0)=pre.map (λy=>aa.ptr y.id 0)++aa.ptr y.id 0::post.map (λy=>aa.ptr y.id 0):=by rw[ep];simp
   have me:((gu.map (λy=>aa.ptr y.id 0)).map one)[pre.length]? =some [aa.ptr y.id 0]:=by rw[ep];simp[one]
   obtain⟨b,cap,Fl,l,ai,aj,ol,oU,_,_,hE⟩:=Ed.at me;rw[List.length_map,List.length_map]at ai oU;have iE:=hE 0 (by decide);rw[Nat.mul_one,Nat.add_zero]at iE;have fm:¬((pre.length:Nat) :Int) <0:=by omega
   simp only[bz,bp,hs,if_true,dk,decide_eq_false fm,ar,ba,Bool.false_eq_true,if_false,o7,Obj.get nF (i:=0) rfl,cl,wX,Nat.zero_add,wY,Obj.get amI (i:=3) rfl];have T2:cZ J 293 aor (.int .i64 (pre.length:Nat))=some (.ptr b (0+pre.length)):=by rw[ai];exact Ov oU
   rw[T2];have vg:bf aL (aL.aB 9):=aM.aB _ _ _;have CZ:=dQ.ext vg;obtain⟨wI,iO⟩:=dQ.dX.fx y (by rw[ep];simp);have ahO:=dQ.lt y.id (by omega);have ans:=Obj.get wI (i:=2) rfl;obtain⟨_,_,gb,_⟩:=dQ.dX.field;have NL:bP aL X.k 0=some (.ptr X.A.p 0):=gb;simp only[ar,Nat.zero_add,Ox,iE,List.getElem?_cons_zero,o7,dd,Obj.get nF (i:=0) rfl,cl,A0,ha,NL,H0,cW,ans];obtain⟨cz,nU,Nk,u8⟩:=BM CZ.ps.p FU.1 FU.2 (by show σ.held y.fr<_;omega) rG;rw[nU];have pK:=CZ.m1 Nk (u8.mono λi _ e=>.inr e);have n8:=u8.next;have atm:(aL.aB 9).next=aL.next+9:=rfl
   have bA:c2 ρ (aL.aB 9) cz:=c2.of u8 λi _ e=>by rcases e with rfl|rfl<;>omega
   have hL:=(gf.trans (c2.ext (ρ:=ρ) vg) (λ_ _=>rfl)).trans bA (λ_ _=>rfl);have G9:=bA.c0 (nF.ext vg (by omega)) (by omega) yr;have al_:=bA.c0 (Ao.ext vg (by omega)) (by omega) uY;have ant:=(wI.ext vg ahO).az u8 (by omega) (λe=>by rcases e with e|e<;>(rw[e]at iO;omega));have w4:bf cz (cz.aB 9):=aM.aB _ _ _;have agA:(cz.aB 9).next=cz.next+9:=rfl
   have x8:=pK.ext w4;obtain⟨_,_,_,_,s2,_⟩:=pK.dX.field;have HB:bP cz X.k 2=some (.map X.m):=s2;have WZ:=ant.ext w4 (by omega);simp only[c3,eh,o7,dd,Obj.get G9 (i:=0) rfl,ar,cl,DJ,Nat.zero_add,DN,HB,Oo];rw[o8 WZ (by simp[dj.vs])];simp only[ar,dj.vs,List.drop_zero,List.take_succ_cons,List.take_zero];have xM:=x8.dX.keys
   have xQ:∀z,z∈pre->¬(z.file=y.file/\z.bM=y.bM):=λz aP=>by
    have T6:gu.Pairwise λa b=>¬(a.file=b.file/\a.bM=b.bM):=xM
    rw[ep]at T6;exact(List.pairwise_append.1 T6).2.2 z aP y (by simp)
   have alv:lC (cz.aB 9) X.m (pre++y::post):=by rw[<-ep];exact x8.dX.map
   refine cX (adb alv xQ) λg9 ⟨akX,gy,n9⟩=> ?_
   have lQ:=k.lt X.k (by omega);have pS:=k.lt X.m (by omega);have mk:X.m≠X.k:=λe=>by rw[e]at av;omega
   have iz:c2 ρ h g9:=(hL.trans (c2.ext (ρ:=ρ) w4) (λ_ _=>rfl)).trans (c2.of (ρ:=ρ) gy λi _ e=>by subst e;omega) (λ_ _=>rfl);have v9:c2 ρ (cz.aB 9) g9:=c2.of gy λi _ e=>by subst e;omega
   have G_:=v9.c0 (G9.ext w4 (by omega)) (by omega) yr;have al':=v9.c0 (al_.ext w4 (by omega)) (by omega) uY;have anu:=WZ.az gy (by omega) (λe=>by rw[e]at iO;omega);obtain⟨Xu,af9,ad8,Nb,ari,adQ,wN⟩:=x8.dX.str;have Hj:=Nb.az gy (by omega) (λe=>mk e.symm);have Im:=ari.az gy (λb aj e=>by have:=wN b aj;rw[e]at this;omega);have w5:bf g9 (g9.aB 12):=aM.aB _ _ _;have ato:(g9.aB 12).next=g9.next+12:=rfl
   have fJ:b0 .i64 ((pre.length:Int) +1)=((pre.length+1:Nat) :Int):=by rw[wrap_i64 (by omega) (by omega)];omega
   simp only[eh,o7,dd,Obj.get G_ (i:=0) rfl,ar,cl,wX,Nat.zero_add,wY,Obj.get Hj (i:=3) rfl,du,fJ];have atg:(({σ with mem:=σ.mem,held:=az σ.held y.fr (σ.held y.fr-1),free:=if σ.held y.fr=1 then σ.free+1 else σ.free,ring:=gu} :b8).ring.map λy=>aa.ptr y.id 0)=pre.map (λy=>aa.ptr y.id 0)++aa.ptr y.id 0::post.map (λy=>aa.ptr y.id 0):=T9;rw[show(List.map (λy=>aa.ptr y.id 0) gu)=pre.map (λy=>aa.ptr y.id 0)++aa.ptr y.id 0::post.map (λy=>aa.ptr y.id 0)from T9]at Im;have TQ:=ac_ (Im.ext w5) adQ (λz aP=>by obtain⟨q,_,rfl⟩:=List.mem_map.1 aP;rfl) (by simp;omega);rw[List.length_map]at TQ;refine b4 TQ ?_;rintro fN g10 ⟨are,adN,iw,FL,yZ,ws⟩;have anI:∀b,cI fN=some b->ρ b=10:=λb aj=>wN b (by rw[<-FL];exact aj)
   have C9:∀i,cI Xu=some i->i≠X.k/\i≠X.m:=λi af=>⟨λe=>by have:=wN i af;rw[e]at this;omega,λe=>by have:=wN i af;rw[e]at this;omega⟩
   have v10:c2 ρ (g9.aB 12) g10:=c2.of iw λi _ e=>by rw[wN i e];decide
   have ark:=(iz.trans (c2.ext (ρ:=ρ) w5) (λ_ _=>rfl)).trans v10 (λ_ _=>rfl);have agw:=iw.next;have amH:=(Hj.ext w5 (by omega)).az iw (by omega) (λe=>(C9 _ e).1 rfl);have V8:=v10.c0 (G_.ext w5 (by omega)) (by omega) yr;have al6:=v10.c0 (al'.ext w5 (by omega)) (by omega) uY;have ano:=(anu.ext w5 (by omega)).az iw (by omega) (λe=>by have:=wN _ e;omega);have akS:=(akX.az w5 (by omega) (λe=>e)).az iw (by omega) (λe=>(C9 _ e).2 rfl);refine cX (YJ (k:=3) (v:=fN) amH (by simp) yZ ws) λg11 ⟨An,iZ,n11⟩=> ?_
   simp only[List.set_cons_succ,List.set_cons_zero]at An;have v11:c2 ρ g10 g11:=c2.of iZ λi _ e=>by subst e;omega
   have V9:=v11.c0 V8 (by omega) yr;have al7:=v11.c0 al6 (by omega) uY;have anp:=ano.az iZ (by omega) (λe=>by rw[e]at iO;omega);have Mp:=akS.az iZ (by omega) mk;have O4:=are.az iZ (λb aj e=>(C9 b (by rw[<-FL];exact aj)).1 e);rw[ze (Obj.get V8 (i:=0) rfl),eh];simp only[o7,Obj.get V9 (i:=0) rfl,ar,cl,On,Nat.zero_add];refine cX (m5 (k:=4) (v:=.int .i64 (pre.length:Nat)) An (by simp) rfl rfl) λg12 ⟨G7,jC,n12⟩=> ?_
   simp only[List.set_cons_succ,List.set_cons_zero]at G7;have v12:c2 ρ g11 g12:=c2.of jC λi _ e=>by subst e;omega
   have al3:=v12.c0 V9 (by omega) yr;have al8:=v12.c0 al7 (by omega) uY;have anq:=anp.az jC (by omega) (λe=>by rw[e]at iO;omega);have akT:=Mp.az jC (by omega) mk;have aaF:=O4.az jC (λb aj e=>(C9 b (by rw[<-FL];exact aj)).1 e);have agd:=aaF.len (T:=293) (si:=q3) (by kernel_rfl) rfl;simp only[o7,Obj.get al3 (i:=0) rfl,ar,cl,wX,On,Nat.zero_add,wY,Obj.get G7 (i:=3) rfl,agd,dn,ba];refine fO (P:=λx vs g=>x=.normal/\vs=[]/\∃aC:Nat,aC<=4096/\a8.Obj g X.k [.ptr X.A.p 0,.ptr X.F.f 0,.map X.m,fN,.int .i64 aC,.int .i64 af9,.int .i64 ad8]/\aM (λi=>i=X.k) g12 g/\g.next=g12.next) ?_ ?_
   ·by_cases c:((pre.length:Nat) :Int)=(((pre.map (λy=>aa.ptr y.id 0)++post.map (λy=>aa.ptr y.id 0)).map one).length:Nat)
    ·rw[if_pos (by simpa using c)];refine cX (m5 (k:=4) (v:=.int .i64 0) G7 (by simp) rfl rfl) λg13 ⟨jz,k9,n13⟩=> ?_
     exact aV.pure ⟨rfl,rfl,0,by decide,jz,k9,n13⟩
    ·rw[if_neg (by simpa using c)];exact aV.pure ⟨rfl,rfl,pre.length,by omega,G7,aM.refl _ _,rfl⟩
   ·rintro _ _ g14 ⟨rfl,rfl,aC,af3,iX,jP,n14⟩;have b9:c2 ρ g12 g14:=c2.of jP λi _ e=>by subst e;omega
    have al9:=b9.c0 al8 (by omega) uY;have anr:=anq.az jP (by omega) (λe=>by rw[e]at iO;omega);have akU:=akT.az jP (by omega) mk;have arf:=aaF.az jP (λb aj e=>(C9 b (by rw[<-FL];exact aj)).1 e);simp only[bp,jd,cl,ar,Oo];rw[o8 anr (by simp[dj.vs])];simp only[ar,List.drop_zero,List.take_succ_cons,List.take_zero];refine cX (A8 (k:=0) (cs:=[.int .i64 y.file,.int .i64 y.bM]) al9 rfl (by simp) rfl) λg15 ⟨MP,D1,n15⟩=> ?_
    have MP:=ff MP rfl;rw[o8 MP (by simp)];have kp:=((ark.trans v11 (λ_ _=>rfl)).trans v12 (λ_ _=>rfl)).trans b9 (λ_ _=>rfl);have oA:c2 ρ h g15:=aM.local kp D1 (λi af e=>by omega);let S:Nat->Prop:=λi=>i=X.m\/i=X.k\/cI Xu=some i
    have Bd:aM S (cz.aB 9) g14:=by
     have ao:aM S (cz.aB 9) g9:=gy.mono λi _ e=>.inl e
     have a2:aM S g9 (g9.aB 12):=aM.ext w5;have a3:aM S (g9.aB 12) g10:=iw.mono λi _ e=>.inr (.inr e)
     have a4:aM S g10 g11:=iZ.mono λi _ e=>.inr (.inl e)
     have a5:aM S g11 g12:=jC.mono λi _ e=>.inr (.inl e)
     have hZ:aM S g12 g14:=jP.mono λi _ e=>.inr (.inl e)
     exact((((ao.trans a2).trans a3).trans a4).trans a5).trans hZ
    have Jt:=x8.dX.less (g:=g14) x8.lt ep iX (by rw[List.map_append];exact arf) adN anI akU Bd (λi af e=>by
     rcases e with rfl|rfl|e
     ·omega
     ·omega
     ·rw[wN _ e];decide) af3
    have GB:=x8.cache Jt Bd (λi af e=>by
     rcases e with rfl|rfl|e
     ·omega
     ·omega
     ·rw[wN _ e];decide) (λ_ _=>rfl) (λi af=>Nat.lt_of_lt_of_le (x8.lt i af) Bd.next)
    have U2:=GB.c0 D1 (λi e af=>.inl (by subst e;exact uY)) (λ_ _=>rfl) (λi af=>by rw[n15];exact GB.lt i af);simp only[h1,if_true,Nat.sub_self]at U2;exact aV.pure ⟨oA,gu,al,.inr ⟨pre,y,post,aC,ep,h1,rfl,U2⟩⟩
end
end
end Go.Proofs.YtkdjcmpgnkecfaaGreatDoor
end
