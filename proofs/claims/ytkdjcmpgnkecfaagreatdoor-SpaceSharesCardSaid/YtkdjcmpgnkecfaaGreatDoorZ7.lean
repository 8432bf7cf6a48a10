/-
  Texts R8 W55 W54 W56 M1 M2 W60 M3, joined; own names made short.
-/
import Derived.Test.YtkdjcmpgnkecfaaGreatDoorZ6
set_option linter.all false
set_option exponentiation.threshold 600
noncomputable section
namespace Go.Proofs.YtkdjcmpgnkecfaaGreatDoor
open Go.a8
section
set_option maxRecDepth 100000
def QT(C:bW)(h:ae) :Option a1:=a7 (C (.func 29 [] []) [(.int .i64 64),(.int .i64 8)] h) λv1 h1=>U (cm v1 0) λv2=>U (cm v1 1) λv3=>a7 (C (.func 30 [] []) [v2] h1) λv4 ab=>U (cm v4 0) λv5=>U (cm v4 1) λv6=>U (ax J ab .eql 48 v5 .nilPtr) λbl=>bG (b7 bl false (U (ax J ab .neq 29 v6 (.int .i64 0)) λbA=>some (.normal,[bA],ab)) (some (.normal,[.undef],ab))) λ_ aK al=>a_ aK λv9 iz=>br iz (U (bZ bl (.bool true) v9) λv10=>bG (b7 v10 false (a7 (C (.func 35 [] []) [(.int .i64 0),(.int .i64 2),(.int .i64 6)] al) λv11 aE=>a7 (C (.func 31 [] []) [v5,v11] aE) λv12 aL=>U (ax J aL .neq 29 v12 (.int .i64 0)) λcd=>some (.normal,[cd],aL)) (some (.normal,[.undef],al))) λ_ aK bm=>a_ aK λb9 kp=>br kp (U (bZ v10 (.bool true) b9) λch=>bq ch (some (.ret,[(.bool false)],bm)) (a7 (C (.func 33 [] []) [v5,(.int .i64 5),(.int .i64 2),(.int .u8 120)] bm) λcj cr=>a7 (C (.func 43 [] []) [v5] cr) λcC cz=>U (cm cC 0) λcx=>U (cm cC 1) λcL=>a7 (C (.func 33 [] []) [cx,(.int .i64 5),(.int .i64 2),(.int .u8 121)] cz) λv20 c6=>a7 (C (.func 33 [] []) [v5,(.int .i64 5),(.int .i64 1),(.int .u8 0)] c6) λv21 dF=>U (cm v21 0) λv22=>U (cm v21 1) λv23=>a7 (C (.func 33 [] []) [cx,(.int .i64 5),(.int .i64 1),(.int .u8 0)] dF) λv24 dZ=>U (cm v24 0) λv25=>U (cm v24 1) λv26=>U (ax J dZ .eql 29 cL (.int .i64 0)) λv27=>bG (b7 v27 true (U (ax J dZ .eql 29 v23 (.int .i64 0)) λv28=>some (.normal,[v28],dZ)) (some (.normal,[.undef],dZ))) λ_ aK dv=>a_ aK λv29 sl=>br sl (U (bZ v27 v29 (.bool false)) λv30=>bG (b7 v30 true (U (ax J dv .eql 29 v26 (.int .i64 0)) λv31=>some (.normal,[v31],dv)) (some (.normal,[.undef],dv))) λ_ aK e5=>a_ aK λv32 O_=>br O_ (U (bZ v30 v32 (.bool false)) λv33=>bG (b7 v33 true (U (ax J e5 .eql 5 v22 (.int .u8 120)) λeP=>some (.normal,[eP],e5)) (some (.normal,[.undef],e5))) λ_ aK eX=>a_ aK λv35 tH=>br tH (U (bZ v33 v35 (.bool false)) λv36=>bG (b7 v36 true (U (ax J eX .eql 5 v25 (.int .u8 121)) λv37=>some (.normal,[v37],eX)) (some (.normal,[.undef],eX))) λ_ aK hd=>a_ aK λfE Ei=>br Ei (U (bZ v36 fE (.bool false)) λfy=>bG (b7 fy true (a7 (C (.func 34 [] []) [v2] hd) λv40 hC=>some (.normal,[v40],hC)) (some (.normal,[.undef],hd))) λ_ aK hv=>a_ aK λv41 O'=>br O' (U (bZ fy v41 (.bool false)) λgv=>some (.ret,[gv],hv)))))))))
theorem aj0:LT qh 28 [] QT:=
 cc (f:=Tryz.f28) (hF (hF (hF (.seq (.seq (.ah [[24],[30]]) (.cond (hF .leaf) .leaf)) (hF (hF (hF (hF (hF (.seq (.ah [[55],[59],[63],[67],[71]]) .leaf)))))))))) (by kernel_rfl) (by kernel_rfl) λ_ _=>by kernel_rfl
end
section
variable{PV:cn} [cN PV]
def hy(h:ae)(id n:Nat)(A:Nat->Nat) :Prop:=a8.Obj h id ((List.range n).map λf=>aa.int .i64 ((A f:Nat) :Int))
theorem hy.get{h:ae}{id n:Nat}{A:Nat->Nat}(k:hy h id n A){i:Nat}(af:i<n) :bP h id i=some (.int .i64 ((A i:Nat) :Int)):=by rw[k.rd,List.getElem?_map,List.getElem?_range af];rfl
theorem hy.inc{h:ae}{id n:Nat}{A:Nat->Nat}(k:hy h id n A){i:Nat}(af:i<n) :
  ∃g,bN J h 3 (.ptr id i) (.int .i64 ((A i+1:Nat) :Int))=some g/\(hy g id n (az A i (A i+1))/\aM (λj=>j=id) h g/\g.next=h.next):=by
 obtain⟨g,e,o,u,ho⟩:=m5 (k:=i) (v:=.int .i64 ((A i+1:Nat) :Int)) k (by simpa using af) rfl rfl;rw[W4 af A (A i+1)]at o;exact⟨g,e,o,u,ho⟩
theorem hy.yP{h g:ae}{id n:Nat}{A:Nat->Nat}(k:hy h id n A){S:Nat->Prop}(u:aM S h g)(af:id<h.next)(aA:¬S id) :hy g id n A:=a8.Obj.az k u af aA
theorem VY:∀l:List bH,j2 l<=585*l.length
 |[]=>Nat.le_refl _
 |x::l=>by have h1:=VY l;have ab:=E2 x.T;have:j2 (x::l)=x.T.ee+j2 l:=rfl;rw[this,List.length_cons];omega
theorem MK(a b:List bH) :j2 (a++b)=j2 a+j2 b:=by simp[j2]
theorem Sw{ent:Nat->bj}{P:bj->Bool}(h0:P .zero=false) :∀n,eW (λp=>P (ent p)) (dI ent 0 n)=cq (λp=>P (ent p)) n
 |0=>rfl
 |n+1=>by
  have b1:=Sw (ent:=ent) h0 n;unfold dI;rw[sB,b1,Nat.zero_add];show _=cq (λp=>P (ent p)) n+(P (ent n)).toNat;by_cases h:ent n=.zero
  ·rw[if_pos h,h,h0];rfl
  ·rw[if_neg h];rw[rl];rfl
theorem aog{T:dt}{h:ae}{lo:Nat}{v:aa}(aI:∀p,T.ent p≠.zero->p<4096)(r:Row h 6 lo v ((dI T.ent 0 4096).map (eC T))) :
  ∃L:List Nat,L.length<=4096/\(∀P:bj->Bool,P .zero=false->eW (λp=>P (T.ent p)) L=T.h4 P)/\(∀p,p∈L↔T.ent p≠.zero)/\Row h 6 lo v (L.map (eC T)):=
 ⟨_,N0 _,λP h0=>Sw h0 _,λp=>MC (aI p),r⟩
section
variable{h g:ae}{X:ew}{c:df}{ρ bD:Nat->Nat}{σ aR:b8}
theorem AO(k:Good h X c ρ σ (λ_=>0) (λ_=>0)) :bh (call J PV (.func 34 [] []) [.ptr X.M 0] h) λv g=>v=.bool true/\bf h g:=by
 refine bh.mk (λe=>akc (first:=[]) (cap:=[]) e rfl) ?_;unfold Q6;have aw:=k.n;have hP:=k.c1;have ep:=k.AQ;simp only[p4,ar,ba,Bool.false_eq_true,if_false,cl,k7,ha,k.sys.field.1,aex k.sys.core.ps.p,c3];rw[k.ef.n];refine Bl (G1 c.n (by omega)) λg1 aG=> ?_
 have dR:g1.next=h.next+1:=by rw[aG];rfl
 have bb:bf h g1:=by rw[aG];exact aM.new _ _ _
 have aaS:hy g1 h.next c.n λ_=>0:=Hc (by rw[aG,ks])
 have bk:=k.ext bb;simp only[cl,tv,Nat.zero_add,ar,m3,bk.sys.field.2.2.2,ao5 bk.sys.core.hi,c3];rw[k.ef.c1];refine Bl (G1 c.c1 (by omega)) λg2 aT=> ?_
 have eN:g2.next=g1.next+1:=by rw[aT];rfl
 have bn:bf g1 g2:=by rw[aT];exact aM.new _ _ _
 have aa6:hy g2 g1.next c.c1 λ_=>0:=Hc (by rw[aT,ks])
 have aaT:hy g2 h.next c.n λ_=>0:=a8.Obj.ext aaS bn (by omega)
 have b_:=bk.ext bn;obtain⟨eg,os,hK,_,_⟩:=b_.sys.mem;have ay:=hK.len (T:=75) (si:=q5) (by kernel_rfl) rfl;rw[List.length_map,List.length_map]at ay;simp only[cl,AZ,Nat.zero_add,ar,DO,Obj.get os (i:=4) rfl,ay];let sv:Nat->Prop:=λi=>i=h.next\/i=g1.next
 have FJ:∀{g:ae},aM sv g2 g->Good g X c ρ σ (λ_=>0) (λ_=>0):=λu=>b_.c0 u λi af _=>by
  rcases af with rfl|rfl
  ·exact k.fresh (by omega)
  ·exact k.fresh (by omega)
 have ady:∀{g:ae},aM sv g2 g->bf h g:=λu=>(bb.trans bn).local u λi af e=>by rcases e with e|e<;>omega
 refine hX (n:=14) (I:=λi vs g=>vs=[.int .i64 (j2 (σ.au.take i) :Nat),.int .i64 (i:Nat)]/\aM sv g2 g/\i<=σ.au.length/\hy g h.next c.n (λf=>da (σ.au.take i) (b2 f))/\hy g g1.next c.c1 (λf=>da (σ.au.take i) (dg f))) (m:=σ.au.length)
  (P:=λx vs g=>x=.exit 0/\(∃d,vs=[.int .i64 (j2 σ.au:Nat),d])/\aM sv g2 g/\hy g h.next c.n (λf=>da σ.au (b2 f))/\hy g g1.next c.c1 (λf=>da σ.au (dg f))) (Nat.lt_of_le_of_lt (Nat.le_trans ep aw) (by decide)) ⟨rfl,aM.refl _ _,Nat.zero_le _,aaT,aa6⟩ ?_ ?_
 ·rintro i _ g af ⟨rfl,ia,_,Ju,BF⟩;simp only[bz,bp,dk,ar,ba];by_cases ci:i<σ.au.length
  ·rw[if_pos (by simp;omega)];obtain⟨x,ag⟩ :∃x,σ.au[i]? =some x:=⟨_,List.getElem?_eq_getElem ci⟩;have rP:σ.au.take (i+1)=σ.au.take i++[x]:=by rw[List.take_add_one,ag];rfl
   have gL:x∈σ.au:=List.mem_of_getElem? ag;have hn:=FJ ia
   have arj:=hK.az ia (λb aj e=>by
    have b6:b<g2.next/\ρ b=14:=by
     obtain⟨wV,Na,_,_,W5⟩:=b_.sys.mem;have:wV=eg:=by have h1:=Obj.get Na (i:=4) rfl;rw[Obj.get os (i:=4) rfl]at h1;simpa using h1.symm
     have eX:=W5 b (this▸aj);exact⟨b_.sys.core.lt b (by omega),eX⟩
    have h0:ρ b=0:=by
     rcases e with rfl|rfl
     ·exact k.fresh (by omega)
     ·exact k.fresh (by omega)
    omega)
   have me:((σ.au.map (λx=>aa.ptr x.s 0)).map one)[i]? =some [aa.ptr x.s 0]:=by simp[ag,one]
   obtain⟨b,cap,Fl,l,ai,aj,ol,oU,_,_,hE⟩:=arj.at me;rw[List.length_map,List.length_map]at ai oU;have iE:=hE 0 (by decide);rw[Nat.mul_one,Nat.add_zero]at iE;have mV:cZ J 75 eg (.int .i64 (i:Nat))=some (.ptr b (0+i)):=by rw[ai];exact DL oU
   have ov:=(hn.sys.au x gL);have ap0:hh g X.A x.t (nodeAt x.T 0 0) x.T.ee:=ov.ly;have JZ:b0 .i64 (((j2 (σ.au.take i) :Nat) :Int) +(x.T.ee:Nat))=((j2 (σ.au.take (i+1)) :Nat) :Int):=by have h1:=VY (σ.au.take i);have ab:=E2 x.T;have al:(σ.au.take i).length<=i:=List.length_take_le _ _;rw[wrap_i64 (by omega) (by omega),rP,MK];show _=((j2 (σ.au.take i) +(x.T.ee+0) :Nat) :Int);omega
   rw[mV];simp only[ar,Nat.zero_add,tA,iE,List.getElem?_cons_zero,cl,qX,m4,ov.field.2,alR ap0,c3,du,JZ];refine b4 (EJ hn.ps (hn.ly gL)) ?_;rintro v29 g4 ⟨eK,bO⟩;obtain⟨L,dB,rB,ei,eK⟩:=aog (λp aI=>k.inv.lt gL aI) eK;have hlen:=eK.len (T:=175) (E:=J) (si:=sc) (by kernel_rfl) rfl;rw[List.length_map]at hlen;rw[hlen];simp only[ar];have zU:=ia.next;have Jv:hy g4 h.next c.n (λf=>da (σ.au.take i) (b2 f)):=a8.Obj.ext Ju bO (by omega);have Jx:hy g4 g1.next c.c1 (λf=>da (σ.au.take i) (dg f)):=a8.Obj.ext BF bO (by omega);have hbound:∀P,da (σ.au.take i) P<=4096*4096:=λP=>by have h1:=Dl P (σ.au.take i);have ab:(σ.au.take i).length<=i:=List.length_take_le _ _;have:4096*(σ.au.take i).length<=4096*4096:=Nat.mul_le_mul_left _ (by omega);omega
   refine hX (n:=14) (I:=λj vs g=>vs=[.int .i64 (j:Nat)]/\aM sv g4 g/\j<=L.length/\hy g h.next c.n (λf=>da (σ.au.take i) (b2 f) +eW (λp=>b2 f (x.T.ent p)) (L.take j))/\hy g g1.next c.c1 (λf=>da (σ.au.take i) (dg f) +eW (λp=>dg f (x.T.ent p)) (L.take j))) (m:=L.length)
    (P:=λy vs g=>y=.exit 2/\(∃d,vs=[d])/\aM sv g4 g/\hy g h.next c.n (λf=>da (σ.au.take (i+1)) (b2 f))/\hy g g1.next c.c1 (λf=>da (σ.au.take (i+1)) (dg f))) (Nat.lt_of_le_of_lt dB (by decide)) ⟨rfl,aM.refl _ _,Nat.zero_le _,Jv,Jx⟩ ?_ ?_
   ·rintro j _ g5 aO ⟨rfl,cD,_,vJ,xf⟩;simp only[bz,bp,dk,ar,ba];by_cases nS:j<L.length
    ·rw[if_pos (by simp;omega)];obtain⟨p,aI⟩ :∃p,L[j]? =some p:=⟨_,List.getElem?_eq_getElem nS⟩;have rQ:L.take (j+1)=L.take j++[p]:=by rw[List.take_add_one,aI];rfl
     have fL:x.T.ent p≠.zero:=(ei p).1 (List.mem_of_getElem? aI);have ik:=k.inv.jy gL fL;have hm:=k2 ik;have CE:Row g5 6 g.next v29 (L.map (eC x.T)):=eK.az cD (λq aF _ e=>by rcases e with e|e<;>omega);obtain⟨dK,fV,Le,gK,mq,mh,rL,sU⟩:=CE.at (i:=j) (x:=eC x.T p) (by simp[aI]);rw[List.length_map]at fV mh;rw[fV];have ahn:=cD.next;have ahm:=bO.next;have fA:(((x.T.ent p).n.toNat:Nat) :Int)=(x.T.ent p).n:=by have:=hm.1;omega
     have TM:∀P:Nat->Bool,eW P (L.take j)<=4096:=λP=>by have h1:=E4 P (L.take j);have ab:(L.take j).length<=j:=List.length_take_le _ _;omega
     refine fO (P:=λy vs cw=>y=.normal/\vs=[]/\aM sv g4 cw/\hy cw h.next c.n (λf=>da (σ.au.take i) (b2 f) +eW (λp=>b2 f (x.T.ent p)) (L.take (j+1)))/\hy cw g1.next c.c1 (λf=>da (σ.au.take i) (dg f) +eW (λp=>dg f (x.T.ent p)) (L.take (j+1)))) ?_ ?_
     ·simp only[Ou mh,ar,Nat.zero_add];rw[sb mq (by omega),sU];simp only[ar];refine cM r_ λg6 eO n6 cJ=> ?_
      refine cX (q2 (k:=0) (cs:=eC x.T p) eO rfl (by simp[eC,bj.vs]) rfl) λg7 ⟨fj,fk,n7⟩=> ?_
      have fj:=ff fj rfl;have sk:bf g5 g7:=cJ.local fk (λj aO e=>by omega);have cS:bP g7 g5.next 1=some (.bool (x.T.ent p).here):=fj.rd 1;have hI:bP g7 g5.next 5=some (.int .i64 (x.T.ent p).n):=fj.rd 5;have Jw:=hy.yP vJ sk (by omega) (λe=>e);have Jy:=hy.yP xf sk (by omega) (λe=>e);have aas:aM sv g4 g7:=cD.trans (aM.ext sk);simp only[qY,lZ,l0,Nat.zero_add,ar,km,cS,ba];by_cases aD:(x.T.ent p).here=true
      ·rw[if_pos aD];have kh:=k.inv.here x p gL aD;have Ff:∀f,b2 f (x.T.ent p)=decide (f=(x.T.ent p).n.toNat):=Ab aD hm.1;have vR:∀f,dg f (x.T.ent p)=false:=CX ik aD;have hE:=Jw.get kh;have kW:=hbound (b2 (x.T.ent p).n.toNat);have pt:=TM (λq=>b2 (x.T.ent p).n.toNat (x.T.ent q));have qp:b0 .i64 (((da (σ.au.take i) (b2 (x.T.ent p).n.toNat) +eW (λq=>b2 (x.T.ent p).n.toNat (x.T.ent q)) (L.take j) :Nat) :Int) +1)=((da (σ.au.take i) (b2 (x.T.ent p).n.toNat) +eW (λq=>b2 (x.T.ent p).n.toNat (x.T.ent q)) (L.take j) +1:Nat) :Int):=by rw[wrap_i64 (by omega) (by omega)];omega
       simp only[cW,hI];rw[<-fA];simp only[ar,qZ kh,Nat.zero_add,cW,hE,du,qp];refine cX (Jw.inc kh) λg8 ⟨tV,u8,n8⟩=> ?_
       refine aV.pure ⟨rfl,rfl,aas.trans (u8.mono λq _ e=>.inl e),?_,?_⟩
       ·have:(λf=>da (σ.au.take i) (b2 f) +eW (λp=>b2 f (x.T.ent p)) (L.take (j+1)))=az (λf=>da (σ.au.take i) (b2 f) +eW (λp=>b2 f (x.T.ent p)) (L.take j)) (x.T.ent p).n.toNat (da (σ.au.take i) (b2 (x.T.ent p).n.toNat) +eW (λq=>b2 (x.T.ent p).n.toNat (x.T.ent q)) (L.take j) +1):=funext λf=>by
         rw[rQ,sB,rl,xi,Ff];by_cases e:f=(x.T.ent p).n.toNat
         ·subst e;rw[e4];simp;omega
         ·rw[eE _ _ e,decide_eq_false e];simp
        rw[this];exact tV
       ·have:(λf=>da (σ.au.take i) (dg f) +eW (λp=>dg f (x.T.ent p)) (L.take (j+1)))=(λf=>da (σ.au.take i) (dg f) +eW (λp=>dg f (x.T.ent p)) (L.take j)):=funext λf=>by
         rw[rQ,sB,rl,xi,vR];simp
        rw[this];exact Jy.yP u8 (by omega) (λe=>by omega)
      ·rw[if_neg aD];have nr:(x.T.ent p).here=false:=by simpa using aD
       have bg:(x.T.ent p).out=true:=by
        cases bg:(x.T.ent p).out with
        |true=>rfl
        |false=>exact absurd (Fi (λ_=>ik) bg nr) fL
       have hP:=k.inv.out x p gL bg;have Ff:∀f,b2 f (x.T.ent p)=false:=λf=>by unfold b2;rw[nr];rfl
       have vR:∀i,dg i (x.T.ent p)=decide (i=(x.T.ent p).n.toNat):=λi=>by unfold dg;rw[bg,Bool.true_and,Bool.eq_iff_iff];simp;have:=hm.1;omega
       have hE:=Jy.get hP;have kW:=hbound (dg (x.T.ent p).n.toNat);have pt:=TM (λq=>dg (x.T.ent p).n.toNat (x.T.ent q));have qp:b0 .i64 (((da (σ.au.take i) (dg (x.T.ent p).n.toNat) +eW (λq=>dg (x.T.ent p).n.toNat (x.T.ent q)) (L.take j) :Nat) :Int) +1)=((da (σ.au.take i) (dg (x.T.ent p).n.toNat) +eW (λq=>dg (x.T.ent p).n.toNat (x.T.ent q)) (L.take j) +1:Nat) :Int):=by rw[wrap_i64 (by omega) (by omega)];omega
       simp only[cW,hI];rw[<-fA];simp only[ar,qZ hP,Nat.zero_add,cW,hE,du,qp];refine cX (Jy.inc hP) λg8 ⟨tV,u8,n8⟩=> ?_
       refine aV.pure ⟨rfl,rfl,aas.trans (u8.mono λq _ e=>.inr e),?_,?_⟩
       ·have:(λf=>da (σ.au.take i) (b2 f) +eW (λp=>b2 f (x.T.ent p)) (L.take (j+1)))=(λf=>da (σ.au.take i) (b2 f) +eW (λp=>b2 f (x.T.ent p)) (L.take j)):=funext λf=>by
         rw[rQ,sB,rl,xi,Ff];simp
        rw[this];exact Jw.yP u8 (by omega) (λe=>by omega)
       ·have:(λf=>da (σ.au.take i) (dg f) +eW (λp=>dg f (x.T.ent p)) (L.take (j+1)))=az (λf=>da (σ.au.take i) (dg f) +eW (λp=>dg f (x.T.ent p)) (L.take j)) (x.T.ent p).n.toNat (da (σ.au.take i) (dg (x.T.ent p).n.toNat) +eW (λq=>dg (x.T.ent p).n.toNat (x.T.ent q)) (L.take j) +1):=funext λf=>by
         rw[rQ,sB,rl,xi,vR];by_cases e:f=(x.T.ent p).n.toNat
         ·subst e;rw[e4];simp;omega
         ·rw[eE _ _ e,decide_eq_false e];simp
        rw[this];exact tV
     ·rintro _ _ g9 ⟨rfl,rfl,gy,acj,acn⟩;have aG:b0 .i64 ((j:Int) +1)=((j+1:Nat) :Int):=by rw[wrap_i64 (by omega) (by omega)];omega
      simp only[bp,jd,du,aG,ar];exact aV.pure (.inl ⟨rfl,nS,rfl,gy,nS,acj,acn⟩)
    ·rw[if_neg (by simp;omega)];refine aV.pure (.inr ⟨by simp,rfl,⟨_,rfl⟩,cD,?_,?_⟩)
     ·have:(λf=>da (σ.au.take (i+1)) (b2 f))=λf=>da (σ.au.take i) (b2 f) +eW (λp=>b2 f (x.T.ent p)) (L.take j):=funext λf=>by
       rw[rP,Hs,nG,uZ,List.take_of_length_le (show L.length<=j by omega),rB (b2 f) rfl,Nat.add_zero]
      rw[this];exact vJ
     ·have:(λf=>da (σ.au.take (i+1)) (dg f))=λf=>da (σ.au.take i) (dg f) +eW (λp=>dg f (x.T.ent p)) (L.take j):=funext λf=>by
       rw[rP,Hs,nG,uZ,List.take_of_length_le (show L.length<=j by omega),rB (dg f) rfl,Nat.add_zero]
      rw[this];exact xf
   ·rintro y _ g6 ⟨rfl,⟨fc,rfl⟩,cJ,aci,acm⟩;have aG:b0 .i64 ((i:Int) +1)=((i+1:Nat) :Int):=by rw[wrap_i64 (by omega) (by omega)];omega
    simp only[bz,bp,hs,if_true,du,aG,ar];exact aV.pure (.inl ⟨rfl,ci,rfl,(ia.trans (aM.ext bO)).trans cJ,ci,aci,acm⟩)
  ·rw[if_neg (by simp;omega)];rw[List.take_of_length_le (show σ.au.length<=i by omega)];have h1:σ.au.take i=σ.au:=List.take_of_length_le (by omega);rw[h1]at Ju BF;exact aV.pure (.inr ⟨by simp,rfl,⟨_,rfl⟩,ia,Ju,BF⟩)
 rintro y _ g3 ⟨rfl,⟨fc,rfl⟩,bR,ach,ack⟩;have b3:=FJ bR;simp only[bz,bp,hs,if_true,ar,cl,DH,Nat.zero_add,o7,b3.sys.field.2.2.1];refine b4 (aiu b3.sys.core) ?_;rintro jm g4 ⟨eK,bO⟩;have hlen:=eK.len (T:=179) (E:=J) (si:=DW) (by kernel_rfl) rfl;rw[List.length_map]at hlen;rw[hlen];simp only[ar];have s0:=bR.next;have zT:=bO.next;have Jv:hy g4 h.next c.n (λf=>da σ.au (b2 f)):=a8.Obj.ext ach bO (by omega);have Jx:hy g4 g1.next c.c1 (λf=>da σ.au (dg f)):=a8.Obj.ext ack bO (by omega);have uq:=b3.sys.core.dX.nj;have hbound:∀P,da σ.au P<=4096*4096:=λP=>by have h1:=Dl P σ.au;have:4096*σ.au.length<=4096*4096:=Nat.mul_le_mul_left _ (by omega);omega
 refine hX (n:=14) (I:=λj vs g=>vs=[.int .i64 (j:Nat)]/\aM sv g4 g/\j<=σ.ring.length/\hy g h.next c.n (λf=>da σ.au (b2 f) +eW (λy:dj=>y.fr==f) (σ.ring.take j))/\hy g g1.next c.c1 (λf=>da σ.au (dg f))) (m:=σ.ring.length)
  (P:=λy vs g=>y=.exit 4/\(∃d,vs=[d])/\aM sv g4 g/\hy g h.next c.n (λf=>refs σ f)/\hy g g1.next c.c1 (λf=>da σ.au (dg f))) (Nat.lt_of_le_of_lt uq (by decide)) ⟨rfl,aM.refl _ _,Nat.zero_le _,Jv,Jx⟩ ?_ ?_
 ·rintro j _ g5 aO ⟨rfl,cD,_,vJ,xf⟩;simp only[bz,bp,dk,ar,ba];by_cases nS:j<σ.ring.length
  ·rw[if_pos (by simp;omega)];obtain⟨y,aq⟩ :∃y,σ.ring[j]? =some y:=⟨_,List.getElem?_eq_getElem nS⟩;have rQ:σ.ring.take (j+1)=σ.ring.take j++[y]:=by rw[List.take_add_one,aq];rfl
   have uA:=List.mem_of_getElem? aq;have uz:=(k.inv.ring y uA).1;have CE:Row g5 2 g3.next jm (σ.ring.map uH):=eK.az cD (λq aF _ e=>by rcases e with e|e<;>omega);obtain⟨dK,fV,Le,gK,mq,mh,rL,sU⟩:=CE.at (i:=j) (x:=uH y) (by simp[aq]);rw[List.length_map]at fV mh;rw[fV];have ahn:=cD.next;simp only[aqa mh,ar,Nat.zero_add];rw[o8 mq (by omega),sU];simp only[ar];refine cM DF λg6 eO n6 cJ=> ?_
   refine cX (A8 (k:=0) (cs:=uH y) eO rfl (by simp[uH]) rfl) λg7 ⟨fj,fk,n7⟩=> ?_
   have fj:=ff fj rfl;have sk:bf g5 g7:=cJ.local fk (λj aO e=>by omega);have cf:bf g7 (g7.aB 11):=aM.aB _ _ _;have D5:=sk.trans cf;have j0:=FJ (((bR.trans (aM.ext bO)).trans cD).trans (aM.ext D5));have MT:=fj.ext cf (by have:=sk.next;omega);have dr:=j0.sys.field.2.2.1;rw[dd]at dr;simp only[cl,DH,Nat.zero_add,ar,o7,dd,dr];rw[o8 MT (by simp[uH])];simp only[ar];rw[show(aa.agg (List.take 2 (List.drop 0 (uH y))))=hQ y.file y.bM from rfl];refine b4 (ae6 j0.sys.core uA) ?_;rintro _ g8 ⟨rfl,u8⟩;have yM:=D5.trans u8;have Sh:=hy.yP vJ yM (by omega) (λe=>e);have hE:=Sh.get uz;have kW:=hbound (b2 y.fr);have pt:=E4 (λz:dj=>z.fr==y.fr) (σ.ring.take j);have ae9:(σ.ring.take j).length<=j:=List.length_take_le _ _;have qp:b0 .i64 (((da σ.au (b2 y.fr) +eW (λz:dj=>z.fr==y.fr) (σ.ring.take j) :Nat) :Int) +1)=((da σ.au (b2 y.fr) +eW (λz:dj=>z.fr==y.fr) (σ.ring.take j) +1:Nat) :Int):=by rw[wrap_i64 (by omega) (by omega)];omega
   have aG:b0 .i64 ((j:Int) +1)=((j+1:Nat) :Int):=by rw[wrap_i64 (by omega) (by omega)];omega
   simp only[adO,ar,eh,qZ uz,Nat.zero_add,cW,hE,du,qp];refine cX (Sh.inc uz) λg9 ⟨zi,gy,n9⟩=> ?_
   simp only[aG,ar];refine aV.pure (.inl ⟨rfl,nS,rfl,(cD.trans (aM.ext yM)).trans (gy.mono λq _ e=>.inl e),nS,?_,(hy.yP xf yM (by omega) (λe=>e)).yP gy (by have:=yM.next;omega) (λe=>by omega)⟩);have:(λf=>da σ.au (b2 f) +eW (λy:dj=>y.fr==f) (σ.ring.take (j+1)))=az (λf=>da σ.au (b2 f) +eW (λy:dj=>y.fr==f) (σ.ring.take j)) y.fr (da σ.au (b2 y.fr) +eW (λz:dj=>z.fr==y.fr) (σ.ring.take j) +1):=funext λf=>by
    rw[rQ,sB,rl,xi];by_cases e:f=y.fr
    ·subst e;rw[e4];simp;omega
    ·rw[eE _ _ e,show(y.fr==f)=false by simpa using λh=>e h.symm];simp
   rw[this];exact zi
  ·rw[if_neg (by simp;omega)];refine aV.pure (.inr ⟨by simp,rfl,⟨_,rfl⟩,cD,?_,xf⟩);rw[List.take_of_length_le (show σ.ring.length<=j by omega)]at vJ;exact vJ
 rintro y _ g5 ⟨rfl,⟨fc,rfl⟩,cD,vJ,xf⟩;have uu:=cD.next;have aaq:=(bR.trans (aM.ext bO)).trans cD;have dQ:=FJ aaq;simp only[bz,bp,hs,if_true,wZ,ar];have own:∀f,f<c.n->∃t:Nat,t<=1/\σ.held f=refs σ f+t/\(t=1->refs σ f=0):=λf aJ=>by
  have h1:=k.inv.own aJ;refine⟨_,Bool.toNat_le _,h1,λaW=> ?_⟩;by_cases db:∃x,x∈σ.au/\IsNode x.T f
  ·obtain⟨x,ag,pw⟩:=db;exact(k.inv.node x f ag pw).2.1
  ·exfalso;revert aW;simp[db]
 have CL:=k.inv.sum;have ahe:∀i,i<=c.n->dx (λf=>σ.held f-refs σ f) i<=i:=λi af=>by
  have h1:dx (λf=>σ.held f-refs σ f) i<=dx (λ_=>1) i:=by
   clear CL;induction i with
   |zero=>exact Nat.le_refl _
   |succ i b1=>
    obtain⟨t,t1,t2,_⟩:=own i (by omega);have:=b1 (by omega);show dx (λf=>σ.held f-refs σ f) i+(σ.held i-refs σ i)<=dx (λ_=>1) i+1;omega
  have ab:dx (λ_=>1) i=i:=by
   clear h1 CL af;induction i with
   |zero=>rfl
   |succ i b1=>show dx (λ_=>1) i+1=i+1;rw[b1]
  omega
 refine hX (n:=14) (I:=λi vs g=>vs=[.bool false,.int .i64 (dx (λf=>σ.held f-refs σ f) i:Nat),.int .i64 (i:Nat)]/\g=g5/\i<=c.n) (m:=c.n)
  (P:=λy vs g=>y=.exit 6/\(∃d,vs=[.bool false,.int .i64 (j2 σ.au:Nat),d])/\g=g5) (Nat.lt_of_le_of_lt aw (by decide)) ⟨rfl,rfl,Nat.zero_le _⟩ ?_ ?_
 ·rintro i _ _ af ⟨rfl,rfl,_⟩;simp only[bz,bp,dk,ar,ba];by_cases ci:i<c.n
  ·rw[if_pos (by simp;omega)];have hE:=vJ.get ci;obtain⟨t,t1,t2,t3⟩:=own i ci;have aD:=FO dQ.sys.core.ps.p (f:=i) (by rw[k.ef.n];exact ci);have b6:=k.Cb (λf=>by show(0:Int)<=16;omega) ci;have adt:b0 .i64 ((σ.held i:Int) -(refs σ i:Nat))=((t:Nat) :Int):=by rw[wrap_i64 (by omega) (by omega)];omega
   have LA:=ahe i af;have SO:b0 .i64 (((dx (λf=>σ.held f-refs σ f) i:Nat) :Int) +(t:Nat))=((dx (λf=>σ.held f-refs σ f) (i+1) :Nat) :Int):=by rw[wrap_i64 (by omega) (by omega)];show _=((dx (λf=>σ.held f-refs σ f) i+(σ.held i-refs σ i) :Nat) :Int);omega
   have aG:b0 .i64 ((i:Int) +1)=((i+1:Nat) :Int):=by rw[wrap_i64 (by omega) (by omega)];omega
   have fm:¬((t:Nat) :Int) <0:=by omega
   have bo:¬((t:Nat) :Int) >1:=by omega
   simp only[qZ ci,ar,Nat.zero_add,cW,hE,cl,k7,ha,dQ.sys.field.1,aD,c3,fT,adt,decide_eq_false fm,cP,if_true,iT,decide_eq_false bo,c4,bz,bp,cF,Bool.false_eq_true,if_false,dn];by_cases aW:t=1
   ·have iE:=t3 aW;have cp:¬((refs σ i:Nat) :Int) >0:=by omega
    have JN:((t:Nat) :Int)=1:=by omega
    simp only[decide_eq_true JN,cP,if_true,ar,decide_eq_false cp,c4,bz,bp,cF,Bool.false_eq_true,if_false,ba,du,SO,aG];exact aV.pure (.inl ⟨rfl,ci,rfl,rfl,ci⟩)
   ·have JN:¬((t:Nat) :Int)=1:=by omega
    simp only[decide_eq_false JN,cP,if_true,ar,c4,bz,bp,cF,Bool.false_eq_true,if_false,ba,du,SO,aG];exact aV.pure (.inl ⟨rfl,ci,rfl,rfl,ci⟩)
  ·rw[if_neg (by simp;omega)];have:i=c.n:=by omega
   subst this;rw[CL];exact aV.pure (.inr ⟨by simp,rfl,⟨_,rfl⟩,rfl⟩)
 rintro y _ g6 ⟨rfl,⟨fc,rfl⟩,kc⟩;have BN:=kc.symm;subst BN;simp only[bz,bp,hs,if_true,wZ,ar]
 refine hX (n:=14) (I:=λi vs g=>vs=[.bool false,.int .i64 (i:Nat)]/\g=g5/\i<=c.c1) (m:=c.c1)
  (P:=λy vs g=>y=.exit 8/\(∃d,vs=[.bool false,d])/\g=g5) (Nat.lt_of_le_of_lt hP (by decide)) ⟨rfl,rfl,Nat.zero_le _⟩ ?_ ?_
 ·rintro i _ _ af ⟨rfl,rfl,_⟩;simp only[bz,bp,dk,ar,ba];by_cases ci:i<c.c1
  ·rw[if_pos (by simp;omega)];have hE:=xf.get ci;have aD:=XO dQ.sys.core.hi (i:=i) (by rw[k.ef.c1];exact ci);have aA:=k.inv.slot i ci;have he:((σ.bY i:Nat) :Int)=((da σ.au (dg i) :Nat) :Int):=by unfold lY at aA;omega
   have aG:b0 .i64 ((i:Int) +1)=((i+1:Nat) :Int):=by rw[wrap_i64 (by omega) (by omega)];omega
   have fm:¬((σ.bY i:Nat) :Int)≠((da σ.au (dg i) :Nat) :Int):=λh=>h he
   simp only[qZ ci,ar,Nat.zero_add,cW,hE,cl,tv,m3,dQ.sys.field.2.2.2,aD,c3,dP,decide_eq_false fm,ba,Bool.false_eq_true,if_false,du,aG];exact aV.pure (.inl ⟨rfl,ci,rfl,rfl,ci⟩)
  ·rw[if_neg (by simp;omega)];exact aV.pure (.inr ⟨by simp,rfl,⟨_,rfl⟩,rfl⟩)
 ·rintro y _ _ ⟨rfl,⟨fc,rfl⟩,rfl⟩;simp only[bz,bp,hs,if_true,dn,decide_true,ar];exact aV.pure ⟨rfl,ady aaq⟩
end
end
section
variable{PV:cn} [cN PV]
section
variable{h g:ae}{X:ew}{c:df}{ρ bD:Nat->Nat}{σ aR:b8}{d e:Nat->Int}{a b:List bH}{x cG:bH}{aY cu:Nat}{aX b5:b8}
theorem V1{l:List bH}(h:(l.map (·.s)).Nodup){x y:bH}(ag:x∈l)(aq:y∈l)(e:x.s=y.s) :x=y:=by
 induction l with
 |nil=>cases ag
 |cons z l b1=>
  rw[List.map_cons,List.nodup_cons]at h;rcases List.mem_cons.1 ag with hl|hl
  ·rcases List.mem_cons.1 aq with od|od
   ·exact hl.trans od.symm
   ·exact absurd (List.mem_map.2 ⟨y,od,by rw[<-e,hl]⟩) h.1
  ·rcases List.mem_cons.1 aq with od|od
   ·exact absurd (List.mem_map.2 ⟨x,hl,by rw[e,od]⟩) h.1
   ·exact b1 h.2 hl od
theorem aes(k:Good h X c ρ aX (λ_=>0) (λ_=>0))(e1:∀s p,¬c.loose s p)(kg:mG c σ x aY cu aX)(ag:x∈σ.au)(K_:(σ.au.map (·.s)).Nodup)(fK:∀q,q∈view c σ->q.1≠aY){y:bH}(aq:y∈aX.au)(f_:y.s=x.s){z:bH}(aP:z∈aX.au)(il:z.s=aY){p:Nat}(aI:cu<=p)(fL:y.T.ent p≠.zero)(vX:∀r,cu<=r->r<p->y.T.ent r=.zero)(hw:(y.T.ent p).write=false)
  (fw:4<=aX.free) {g:ae} {b5:b8} (ny:b5.au=aX.au/\b5.mem=aX.mem/\b5.sec=aX.sec/\b5.free=aX.free/\b5.ring=aX.ring) (px:(y.T.ent p).here=true->b5.held (y.T.ent p).n.toNat≠0) (hn:Good g X c ρ b5 (λf=>(b2 f (y.T.ent p)).toNat) (λi=>(dg i (y.T.ent p)).toNat)) :
  bh (call J PV (.func 109 [] []) [.ptr z.t 0,.int .i64 p,(y.T.ent p).eo] g) λv cw=>bX ρ g cw/\∃fG,Good cw X c ρ fG (λ_=>0) (λ_=>0)/\mG c σ x aY (p+1) fG:=by
 have ik:=k.inv.jy aq fL;have hm:=k2 ik;have ky:=k.inv.lt aq fL;have gm:x.s≠aY:=fK _ (List.mem_map.2 ⟨x,ag,rfl⟩);have Gr:y≠z:=λe=>gm (by rw[<-f_,e,il])
 have Ix:z.T.ent p=.zero:=kg.bare z aP il p aI;have Gs:z∈b5.au:=by rw[ny.1];exact aP
 have rS:y∈b5.au:=by rw[ny.1];exact aq
 obtain⟨gz,LI,ahB,Gn,UB⟩:=kg.own ag;obtain rfl:gz=y:=k.iP LI aq (ahB.trans f_.symm);obtain⟨z0,rT,UG,LK,ahR⟩:=kg.new;obtain rfl:z0=z:=k.iP rT aP (UG.trans il.symm);have afu:=(k.inv.mL gz p aq fL).resolve_right (e1 _ _);obtain⟨a,b,aA⟩:=List.append_of_mem Gs;have Ev:∀f,b2 f bj.zero=false:=λf=>rfl
 have Ew:∀f,dg f bj.zero=false:=λf=>rfl
 refine bh.mono (NT hn aA ky ik (.inl (by rw[ny.2.2.2.1];omega)) (.inl λf=>by omega) (λ_=>0) (λ_=>0) (λf=>by rw[Ix,Ev];simp) (λf=>by rw[Ix,Ew];simp) (by rw[LK,<-Gn];exact afu) (λaD=>⟨k.inv.here gz p aq aD,λw hw=>k.inv.pv aq aD (ny.1▸hw),px aD⟩) (λbg=>k.inv.out gz p aq bg) (λ_ h=>by rw[hw]at h;cases h) (λaD _ w q Gk LG LH e=> ?_) (λgj r an=> ?_)) ?_
 ·have h1:=hn.inv.write w q Gk LG LH;obtain⟨e',dK,kj⟩:=List.append_of_mem Gk;obtain⟨eA,gr,_⟩:=HL h1 kj (hn.inv.lt Gk (gZ LG)) (iL hn.inv Gk LG);have CH:=iL hn.inv rS aD;rw[<-e]at CH;by_cases aG:gz=w
  ·subst aG;by_cases aT:p=q
   ·subst aT;rw[hw]at LH;cases LH
   ·rw[eA p ky aT]at CH;cases CH
  ·have:gz∈e'++dK:=by
    rw[kj]at rS;exact(fe.1 rS).resolve_left aG
   rw[gr gz p this ky]at CH;cases CH
 ·rw[LK,<-Gn]at an;have:=k.inv.clean gz p r aq gj an;rw[ny.2.1];exact this
 ·rintro v cw ⟨w,cA,cK,cH,aS,ma,b3,_,_,_,nt,nu,ei,_⟩;refine⟨w,_,b3,?_,?_,λmx=> ?_⟩
  ·have mb:∀w q,cont c b5 w q=cont c aX w q:=λw q=>lG (λ_=>by rw[ny.2.1]) (λ_=>by rw[ny.2.2.1])
   have pH:view c b5=view c aX:=vk ny.1 λw q _=>mb w q
   have ai:=aq' (F:=λ_=>pQ c x.L (cont c σ x) (p+1)) hn aA (aR:={b5 with mem:=cA,held:=cK,free:=cH,au:=a++{z0 with T:=aS}::b}) (cG:={z0 with T:=aS}) rfl rfl rfl nt (funext λr=> ?_)
   ·rw[ai,pH,kg.view,UG];exact ara fK
   ·by_cases an:r=p
    ·subst an;have aG:pQ c x.L (cont c σ x) (r+1) r=cont c aX gz r:=by
      unfold pQ;rw[if_pos (Nat.lt_succ_self _),UB]
     rw[aG];unfold cont;show(match cv z0.L r with|none=>none|some q=>some (if(aS.ent r).here=true then cA (aS.ent r).n.toNat else if(aS.ent r).out=true then b5.sec (c.first+(aS.ent r).n.toNat)else base c q r))=_;rw[ma,e4,LK,<-Gn];cases cv gz.L r with
     |none=>rfl
     |some q=>
      dsimp only;by_cases aD:(gz.T.ent r).here=true
      ·rw[if_pos aD,if_pos aD,ei aD,ny.2.1]
      ·rw[if_neg aD,if_neg aD,ny.2.2.1]
    ·have h1:cont c {b5 with mem:=cA,held:=cK,free:=cH,au:=a++{z0 with T:=aS}::b} {z0 with T:=aS} r=pQ c x.L (cont c σ x) cu r:=by
      rw[nu r an,mb,ahR]
     rw[h1];unfold pQ;by_cases bo:r<cu
     ·rw[if_pos bo,if_pos (by omega)]
     ·rw[if_neg bo];by_cases cp:r<p+1
      ·rw[if_pos cp,<-UB,zm (vX r (by omega) (by omega)),Gn]
      ·rw[if_neg cp]
  ·intro w iI mX r an;rcases fe.1 iI with rfl|iI
   ·show aS.ent r=_;rw[ma,eE _ _ (by omega)];exact kg.bare z0 aP il r (by omega)
   ·have:w∈aX.au:=by rw[<-ny.1,aA];exact fe.2 (.inr iI)
    exact kg.bare w this mX r (by omega)
  ·have kU:=kg.kU mx;have Yh:∀q,dC (gz.T.ent q) (x.T.ent q):=by
    obtain⟨w,iI,mX,aF⟩:=kU.old gz aq (by rw[f_];exact gm);obtain rfl:w=x:=V1 K_ iI ag (mX.trans f_);exact λq=>(aF q).1
   have TL:∀q,cu<=q->q<p+1->q≠p->gz.T.ent q=.zero:=λq h1 ab al=>vX q h1 (by omega)
   refine⟨ny.2.2.2.2.trans kU.ring,λw iI mX=> ?_,λw iI mX q aF=> ?_,λw iI mX q aF=> ?_⟩
   ·rcases fe.1 iI with rfl|iI
    ·exact absurd il mX
    ·exact kU.old w (by rw[<-ny.1,aA];exact fe.2 (.inr iI)) mX
   ·have ahA:w={z0 with T:=aS}:=by
     rcases fe.1 iI with rfl|iI
     ·rfl
     ·exact absurd (b3.iP (List.mem_append_right _ List.mem_cons_self) (fe.2 (.inr iI)) (il.trans mX.symm)) (λe=>by
       have iP:=(jA (R:=λx y:bH=>x.s≠y.s/\x.t≠y.t) (λa b aw=>⟨aw.1.symm,aw.2.symm⟩)).1 (aA▸hn.sys.iP)
       exact(iP.1 w iI).1 (il.trans mX.symm))
    subst ahA;show dC (aS.ent q) _;rw[ma];by_cases e:q=p
    ·subst e;rw[e4];exact Yh q
    ·rw[eE _ _ e];by_cases bo:q<cu
     ·exact kU.new z0 aP il q bo
     ·rw[kg.bare z0 aP il q (by omega)];have:=Yh q;rw[TL q (by omega) aF e]at this;exact this
   ·have old:∀w,w∈aX.au->(w.s=x.s\/w.s=aY)->(q≠p\/w=gz)->(w.T.ent q).write=false:=λw s7 mX jJ=>by
     by_cases bo:q<cu
     ·exact kU.wr w s7 mX q bo
     ·rcases mX with aG|aG
      ·obtain rfl:w=gz:=k.iP s7 aq (aG.trans f_.symm);by_cases e:q=p
       ·subst e;exact hw
       ·rw[TL q (by omega) aF e];rfl
      ·rcases jJ with e|rfl
       ·rw[kg.bare w s7 aG q (by omega)];rfl
       ·exact absurd (f_.symm.trans aG) gm
    rcases fe.1 iI with rfl|iI
    ·show(aS.ent q).write=false;rw[ma];by_cases e:q=p
     ·subst e;rw[e4];exact hw
     ·rw[eE _ _ e];exact old z0 aP (.inr il) (.inl e)
    ·have s7:w∈aX.au:=by rw[<-ny.1,aA];exact fe.2 (.inr iI)
     refine old w s7 mX ?_;by_cases e:q=p
     ·right;rcases mX with aG|aG
      ·exact k.iP s7 aq (aG.trans f_.symm)
      ·exfalso;have iP:=(jA (R:=λx y:bH=>x.s≠y.s/\x.t≠y.t) (λa b aw=>⟨aw.1.symm,aw.2.symm⟩)).1 (aA▸hn.sys.iP);exact(iP.1 w iI).1 (il.trans aG.symm)
     ·exact .inl e
end
end
section
variable{PV:cn} [cN PV]
theorem arP{Q:eb->List aa->ae->Prop}{f:List aa->ae->Option a1}{vs:List aa}{h:ae}{n:Nat}(I:Nat->List aa->ae->Prop)(m:Nat)(hm:m<2^n)(h0:I 0 vs h)
  (s:∀i vs h,i<=m->I i vs h->aV (f vs h) λx dJ g=>(x=.normal/\i<m/\I (i+1) dJ g)\/(x≠.normal/\Q x dJ g)) :aV (eM n f vs h) Q:=
 Mi I m Q hm (λi vs h af kf=>by
  obtain⟨x,dJ,g,e,q⟩:=s i vs h af kf;rcases q with⟨rfl,h1,ab⟩ |⟨h1,ab⟩
  ·exact .inl ⟨h1,dJ,g,e,ab⟩
  ·exact .inr ⟨x,dJ,g,h1,e,ab⟩) h0
theorem aeD{ent:Nat->bj}{cu:Nat}(h:fu cu (dI ent 0 4096)=[])(aI:∀p,ent p≠.zero->p<4096) :∀r,cu<=r->ent r=.zero:=by generalize e6:4096=N at h aI;exact aeC h aI
theorem aeF{h:ae}{A:gw}{mem held:Nat->Nat}{free t nn:Nat}{T:dt}(s:fI h A mem held free)(x:nf h A mem held t nn T)(cu:Nat)(n':cu<=4096)(aI:∀p,T.ent p≠.zero->p<4096) :
  bh (call J PV (.func 108 [] []) [.ptr t 0,.int .i64 cu] h) λv g=>bf h g/\(((∀r,cu<=r->T.ent r=.zero)/\v=.tuple [.agg i_,.bool false])\/∃p,cu<=p/\T.ent p≠.zero/\(∀r,cu<=r->r<p->T.ent r=.zero)/\v=.tuple [.agg (eC T p),.bool true]):=by
 refine bh.mono (aeE s x cu n') ?_;rintro v g ⟨u,⟨h0,rfl⟩ |⟨p,l,h0,rfl⟩⟩
 ·exact⟨u,.inl ⟨aeD h0 aI,rfl⟩⟩
 ·have h1:=aeG h0;exact⟨u,.inr ⟨p,h1.1,h1.2.1,h1.2.2,rfl⟩⟩
section
variable{h g:ae}{X:ew}{c:df}{ρ bD:Nat->Nat}{σ aR:b8}{d e:Nat->Int}{a b:List bH}{x cG:bH}{aY cu:Nat}{aX b5:b8}
def IY(h:ae)(X:ew)(c:df)(ρ:Nat->Nat)(σ:b8)(x:bH)(g:ae) :Prop:=bX ρ h g/\∃aR bD,(∀i,i<h.next->bD i=ρ i)/\Good g X c bD aR (λ_=>0) (λ_=>0)/\view c aR=view c σ/\
 aa4 X c (λl=>l=σ.au.map (·.L)\/l=σ.au.map (·.L)++[x.L])
theorem ids(k:Good h X c ρ σ (λ_=>0) (λ_=>0)) :(σ.au.map (·.s)).Nodup:=List.pairwise_map.2 (k.sys.iP.imp λh=>h.1)
theorem aer(k:Good h X c ρ σ (λ_=>0) (λ_=>0))(e1:∀s p,¬c.loose s p)(ag:x∈σ.au)
  (lq:∀g0 Ex jo,Good g0 X c Ex jo (λ_=>0) (λ_=>0)->(jo.au.map (·.L)=σ.au.map (·.L)\/jo.au.map (·.L)=σ.au.map (·.L)++[x.L])->4<=jo.free\/gk jo<16000) :
  bh (call J PV (.func 43 [] []) [.ptr x.s 0] h) λv g=>(v=.tuple [.nilPtr,.int .i64 18]/\IY h X c ρ σ x g)\/
   (bX ρ h g/\∃aY aR bD,v=.tuple [.ptr aY 0,.int .i64 0]/\h.next<=aY/\(∀i,i<h.next->bD i=ρ i)/\Good g X c bD aR (λ_=>0) (λ_=>0)/\view c aR=view c σ++[(aY,x.L,cont c σ x)]/\(Roomy c σ x->IW σ x aY 4096 aR)):=by
 refine bh.mk (λe=>akj (first:=[]) (cap:=[]) e rfl) ?_;unfold Rb;have tr:=k.sys.au x ag;simp only[HD tr,c3,dP,ar,ba];rw[if_neg (by decide)];simp only[cl,qW,ar,mA,tr.field.1];have ae1:0<σ.free\/gk σ<16000:=(lq h ρ σ k (.inl rfl)).imp (λh=>by omega) id;have hP:∀q,q∈view c σ->q.1<h.next:=λq aF=>by obtain⟨y,aq,rfl⟩:=List.mem_map.1 aF;exact k.sys.core.lt y.s (by have:=(k.sys.au y aq).role;omega)
 refine b4 (XZ k ae1) ?_;rintro v6 g1 ⟨ck,⟨aX,bk,iH,_,_,rfl,rF,ea⟩ |⟨aX,f,aY,j7,dy,mU,iH,oX,_,_,oS,rfl,kj,bk,LD⟩⟩
 ·refine vp (a:=.nilPtr) rfl (vp (a:=.int .i64 18) rfl (vp (a:=.bool true) (by rw[dP];rfl) (aaH (λ_=> ?_) (λh=>by cases h))));refine aV.pure (.inl ⟨rfl,ck,aX,ρ,λ_ _=>rfl,bk,iH,g1,ρ,aX,bk,by omega,ea,.inl ?_⟩);rw[p9 (c:=c),iH,<-p9]
 refine vp (a:=.ptr aY 0) rfl (vp (a:=.int .i64 0) rfl (vp (a:=.bool false) (by rw[dP];rfl) (aaH (λh=>by cases h) (λ_=> ?_))));have fK:∀q,q∈view c σ->q.1≠aY:=λq aF=>by have:=hP q aF;omega
 generalize UJ:({aX with mem:=az aX.mem f 0,held:=az aX.held f 1,free:=aX.free-1,au:=aX.au++[⟨aY,j7,ez f,[]⟩]} :b8)=vv at bk LD;have CI:vv.au=aX.au++(⟨aY,j7,ez f,[]⟩ :bH)::[]:=by rw[<-UJ]
 obtain⟨bU,iJ,ahD,ahC,_⟩ :∃y,y∈vv.au/\y.s=x.s/\y.L=x.L/\cont c vv y=cont c σ x:=
  yT (q:=(x.s,x.L,cont c σ x)) (by rw[LD];exact List.mem_append_left _ (List.mem_map.2 ⟨x,ag,rfl⟩))
 obtain⟨hT,ol,iY,lU⟩:=(bk.sys.au bU iJ).str;rw[ahD]at ol;rw[ahC]at iY;have eK:=k.inv.hJ x ag;have Cn:=eK.len;simp only[cl,Oh,Nat.zero_add,ar,u7,Obj.get ol (i:=2) rfl];refine b4 (acD iY (by omega)) ?_;rintro Bm g2 ⟨bn,aoo,Uu,wy⟩;have mj:=ck.next;have qz:=bn.next;have Uy:(⟨aY,j7,ez f,[]⟩ :bH)∈vv.au:=by rw[CI];simp
 have b_:=bk.ext bn;obtain⟨lt,M3,_,_⟩:=(b_.sys.au _ Uy).str;have M3:a8.Obj g2 aY [.ptr X.M 0,.ptr j7 0,lt]:=M3;refine cX (OD (k:=2) (v:=Bm) M3 (by simp) Uu.1 Uu.2) λg3 ⟨cO,bR,gp⟩=> ?_
 have cO:a8.Obj g3 aY [.ptr X.M 0,.ptr j7 0,Bm]:=cO;have fw:∀i,cI Bm=some i->dy i=0:=λi af=>bk.fresh (wy i af).1
 have rt:dy aY=15/\dy j7=16:=(bk.sys.au _ Uy).role;have aop:=aoo.az bR (λdK cap ex e de=>by have:=fw dK (by rw[e];rfl);rw[de]at this;omega);have b3:=b_.row CI eK (λp aI=>absurd (rfl:(ez f).ent p=.zero) aI) (hM:=x.L) cO aop (λi af=>⟨.inl (fw i af),by have:=wy i af;omega⟩) bR;generalize ahY:(λi=>if cI Bm=some i then 17 else dy i)=ev at b3;have ahZ:∀i,i<g1.next->ev i=dy i:=λi af=>by rw[<-ahY];show(if cI Bm=some i then 17 else dy i)=dy i;rw[if_neg];intro e;have:=wy i e;omega
 have eJ:bX dy g1 g3:=(bX.ext (ρ:=dy) bn).trans (bX.of (ρ:=dy) bR λi _ e=>by subst e;omega) (λ_ _=>rfl);have oV:∀i,i<h.next->ev i=ρ i:=λi af=>(ahZ i (by omega)).trans (mU i af)
 have aaG:bX ρ h g3:=ck.trans eJ mU;generalize CS:({vv with au:=aX.au++({(⟨aY,j7,ez f,[]⟩ :bH)with L:=x.L})::[]} :b8)=tI at b3;have afO:mG c σ x aY 0 tI:=by
  refine⟨?_,λy aq aA r _=> ?_,λmx=> ?_⟩
  ·have h1:aX.au.map (λy=>(y.s,y.L,cont c vv y))=view c σ:=by
    have:=LD;unfold view at this;rw[CI,List.map_append]at this;exact(List.append_inj' this rfl).1
   have ab:aX.au.map (λy=>(y.s,y.L,cont c tI y))=aX.au.map (λy=>(y.s,y.L,cont c vv y)):=List.map_congr_left λy _=>by
    have:cont c tI y=cont c vv y:=funext λq=>by rw[<-CS];exact lG (λ_=>rfl) (λ_=>rfl)
    rw[this]
   have al:view c tI=aX.au.map (λy=>(y.s,y.L,cont c tI y))++[(aY,x.L,cont c tI ⟨aY,j7,ez f,x.L⟩)]:=by
    unfold view;have:tI.au=aX.au++[⟨aY,j7,ez f,x.L⟩]:=by rw[<-CS]
    rw[this,List.map_append];rfl
   rw[al,ab,h1];congr 1;have:cont c tI ⟨aY,j7,ez f,x.L⟩=pQ c x.L (cont c σ x) 0:=funext λr=>by rw[zm (show(ez f).ent r=.zero from rfl)];unfold pQ;rw[if_neg (Nat.not_lt_zero _)]
   rw[this]
  ·have ahM:y∈aX.au++({(⟨aY,j7,ez f,[]⟩ :bH)with L:=x.L})::[]:=by rw[<-CS]at aq;exact aq
   rcases List.mem_append.1 ahM with qE|qE
   ·exfalso;have atI:y∈vv.au:=by rw[CI];exact List.mem_append_left _ qE
    have aoX:=(jA (R:=λx y:bH=>x.s≠y.s/\x.t≠y.t) (λa b aw=>⟨aw.1.symm,aw.2.symm⟩)).1 (CI▸bk.sys.iP);exact(aoX.1 y (by simpa using qE)).1 aA.symm
   ·rw[List.mem_singleton]at qE;subst qE;rfl
  ·have aG:aX=σ:=oX (by have:=mx σ k.inv (.inl rfl);omega);have ag5:tI.au=σ.au++({(⟨aY,j7,ez f,[]⟩ :bH)with L:=x.L})::[]:=by rw[<-CS,aG]
   refine⟨by rw[<-CS,<-UJ,aG],λy aq aA=> ?_,λz _ _ p aI=>absurd aI (Nat.not_lt_zero p),λy _ _ p aI=>absurd aI (Nat.not_lt_zero p)⟩;rw[ag5]at aq;rcases List.mem_append.1 aq with qE|qE
   ·exact⟨y,qE,rfl,λp=>⟨dC.refl _,id⟩⟩
   ·rw[List.mem_singleton]at qE;subst qE;exact absurd rfl aA
 have Xq:∀{cu:Nat} {b5:b8},mG c σ x aY cu b5->b5.au.map (·.L)=σ.au.map (·.L)\/b5.au.map (·.L)=σ.au.map (·.L)++[x.L]:=λav=>.inr av.rows
 have asS:X.M<g3.next:=b3.sys.core.lt _ (by have:=b3.sys.j3;omega)
 refine hX (n:=14) (I:=λi vs g=>∃cu,vs=[.nilPtr,.int .i64 0,.int .i64 (cu:Nat)]/\i<=cu/\cu<=4096/\bX ev g3 g/\∃b5,Good g X c ev b5 (λ_=>0) (λ_=>0)/\mG c σ x aY cu b5) (m:=4097)
  (P:=λy vs g=>(y=.ret/\(∃d,vs=[.nilPtr,.int .i64 18,d])/\IY h X c ρ σ x g)\/(y=.ret/\(∃d,vs=[.ptr aY 0,.int .i64 0,d])/\bX ev g3 g/\∃b5,Good g X c ev b5 (λ_=>0) (λ_=>0)/\view c b5=view c σ++[(aY,x.L,cont c σ x)]/\(Roomy c σ x->IW σ x aY 4096 b5))) (by decide) ⟨0,rfl,Nat.le_refl _,by omega,aM.refl _ _,tI,b3,afO⟩ ?_ ?_
 ·rintro i _ g4 af ⟨cu,rfl,as_,n',fq,b5,c7,FP⟩;simp only[bz,bp];refine fO (P:=λy vs g=>bX ev g3 g/\((y=.ret/\vs=[.nilPtr,.int .i64 18]/\IY h X c ρ σ x g)\/(y=.exit 2/\vs=[.nilPtr,.int .i64 0]/\∃fG,Good g X c ev fG (λ_=>0) (λ_=>0)/\mG c σ x aY cu fG/\4<=fG.free))) ?_ ?_
  ·refine arP (n:=14) (λj vs g=>vs=[.nilPtr,.int .i64 0]/\bX ev g3 g/\∃fG,Good g X c ev fG (λ_=>0) (λ_=>0)/\mG c σ x aY cu fG/\(4<=fG.free\/j+gk fG+(4-fG.free)<=16004)) 16005 (by decide) ⟨rfl,fq,b5,c7,FP,?_⟩ ?_
   ·rcases lq g4 ev b5 c7 (Xq FP)with h1|h1
    ·exact .inl h1
    ·exact .inr (by omega)
   ·rintro j vs g5 aO ⟨rfl,gf,fG,dQ,qv,mT⟩;simp only[bz,bp,cl,k7,ar,ha,dQ.sys.field.1,zz dQ.sys.core.ps.p,c3,dk,ba];by_cases Sm:(fG.free:Int) <4
    ·rw[if_pos (by simpa using Sm)];have mT:=mT.resolve_left (by omega);refine b4 (Mu dQ) ?_;rintro _ g6 ⟨gS,b,eU,rfl,eL,md,aj⟩;have FQ:=qv.made dQ (by omega) md;simp only[fD,ar,ba];cases b with
     |true=>
      rw[if_neg (by decide)];have jX:=md.go rfl;have h1:=md.free;have ab:=md.here;exact aV.pure (.inl ⟨rfl,by omega,rfl,gf.trans gS (λ_ _=>rfl),eU,eL,FQ,by omega⟩)
     |false=>
      rw[if_pos (by decide)];obtain⟨uB,yz⟩:=aj rfl;obtain⟨z,aP,il,ahT,_⟩:=FQ.new;obtain⟨e',dK,aA⟩:=List.append_of_mem aP;have gj:=St eL aA;rw[il]at gj;refine b4 gj ?_;rintro _ g7 ⟨rfl,jn,_,k_,j0,Ge,_,_,_,_,nt⟩;have q_:=(gf.trans gS (λ_ _=>rfl)).trans jn (λ_ _=>rfl);have jZ:view c k_=view c σ:=by
       have aG:view c k_=(e'++dK).map λy=>(y.s,y.L,cont c eU y):=by unfold view;rw[Ge];exact List.map_congr_left λy aq=>by rw[show cont c k_ y=cont c eU y from funext λq=>nt y q aq]
       have aT:=FQ.view;have bJ:view c eU=e'.map (λy=>(y.s,y.L,cont c eU y))++(z.s,z.L,cont c eU z)::dK.map (λy=>(y.s,y.L,cont c eU y)):=by unfold view;rw[aA];simp
       have e0:dK=[]:=by
        rcases List.eq_nil_or_concat dK with h0|⟨abr,y,rfl⟩
        ·exact h0
        ·exfalso;rw[bJ,List.concat_eq_append,List.map_append]at aT;have fJ:(e'.map (λy=>(y.s,y.L,cont c eU y))++(z.s,z.L,cont c eU z)::abr.map (λy=>(y.s,y.L,cont c eU y)))++[(y.s,y.L,cont c eU y)]=view c σ++[(aY,x.L,pQ c x.L (cont c σ x) cu)]:=by simpa using aT
         have kc:=(List.append_inj' fJ rfl).2;simp only[List.cons.injEq,Prod.mk.injEq,and_true]at kc;have aoW:=(jA (R:=λx y:bH=>x.s≠y.s/\x.t≠y.t) (λa b aw=>⟨aw.1.symm,aw.2.symm⟩)).1 (aA▸eL.sys.iP);exact(aoW.1 y (by simp)).1 (il.trans kc.1.symm)
       subst e0;rw[bJ]at aT;have:=(List.append_inj' aT rfl).1;rw[aG,List.append_nil,this]
      exact aV.pure (.inr ⟨by simp,q_,.inl ⟨rfl,rfl,aaG.trans q_ oV,k_,ev,oV,j0,jZ,g6,ev,eU,eL,by rw[uB.free];omega,yz,Xq FQ⟩⟩)
    ·rw[if_neg (by simpa using Sm)];exact aV.pure (.inr ⟨by simp,gf,.inr ⟨rfl,rfl,fG,dQ,qv,by omega⟩⟩)
  ·rintro y vs g5 ⟨gf,⟨rfl,rfl,e7⟩ |⟨rfl,rfl,fG,dQ,qv,v8⟩⟩
   ·simp only[bz,bp,pj];exact aV.pure (.inr ⟨by simp,.inl ⟨rfl,⟨_,rfl⟩,e7⟩⟩)
   simp only[bz,bp,hs,if_true];obtain⟨xs,gm,wk,ahI,ahJ⟩:=qv.own ag;have xq:=(dQ.sys.au xs gm).field;rw[wk]at xq;simp only[cl,qX,Nat.zero_add,ar,m4,xq.2];refine b4 (aeF dQ.ps (dQ.ly gm) cu n' (λp aI=>dQ.inv.lt gm aI)) ?_;rintro eP g6 ⟨cJ,⟨aP,rfl⟩ |⟨p,we,fL,vX,rfl⟩⟩
   ·simp only[adO,ar];refine cM r_ λg7 fj n7 fk=> ?_
    refine cX (q2 (k:=0) (cs:=i_) fj rfl (by simp[i_]) rfl) λg8 ⟨iM,u8,n8⟩=> ?_
    simp only[fD,Bool.not_false,ar,ba,if_true];have w3:bf g6 g8:=fk.local u8 (λj aO e=>by omega);refine aV.pure (.inr ⟨by simp,.inr ⟨rfl,⟨_,rfl⟩,gf.trans (bX.ext (ρ:=ev) (cJ.trans w3)) (λ_ _=>rfl),fG,dQ.ext (cJ.trans w3),?_,λmx=> ?_⟩⟩)
    rotate_left
    ·have kU:=qv.kU mx;obtain⟨w,iI,mX,aF⟩:=kU.old xs gm (by rw[wk];exact fK _ (List.mem_map.2 ⟨x,ag,rfl⟩));obtain rfl:w=x:=V1 (ids k) iI ag (mX.trans wk);refine⟨kU.ring,kU.old,λz Gs il q ux=> ?_,λy rS f_ q ux=> ?_⟩
     ·by_cases bo:q<cu
      ·exact kU.new z Gs il q bo
      ·rw[qv.bare z Gs il q (by omega),<-aP q (by omega)];exact(aF q).1
     ·by_cases bo:q<cu
      ·exact kU.wr y rS f_ q bo
      ·rcases f_ with aG|aG
       ·obtain rfl:y=xs:=dQ.iP rS gm (aG.trans wk.symm);rw[aP q (by omega)];rfl
       ·rw[qv.bare y rS aG q (by omega)];rfl
    rw[qv.view];congr 1;have:pQ c x.L (cont c σ x) cu=cont c σ x:=funext λr=>by
     unfold pQ;by_cases an:r<cu
     ·rw[if_pos an]
     ·rw[if_neg an,<-ahJ,zm (aP r (by omega)),ahI]
    rw[this]
   ·have ky:=dQ.inv.lt gm fL;simp only[adO,ar];refine cM r_ λg7 fj n7 fk=> ?_
    refine cX (q2 (k:=0) (cs:=eC xs.T p) fj rfl (by simp[eC,bj.vs]) rfl) λg8 ⟨iM,u8,n8⟩=> ?_
    have iM:=ff iM rfl;have w3:bf g6 g8:=fk.local u8 (λj aO e=>by omega);have yM:=cJ.trans w3;have pK:=dQ.ext yM;have F4:=cJ.next;have hL:=gf.trans (bX.ext (ρ:=ev) yM) (λ_ _=>rfl);have NC:ev g6.next=0:=dQ.fresh (by omega);have r0:bP g8 g6.next 0=some (.int .i64 (p:Nat)):=iM.rd 0;have dm:bP g8 g6.next 2=some (.bool (xs.T.ent p).write):=iM.rd 2;simp only[fD,Bool.not_true,ar,ba,Bool.false_eq_true,if_false,HW,cW,r0,qY,ow,Nat.zero_add,km,dm];refine fO (P:=λy vs g=>y=.normal/\vs=[]/\bX ev g3 g/\∃eU en,Good g X c ev eU (λ_=>0) (λ_=>0)/\mG c σ x aY cu eU/\4<=eU.free/\en∈eU.au/\en.s=x.s/\en.T.ent p≠.zero/\(en.T.ent p).write=false/\(∀r,cu<=r->r<p->en.T.ent r=.zero)/\a8.Obj g g6.next (.int .i64 (p:Nat)::(en.T.ent p).vs)/\g8.next<=g.next) ?_ ?_
    ·by_cases JP:(xs.T.ent p).write=true
     ·rw[if_pos JP];refine cX (H5 (k:=2) iM (by simp[eC,bj.vs]) false) λg9 ⟨uQ,gy,n9⟩=> ?_
      simp only[qY,ox,Nat.zero_add,ar];refine cX (H5 (k:=3) uQ (by simp[eC,bj.vs]) true) λg10 ⟨m0,iw,n10⟩=> ?_
      have cf:bf g10 (g10.aB 8):=aM.aB _ _ _;have OS:bf g6 g10:=(w3.local gy (λj aO e=>by omega)).local iw (λj aO e=>by omega);have m0:a8.Obj g10 g6.next (.int .i64 (p:Nat)::(xs.T.ent p).u3.vs):=m0;have G6:=m0.ext cf (by have:=OS.next;omega);have D5:=(cJ.trans OS).trans cf;have x':=dQ.ext D5;have f2:=(x'.sys.au _ gm).field;rw[wk,dd]at f2;simp only[cl,qX,Nat.zero_add,ar,m4,dd,f2.2,qY];rw[yE G6 (by simp[bj.u3,bj.vs])];simp only[ar];have uy:(aa.agg (List.take 5 (List.drop 1 (.int .i64 (p:Nat)::(xs.T.ent p).u3.vs))))=(xs.T.ent p).u3.eo:=rfl;rw[uy];obtain⟨e',dK,aA⟩:=List.append_of_mem gm;refine b4 (aoV x' e1 aA fL) ?_;rintro v53 g11 ⟨mC,eU,vE,he,s',CF,h1,ab,al,aE,aL,bm,_,cr,cz⟩;simp only[eh];have ahL:({xs with T:=vE} :bH)∈eU.au:=by rw[CF];simp
      refine aV.pure ⟨rfl,rfl,(gf.trans (bX.ext (ρ:=ev) D5) (λ_ _=>rfl)).trans mC (λ_ _=>rfl),eU,{xs with T:=vE},s',⟨(Ik aA CF rfl rfl cr cz).trans qv.view,λy aq f_ r an=> ?_,λmx=> ?_⟩,by rw[h1];exact v8,ahL,wk,?_,?_,λr mU oV=> ?_,?_,?_⟩
      ·rw[CF]at aq;rcases fe.1 aq with rfl|aq
       ·exact absurd (wk.symm.trans f_) (fK _ (List.mem_map.2 ⟨x,ag,rfl⟩))
       ·exact qv.bare y (by rw[aA];exact fe.2 (.inr aq)) f_ r an
      ·have kU:=qv.kU mx;have sh:∀q,dC (vE.ent q) (xs.T.ent q)/\((xs.T.ent q).write=false->(vE.ent q).write=false):=λq=>by
        rw[he];by_cases e:q=p
        ·subst e;rw[e4];exact⟨⟨rfl,rfl,rfl⟩,λ_=>rfl⟩
        ·rw[eE _ _ e];exact⟨dC.refl _,id⟩
       have back:∀y,y∈eU.au->∃sn,sn∈fG.au/\sn.s=y.s/\∀q,dC (y.T.ent q) (sn.T.ent q)/\((sn.T.ent q).write=false->(y.T.ent q).write=false):=λy aq=>by
        rw[CF]at aq;rcases fe.1 aq with rfl|aq
        ·exact⟨xs,gm,rfl,sh⟩
        ·exact⟨y,by rw[aA];exact fe.2 (.inr aq),rfl,λq=>⟨dC.refl _,id⟩⟩
       refine⟨ab.trans kU.ring,λy aq f_=> ?_,λy aq f_ q aF=> ?_,λy aq f_ q aF=> ?_⟩
       ·obtain⟨sn,fS,ft,gV⟩:=back y aq;obtain⟨w,bo,cp,ed⟩:=kU.old sn fS (by rw[ft];exact f_);exact⟨w,bo,cp.trans ft,λq=>⟨(gV q).1.trans (ed q).1,λh=>(gV q).2 ((ed q).2 h)⟩⟩
       ·obtain⟨sn,fS,ft,gV⟩:=back y aq;exact(gV q).1.trans (kU.new sn fS (ft.trans f_) q aF)
       ·obtain⟨sn,fS,ft,gV⟩:=back y aq;exact(gV q).2 (kU.wr sn fS (by rw[ft];exact f_) q aF)
      ·show vE.ent p≠.zero;rw[he,e4];exact VL (XP (dQ.inv.jy gm fL))
      ·show(vE.ent p).write=false;rw[he,e4];rfl
      ·show vE.ent r=.zero;rw[he,eE _ _ (by omega)];exact vX r mU oV
      ·show a8.Obj g11 g6.next (.int .i64 (p:Nat)::(vE.ent p).vs);rw[he,e4];exact mC.c0 G6 (by have:=OS.next;have:(g10.aB 8).next=g10.next+8:=rfl;omega) NC
      ·have:=mC.next;have:(g10.aB 8).next=g10.next+8:=rfl;omega
     ·rw[if_neg JP];exact aV.pure ⟨rfl,rfl,hL,fG,xs,pK,qv,v8,gm,wk,fL,by simpa using JP,vX,iM,Nat.le_refl _⟩
    rintro _ _ g9 ⟨rfl,rfl,iz,eU,en,pL,TT,afT,f_,ahP,Gr,ahQ,ahN,uQ,agB⟩;have cS:bP g9 g6.next 1=some (.bool (en.T.ent p).here):=uQ.rd 1;have hI:bP g9 g6.next 5=some (.int .i64 (en.T.ent p).n):=uQ.rd 5;simp only[bp,jd,lZ,Nat.add_zero,ar,km,cS];have cf:bf g9 (g9.aB 8):=aM.aB _ _ _;have L6:=pL.ext cf;have oj:=L6.sys.field.1;have eu:=L6.sys.field.2.2.2;rw[dd]at oj eu;have aN:=afF L6 f_ Gr;have ik:=pL.inv.jy f_ Gr;have hm:=k2 ik;refine fO (P:=λy vs g=>y=.normal/\vs=[]/\bX ev g3 g/\g9.next<=g.next/\a8.Obj g g6.next (.int .i64 (p:Nat)::(en.T.ent p).vs)/\∃k_,(k_.au=eU.au/\k_.mem=eU.mem/\k_.sec=eU.sec/\k_.free=eU.free/\k_.ring=eU.ring)/\((en.T.ent p).here=true->k_.held (en.T.ent p).n.toNat≠0)/\Good g X c ev k_ (λf=>(b2 f (en.T.ent p)).toNat) (λi=>(dg i (en.T.ent p)).toNat)) ?_ ?_
    ·have Wh:=uQ.ext cf (by omega);by_cases aD:(en.T.ent p).here=true
     ·simp only[ba];rw[if_pos aD];obtain⟨g10,JY,fN,k0⟩:=aN.1 aD;simp only[cl,k7,ar,ha,cW,qY,l0,Nat.zero_add,dd,oj,hI,JY,c3,eh];refine aV.pure ⟨rfl,rfl,(iz.trans (bX.ext (ρ:=ev) cf) (λ_ _=>rfl)).trans (bX.own fN) (λ_ _=>rfl),by have:=fN.next;have:(g9.aB 8).next=g9.next+8:=rfl;omega,(bX.own fN).c0 Wh (by have:(g9.aB 8).next=g9.next+8:=rfl;omega) NC,{eU with held:=az eU.held (en.T.ent p).n.toNat (eU.held (en.T.ent p).n.toNat+1)},⟨rfl,rfl,rfl,rfl,rfl⟩,λ_=> ?_,k0⟩;show az eU.held (en.T.ent p).n.toNat (eU.held (en.T.ent p).n.toNat+1) (en.T.ent p).n.toNat≠0;rw[e4];omega
     ·simp only[ba];rw[if_neg aD];simp only[cl,tv,ar,m3,cW,qY,l0,Nat.zero_add,dd,eu,hI];refine b4 (aN.2 (by simpa using aD)) ?_;rintro v70 g10 ⟨fN,k0⟩;simp only[eh];exact aV.pure ⟨rfl,rfl,(iz.trans (bX.ext (ρ:=ev) cf) (λ_ _=>rfl)).trans (bX.own fN) (λ_ _=>rfl),by have:=fN.next;have:(g9.aB 8).next=g9.next+8:=rfl;omega,(bX.own fN).c0 Wh (by have:(g9.aB 8).next=g9.next+8:=rfl;omega) NC,{eU with bY:=az eU.bY (en.T.ent p).n.toNat (eU.bY (en.T.ent p).n.toNat+1)},⟨rfl,rfl,rfl,rfl,rfl⟩,λh=>absurd h aD,k0⟩
    rintro _ _ g10 ⟨rfl,rfl,fN,agw,m0,k_,UI,Cj,k0⟩;simp only[bp,jd];have OU:bf g10 (g10.aB 8):=aM.aB _ _ _;obtain⟨z,aP,il,ahT,_⟩:=TT.new;have U1:=k0.ext OU;have Ts:=(U1.sys.au z (by rw[UI.1];exact aP)).field;rw[il,dd]at Ts;have G6:=m0.ext OU (by omega);simp only[cl,qX,Nat.zero_add,ar,m4,dd,Ts.2,qY];rw[yE G6 (by simp[bj.vs])];simp only[ar];have uy:(aa.agg (List.take 5 (List.drop 1 (.int .i64 (p:Nat)::(en.T.ent p).vs))))=(en.T.ent p).eo:=rfl;rw[uy];refine b4 (aes pL e1 TT ag (ids k) fK f_ ahP aP il we Gr ahN ahQ afT UI Cj U1) ?_;rintro v76 g11 ⟨mC,vu,s',afN⟩;have aG:b0 .i64 ((p:Int) +1)=((p+1:Nat) :Int):=by rw[wrap_i64 (by omega) (by omega)];omega
    simp only[eh,du,aG,ar];exact aV.pure (.inl ⟨rfl,by omega,p+1,rfl,by omega,by omega,(fN.trans (bX.ext (ρ:=ev) OU) (λ_ _=>rfl)).trans mC (λ_ _=>rfl),vu,s',afN⟩)
 ·rintro y vs g4 (⟨rfl,⟨fc,rfl⟩,e7⟩ |⟨rfl,⟨fc,rfl⟩,fq,b5,c7,kz,xH⟩)
  ·simp only[bz,bp,pj];exact aV.pure (.inl ⟨rfl,e7⟩)
  ·simp only[bz,bp,pj];exact aV.pure (.inr ⟨aaG.trans fq oV,aY,b5,ev,rfl,kj,oV,c7,kz,xH⟩)
end
end
section
variable{PV:cn} [cN PV]
theorem abT(a b p:Int) :dY J 47 [(0,.int .i64 a),(1,.int .i64 b),(2,.int .i64 p),(3,.int .i64 2),(4,.int .i64 (-1))]=some (.agg (⟨a,b,p,2,-1,0⟩ :aU).vs):=by kernel_rfl
theorem PB(h:ae)(a b p:Int) :bh (call J PV (.func 35 [] []) [.int .i64 a,.int .i64 b,.int .i64 p] h) λv g=>v=.agg (⟨a,b,p,2,-1,0⟩ :aU).vs/\bf h g:=by
 refine bh.mk (λe=>akd (first:=[]) (cap:=[]) e rfl) ?_;unfold Q7;refine cM AY λg1 ct dR bb=> ?_
 rw[abT];simp only[ar];refine cX (yH (k:=0) (cs:=(⟨a,b,p,2,-1,0⟩ :aU).vs) ct rfl (by simp[aU.vs]) rfl) λg2 ⟨cE,bn,eN⟩=> ?_
 have cE:=ff cE rfl;rw[lz cE (by simp[aU.vs])];simp only[ar];exact aV.pure ⟨rfl,bb.local bn (λj aO e=>by omega)⟩
end
def eQ(a b p:Int) :aU:=⟨a,b,p,2,-1,0⟩
theorem LU(r:aU)(h:r.lo<r.af) :(iK r []).foldl e9 []=[r]:=by show e9 [] r=[r];unfold e9;rw[if_neg (by omega)];rfl
section
variable{h g:ae}{X:ew}{c:df}{ρ bD:Nat->Nat}{σ aR:b8}{PV:cn} [cN PV]
theorem Dx(k:Good h X c ρ σ (λ_=>0) (λ_=>0))(aJ:0<σ.free) :bh (call J PV (.func 30 [] []) [.ptr X.M 0] h) λv g=>bX ρ h g/\∃s t f bD,v=.tuple [.ptr s 0,.int .i64 0]/\h.next<=s/\(∀i,i<h.next->bD i=ρ i)/\
  Good g X c bD {σ with mem:=az σ.mem f 0,held:=az σ.held f 1,free:=σ.free-1,au:=σ.au++[⟨s,t,ez f,[]⟩]} (λ_=>0) (λ_=>0)/\
  view c {σ with mem:=az σ.mem f 0,held:=az σ.held f 1,free:=σ.free-1,au:=σ.au++[⟨s,t,ez f,[]⟩]}=view c σ++[(s,[],λ_=>none)]:=by
 refine bh.mono (XZ k (.inl aJ)) ?_;rintro v g ⟨w,⟨aX,bk,ai,aA,_,_,h0,_⟩ |⟨aX,f,s,t,bD,an,ai,aA,_,_,_,rfl,aw,bk,iH⟩⟩
 ·have:=aA aJ;subst this;omega
 ·have:=aA aJ;subst this;exact⟨w,s,t,f,bD,rfl,aw,an,bk,iH⟩
end
section
variable{h g:ae}{X:ew}{c:df}{ρ bD:Nat->Nat}{σ aR:b8}{PV:cn} [cN PV]
theorem w6(k:Good h X c ρ σ (λ_=>0) (λ_=>0))(aF:Quiet c ((view c σ).map (·.2.1))){s:Nat}{L:List aU}{f:Nat->Option Nat}(hm:(s,L,f)∈view c σ){addr:Nat}(bc:addr<9223372036854775808)(use:Int)(ku:mE L (addr/64) use){b:Nat}(aj:b<256) :
  bh (call J PV (.func 33 [] []) [.ptr s 0,.int .i64 addr,.int .i64 use,.int .u8 b] h) λv g=>bX ρ h g/\∃b5 ev m fB,(∀i,i<h.next->ev i=ρ i)/\Good g X c ev b5 (λ_=>0) (λ_=>0)/\f (addr/64)=some m/\fB=(if use=2 then e8 m (addr%64) 1 b else m)/\
   v=.tuple [.int .u8 (cB fB (addr%64) 1:Nat),.int .i64 0]/\view c b5=m9 s (iu (addr/64) fB) (view c σ)/\∃eY,eY∈b5.au/\eY.s=s/\(eY.T.ent (addr/64)).here=true:=by
 obtain⟨x,ag,rfl,rfl,rfl⟩:=yT hm;refine bh.mono (aaA k (by rw[p9 (c:=c)];exact aF) ag bc use aj) ?_;rintro v g ⟨w,b5,ev,an,b_,⟨e7,_⟩ |⟨_,m,fB,h1,ab,al,aE,aL⟩⟩
 ·exact absurd ku e7
 ·exact⟨w,b5,ev,m,fB,an,b_,h1,ab,al,aE,aL⟩
theorem aet(k:Good h X c ρ σ (λ_=>0) (λ_=>0))(e1:∀s p,¬c.loose s p){s:Nat}{L:List aU}{f:Nat->Option Nat}(hm:(s,L,f)∈view c σ)(CA:Quiet c ((view c σ).map (·.2.1)))(ux:Quiet c ((view c σ).map (·.2.1)++[L])) :
  bh (call J PV (.func 43 [] []) [.ptr s 0] h) λv g=>bX ρ h g/\∃aY aR bD,v=.tuple [.ptr aY 0,.int .i64 0]/\h.next<=aY/\(∀i,i<h.next->bD i=ρ i)/\Good g X c bD aR (λ_=>0) (λ_=>0)/\view c aR=view c σ++[(aY,L,f)]:=by
 obtain⟨x,ag,rfl,rfl,rfl⟩:=yT hm;rw[<-p9]at CA ux;have room:∀jo,Inv c jo (λ_=>0) (λ_=>0)->(jo.au.map (·.L)=σ.au.map (·.L)\/jo.au.map (·.L)=σ.au.map (·.L)++[x.L])->4<=jo.free:=λjo i an=>by
  rcases an with an|an
  ·exact CA.room jo i an
  ·exact ux.room jo i an
 refine bh.mono (aer k e1 ag (λg0 Ex jo nA an=>.inl (room jo nA.inv an))) ?_;rintro v g (⟨_,_,_,_,_,_,_,g0,Ex,jo,nA,aJ,_,an⟩ |⟨w,aY,aR,bD,aG,aT,bJ,e0,fJ,_⟩)
 ·have:=room jo nA.inv an;omega
 ·exact⟨w,aY,aR,bD,aG,aT,bJ,e0,fJ⟩
end
theorem EI:mE [eQ 0 2 6] 0 2/\mE [eQ 0 2 6] 0 1:=⟨⟨eQ 0 2 6,by decide,by decide⟩,⟨eQ 0 2 6,by decide,by decide⟩⟩
theorem aiz:cN qh:=⟨λ_ _=>rfl⟩
theorem abq:∃g,call J qh (.func 28 [] []) [] dB=some (.bool true,g):=by
 have key:bh (call J qh (.func 28 [] []) [] dB) λv g=>v=.bool true:=by
  have inst0:cN qh:=aiz;refine bh.mk (λe=>aj0 (first:=[]) (mid:=[]) (cap:=[]) e rfl) ?_;unfold QT;obtain⟨g1,X,c,ρ,σ,b,cb,m,fX⟩:=Ms ak0;obtain⟨sec,xI⟩:=m.vU;have aF:∀rows,u2 rows<=53->Quiet c rows:=λrows an=>quiet_of m.loose xI (by rw[fX,m.n];omega)
  rw[Hz m.cQ];simp only[c3,dA,List.getElem?_cons_zero,List.getElem?_cons_succ,ar];refine b4 (Dx m.nm (by rw[m.free];decide)) ?_;rintro v g2 ⟨dT,s,t,f,ev,rfl,wi,oV,b_,pH⟩;have qD:view c σ=[]:=by unfold view;rw[m.au];rfl
  rw[qD,List.nil_append]at pH;generalize ny:({σ with mem:=az σ.mem f 0,held:=az σ.held f 1,free:=σ.free-1,au:=σ.au++[⟨s,t,ez f,[]⟩]} :b8)=b5 at b_ pH;have ahb:b5.au=[]++(⟨s,t,ez f,[]⟩ :bH)::[]:=by rw[<-ny,m.au]
  simp only[dA,List.getElem?_cons_zero,List.getElem?_cons_succ,ar,YF,cP,if_true,dP,c4,bz,bp,cF,Bool.false_eq_true,if_false,ne_eq,not_true_eq_false,decide_false];refine fO (P:=λy vs g=>y=.normal/\vs=[.bool false]/\∃fG qe f3,Good g X c qe fG (λ_=>0) (λ_=>0)/\view c fG=[(s,[eQ 0 2 6],f3)]) ?_ ?_
  ·refine b4 (PB g2 0 2 6) ?_;rintro _ g3 ⟨rfl,bR⟩;refine b4 (GS (b_.ext bR) m.loose ahb (eQ 0 2 6)) ?_;rintro v g4 ⟨fq,⟨hm,_⟩ |⟨_,⟨y,aq,_⟩,_⟩ |⟨_,_,rfl,oB,_,c7⟩⟩
   ·exact absurd hm (by decide)
   ·cases aq
   ·simp only[dP,ne_eq,not_true_eq_false,decide_false,ar];have kz:∀aR:b8,aR.au=[]++({(⟨s,t,ez f,[]⟩ :bH)with L:=(iK (eQ 0 2 6) []).foldl e9 []} :bH)::[]->view c aR=[(s,[eQ 0 2 6],cont c aR ⟨s,t,ez f,[eQ 0 2 6]⟩)]:=λaR h=>by unfold view;rw[h];rfl
    exact aV.pure ⟨rfl,rfl,_,oB,_,c7,kz _ rfl⟩
  rintro _ _ g4 ⟨rfl,rfl,fG,qe,f3,b3,oc⟩;simp only[bz,bp,cF,Bool.false_eq_true,if_false,ar,ba];have sN:(view c fG).map (·.2.1)=[[eQ 0 2 6]]:=by rw[oc];rfl
  refine b4 (w6 b3 (by rw[sN];exact aF _ (by decide)) (s:=s) (L:=[eQ 0 2 6]) (f:=f3) (by rw[oc];simp) (addr:=5) (by decide) 2 EI.1 (b:=120) (by decide)) ?_;rintro cj g5 ⟨gf,k_,PF,oj,c5,CC,dQ,zR,Cq,rfl,jZ,_⟩;rw[oc]at jZ;have jZ:view c k_=[(s,[eQ 0 2 6],iu 0 c5 f3)]:=by rw[jZ];simp[m9]
  have TF:(view c k_).map (·.2.1)=[[eQ 0 2 6]]:=by rw[jZ];rfl
  refine b4 (aet dQ m.loose (s:=s) (L:=[eQ 0 2 6]) (f:=iu 0 c5 f3) (by rw[jZ];simp) (by rw[TF];exact aF _ (by decide)) (by rw[TF];exact aF _ (by decide))) ?_;rintro cC g6 ⟨gS,aY,vu,Bo,rfl,kj,CD,eL,wj⟩;rw[jZ]at wj;have c':s≠aY:=by
   have:s<g5.next:=by
    have h1:(s,[eQ 0 2 6],iu 0 c5 f3)∈view c k_:=by rw[jZ];simp
    obtain⟨y,aq,e,_⟩:=yT h1;have:=dQ.sys.core.lt y.s (by have:=(dQ.sys.au y aq).role;omega);rw[e]at this;exact this
   omega
  have KC:(view c vu).map (·.2.1)=[[eQ 0 2 6],[eQ 0 2 6]]:=by rw[wj];rfl
  simp only[dA,List.getElem?_cons_zero,List.getElem?_cons_succ,ar];refine b4 (w6 eL (by rw[KC];exact aF _ (by decide)) (s:=aY) (L:=[eQ 0 2 6]) (f:=iu 0 c5 f3) (by rw[wj];simp) (addr:=5) (by decide) 2 EI.1 (b:=121) (by decide)) ?_;rintro v20 g7 ⟨jn,q',vt,dR,dr,F6,j0,mj,rM,rfl,mW,_⟩;have aG:dR=c5:=by have:iu 0 c5 f3 (5/64)=some c5:=rfl;rw[this]at mj;exact(Option.some.inj mj).symm
  subst aG;rw[wj]at mW;have mW:view c q'=[(s,[eQ 0 2 6],iu 0 dR f3),(aY,[eQ 0 2 6],iu 0 dr (iu 0 dR f3))]:=by rw[mW];simp[m9,c']
  have aeY:(view c q').map (·.2.1)=[[eQ 0 2 6],[eQ 0 2 6]]:=by rw[mW];rfl
  refine b4 (w6 j0 (by rw[aeY];exact aF _ (by decide)) (s:=s) (L:=[eQ 0 2 6]) (f:=iu 0 dR f3) (by rw[mW];simp) (addr:=5) (by decide) 1 EI.2 (b:=0) (by decide)) ?_;rintro v21 g8 ⟨hL,PG,asj,g',eA,atA,pK,we,CA,rfl,CN,_⟩;have aT:g'=dR:=by have:iu 0 dR f3 (5/64)=some dR:=rfl;rw[this]at we;exact(Option.some.inj we).symm
  subst aT;rw[if_neg (by decide)]at CA;subst CA;rw[mW]at CN;have CN:view c PG=[(s,[eQ 0 2 6],iu 0 eA (iu 0 eA f3)),(aY,[eQ 0 2 6],iu 0 dr (iu 0 eA f3))]:=by rw[CN];simp[m9,c'.symm]
  have aeZ:(view c PG).map (·.2.1)=[[eQ 0 2 6],[eQ 0 2 6]]:=by rw[CN];rfl
  simp only[dA,List.getElem?_cons_zero,List.getElem?_cons_succ,ar];refine b4 (w6 pK (by rw[aeZ];exact aF _ (by decide)) (s:=aY) (L:=[eQ 0 2 6]) (f:=iu 0 dr (iu 0 eA f3)) (by rw[CN];simp) (addr:=5) (by decide) 1 EI.2 (b:=0) (by decide)) ?_;rintro v24 g9 ⟨iz,Iy,asl,gO,gr,atB,pL,nw,ux,rfl,atF,_⟩;have bJ:gO=dr:=by have:iu 0 dr (iu 0 eA f3) (5/64)=some dr:=rfl;rw[this]at nw;exact(Option.some.inj nw).symm
  subst bJ;rw[if_neg (by decide)]at ux;subst ux;have fS:cB eA (5%64) 1=120:=by rw[Cq,if_pos rfl];exact ti (by decide)
  have ft:cB gr (5%64) 1=121:=by rw[rM,if_pos rfl];exact ti (by decide)
  rw[fS,ft];simp only[dA,List.getElem?_cons_zero,List.getElem?_cons_succ,ar,dn,cP,if_true,c4,bz,bp,cF,decide_true];have f1:(((120:Nat) :Int)=120):=rfl;have f2:(((121:Nat) :Int)=121):=rfl;simp only[decide_eq_true f1,decide_eq_true f2,cP,if_true,c4,bz,bp,cF,ar];refine fO (P:=λy vs g=>vs=[.bool true]) (b4 (AO pL) λv g ai=>aV.pure (by rw[ai.1])) ?_;rintro y _ g10 rfl;simp only[bz,bp,cF,if_true,ar];exact aV.pure rfl
 obtain⟨v,g,e,rfl⟩:=key;exact⟨g,e⟩
section
variable{PV:cn} [cN PV]
def o3(σ:b8) :Nat:=gk σ+(4-min 4 σ.free)
end
theorem aem(fs:List Fact) :(env fs).fn 28=some Tryz.f28:=by kernel_rfl
theorem aeh:Tryz.f28.body=some (Tryz.f28.body.getD .skip):=by kernel_rfl
def hA:cn:=wG ((28,DR)::Nq)
instance atN:cN hA:=⟨λf h=>by
 show(bif Nat.beq f 28 then some DR else wG Nq f)=_;have:Nat.beq f 28=false:=by
  unfold okF at h;cases aj:Nat.beq f 28 with
  |false=>rfl
  |true=>rw[aj]at h;cases h
 rw[this];rfl⟩
theorem Ho{fs:List Fact}{σ:Nat->Int}(ok:dL Tryz.prog (env fs) σ) :vB Tryz.prog (env fs) σ hA:=by obtain⟨g,e⟩:=abq;obtain⟨N,e6⟩:=pe.1 e;exact Df (aqu aem aeh (N:=N) (by rw[show(fns (env []) qh N).call (.func 28 [] []) [] dB=some (.bool true,g)from e6];rfl) ok) (WX ok)
theorem H4:call J hA (.func 28 [] []) [] dB=some (.bool true,dB):=WW (q:=DR) (by kernel_rfl) (by kernel_rfl)
theorem AG(r:aU)(p:Int) :cv [r] p=if r.has p then some r else none:=by unfold cv;rw[List.find?_cons];cases r.has p<;>rfl
section
variable{h g:ae}{X:ew}{c:df}{ρ bD:Nat->Nat}{σ aR:b8}{PV:cn} [cN PV]
theorem B1(k:Good h X c ρ σ (λ_=>0) (λ_=>0))(e1:∀s p,¬c.loose s p)(h0:σ.au=[]){s t f:Nat}{g2:ae}{ev:Nat->Nat}
  (b_:Good g2 X c ev {σ with mem:=az σ.mem f 0,held:=az σ.held f 1,free:=σ.free-1,au:=σ.au++[⟨s,t,ez f,[]⟩]} (λ_=>0) (λ_=>0)) {r:aU} (hm:r.may=true) (av:r.kind≠1) :
  bh (call J PV (.func 31 [] []) [.ptr s 0,.agg r.vs] g2) λv g=>v=.int .i64 0/\bX ev g2 g/\∃fG qe,Good g X c qe fG (λ_=>0) (λ_=>0)/\fG.free=σ.free-1/\fG.ring=σ.ring/\fG.used=σ.used/\view c fG=[(s,[r],λp:Nat=>if r.has p then some 0 else none)]:=by
 have ep:({σ with mem:=az σ.mem f 0,held:=az σ.held f 1,free:=σ.free-1,au:=σ.au++[⟨s,t,ez f,[]⟩]} :b8).au=[]++(⟨s,t,ez f,[]⟩ :bH)::[]:=by rw[h0]
 refine bh.mono (GS b_ e1 ep r) ?_;rintro v g ⟨w,⟨hk,_⟩ |⟨_,⟨y,aq,_⟩,_⟩ |⟨_,_,rfl,oB,_,c7⟩⟩
 ·rw[hm]at hk;cases hk
 ·cases aq
 ·refine⟨rfl,w,_,oB,c7,rfl,rfl,rfl,?_⟩;have ai:∀aR:b8,aR.au=[]++({(⟨s,t,ez f,[]⟩ :bH)with L:=(iK r []).foldl e9 []} :bH)::[]->view c aR=[(s,[r],λp:Nat=>if r.has p then some 0 else none)]:=λaR h=>by
   unfold view;rw[h];have aG:(iK r []).foldl e9 []=[r]:=LU r (nE hm).2.1;rw[aG];have aT:cont c aR ⟨s,t,ez f,[r]⟩=λp:Nat=>if r.has p then some 0 else none:=funext λp=>by
    rw[zm (show(ez f).ent p=.zero from rfl)];unfold zg;show(cv [r] p).map _=_;rw[AG];by_cases aD:r.has p=true
    ·rw[if_pos aD,if_pos aD];show some (base c r p)=_;unfold base;rw[if_neg av]
    ·rw[if_neg aD,if_neg aD];rfl
   show[(s,[r],cont c aR ⟨s,t,ez f,[r]⟩)]=_;rw[aT]
  exact ai _ rfl
end
end Go.Proofs.YtkdjcmpgnkecfaaGreatDoor
end
