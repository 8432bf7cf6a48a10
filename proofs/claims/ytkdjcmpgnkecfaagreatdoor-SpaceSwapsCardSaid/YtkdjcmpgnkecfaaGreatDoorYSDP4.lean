/-
  Texts R11 M9, joined; own names made short.
-/
import Derived.Test.YtkdjcmpgnkecfaaGreatDoorYSDP3
set_option linter.unusedVariables false
set_option linter.unusedSimpArgs false
set_option linter.unusedSectionVars false
set_option exponentiation.threshold 600
noncomputable section
namespace Go.Proofs.YtkdjcmpgnkecfaaGreatDoor
open Go.a8
section
set_option maxRecDepth 100000
variable{PV:cn} [cN PV]
def Rf(a0 ao:aa)(C:bW)(h:ae) :Option a1:=a7 (C (.func 28 [] []) [] h) λv1 h1=>U (ax J h1 .and 3 a0 (.int .i64 15)) λv2=>U (ax J h1 .add 3 (.int .i64 16) v2) λv3=>a7 (C (.func 29 [] []) [v3,(.int .i64 64)] h1) λv4 ab=>U (cm v4 0) λv5=>U (cm v4 1) λv6=>U (ax J ab .eql 42 v5 .nilPtr) λbl=>bq bl (some (.ret,[(.bool false)],ab)) (a7 (C (.func 30 [] []) [v5] ab) λbA al=>U (cm bA 0) λv9=>U (cm bA 1) λv10=>U (ax J al .neq 29 v10 (.int .i64 0)) λv11=>bG (b7 v11 false (a7 (C (.func 35 [] []) [(.int .i64 0),(.int .i64 40),(.int .i64 6)] al) λv12 aE=>a7 (C (.func 31 [] []) [v9,v12] aE) λcd aL=>U (ax J aL .neq 29 cd (.int .i64 0)) λb9=>some (.normal,[b9],aL)) (some (.normal,[.undef],al))) λ_ aK bm=>a_ aK λch oA=>br oA (U (bZ v11 (.bool true) ch) λcj=>bq cj (some (.ret,[(.bool false)],bm)) (bG (eM 14 (λaK cr=>a_ aK λcC p'=>a_ p' λcx qa=>br qa (U (ax J cr .lss 3 cx (.int .i64 40)) λcL=>bq cL (U (ax J cr .mul 3 (.int .i64 64) cx) λv20=>U (ax J cr .add 3 v20 cx) λv21=>U (ax J cr .add 3 ao cx) λv22=>U (gB J cr 3 5 v22) λv23=>a7 (C (.func 33 [] []) [v9,v21,(.int .i64 2),v23] cr) λv24 c6=>U (cm v24 0) λv25=>U (cm v24 1) λv26=>U (ax J c6 .neq 29 v26 (.int .i64 0)) λv27=>bq v27 (some (.ret,[(.bool false),cx],c6)) (U (ax J c6 .add 3 cx (.int .i64 1)) λv28=>some (.normal,[cC,v28],c6))) (some ((.exit 0),[cC,cx],cr)))) [(.bool false),(.int .i64 0)] bm) λEs aK cz=>a_ aK λv29 sl=>a_ sl λv30 vm=>br vm (gD 0 Es (a7 (C (.func 40 [] []) [v5] cz) λv31 dF=>U (ax J dF .and 3 a0 (.int .i64 15)) λv32=>U (ax J dF .sub 3 (.int .i64 24) v32) λv33=>U (ax J dF .lss 3 v31 v33) λeP=>bG (b7 eP false (a7 (C (.func 34 [] []) [v5] dF) λv35 dZ=>U (gQ .not v35) λv36=>some (.normal,[v36],dZ)) (some (.normal,[.undef],dF))) λ_ aK dv=>a_ aK λv37 q_=>br q_ (U (bZ eP (.bool true) v37) λfE=>bq fE (some (.ret,[(.bool false)],dv)) (bG (eM 14 (λaK e5=>a_ aK λfy Ej=>a_ Ej λv40 Ek=>br Ek (U (ax J e5 .geq 3 v40 (.int .i64 0)) λv41=>bq v41 (U (ax J e5 .mul 3 (.int .i64 64) v40) λgv=>U (ax J e5 .add 3 gv v40) λfF=>a7 (C (.func 33 [] []) [v9,fF,(.int .i64 1),(.int .u8 0)] e5) λv44 hd=>U (cm v44 0) λgI=>U (cm v44 1) λv46=>U (ax J hd .mul 3 (.int .i64 64) v40) λgR=>U (ax J hd .add 3 gR (.int .i64 63)) λhb=>a7 (C (.func 33 [] []) [v9,hb,(.int .i64 1),(.int .u8 0)] hd) λv49 hC=>U (cm v49 0) λix=>U (cm v49 1) λv51=>U (ax J hC .neq 29 v46 (.int .i64 0)) λiy=>bG (b7 iy false (U (ax J hC .neq 29 v51 (.int .i64 0)) λv53=>some (.normal,[v53],hC)) (some (.normal,[.undef],hC))) λ_ aK hv=>a_ aK λic Pd=>br Pd (U (bZ iy (.bool true) ic) λig=>bG (b7 ig false (U (ax J hv .add 3 ao v40) λjD=>U (gB J hv 3 5 jD) λv57=>U (ax J hv .neq 5 gI v57) λj8=>some (.normal,[j8],hv)) (some (.normal,[.undef],hv))) λ_ aK hx=>a_ aK λv59 Pg=>br Pg (U (bZ ig (.bool true) v59) λjQ=>bG (b7 jQ false (U (ax J hx .neq 5 ix (.int .u8 0)) λjm=>some (.normal,[jm],hx)) (some (.normal,[.undef],hx))) λ_ aK kt=>a_ aK λjR Pj=>br Pj (U (bZ jQ (.bool true) jR) λv63=>bq v63 (some (.ret,[(.bool false),v40],kt)) (U (ax J kt .sub 3 v40 (.int .i64 1)) λv64=>some (.normal,[fy,v64],kt)))))) (some ((.exit 2),[fy,v40],e5)))) [v29,(.int .i64 39)] dv) λvq aK eX=>a_ aK λko Pl=>a_ Pl λl4 arE=>br arE (gD 2 vq (bG (b7 v1 true (a7 (C (.func 34 [] []) [v5] eX) λmB kV=>some (.normal,[mB],kV)) (some (.normal,[.undef],eX))) λ_ aK lp=>a_ aK λl5 arF=>br arF (U (bZ v1 l5 (.bool false)) λm7=>bG (b7 m7 true (a7 (C (.func 41 [] []) [v9] lp) λv70 nq=>U (ax J nq .eql 29 v70 (.int .i64 0)) λnM=>some (.normal,[nM],nq)) (some (.normal,[.undef],lp))) λ_ aK nY=>a_ aK λv72 arH=>br arH (U (bZ m7 v72 (.bool false)) λm8=>bG (b7 m8 true (a7 (C (.func 40 [] []) [v5] nY) λp8 qq=>U (ax J qq .eql 3 p8 (.int .i64 0)) λv75=>some (.normal,[v75],qq)) (some (.normal,[.undef],nY))) λ_ aK pq=>a_ aK λv76 Pn=>br Pn (U (bZ m8 v76 (.bool false)) λq8=>some (.ret,[q8],pq))))) (some (.ret,[ko],eX)) λi=>none)))) (some (.ret,[v29],cz)) λi=>none))))
theorem akm{a0 ao:aa} :LT PV 7 [a0,ao] (Rf a0 ao):=
 cc (f:=Tryz.f7) (.seq (.ah []) (.seq (.ah []) (.seq (.ah []) (.seq (.seq (.ah []) (.cond (.seq (.ah []) .leaf) .leaf)) (.seq (.ah []) (.seq (.seq (.ah [[39]]) (.cond (.seq (.ah []) .leaf) .leaf)) (.seq (.seq (.ah []) (.loop [4,10] [] (.seq (.seq (.ah []) (.cond .leaf .leaf)) (.seq (.dW (.seq (.ah []) (.seq (.ah []) (.cond (.seq (.ah []) .leaf) .leaf)))) (.ah []))))) (.seq (.seq (.ah [[69]]) (.cond (.seq (.ah []) .leaf) .leaf)) (.seq (.seq (.ah []) (.loop [4,13] [] (.seq (.seq (.ah []) (.cond .leaf .leaf)) (.seq (.dW (.seq (.ah []) (.seq (.ah []) (.seq (.ah [[96],[104],[108]]) (.cond (.seq (.ah []) .leaf) .leaf))))) (.ah []))))) (.seq (.ah [[113],[118],[123]]) .leaf)))))))))) (by kernel_rfl) (b' rfl (by kernel_rfl)) λ_ _=>by kernel_rfl
end
def bt(a:Int)(p:Nat) :Nat:=(b0 .u8 (b0 .i64 (a+p))).toNat
theorem R7(a:Int)(p:Nat) :b0 .u8 (b0 .i64 (a+p))=(bt a p:Nat)/\bt a p<256:=by unfold bt;generalize b0 .i64 (a+p)=x;rw[m_];simp only[IntKind.wrap,IntKind.bits,IntKind.signed];simp;omega
theorem SC(h:ae)(n:Int) :gB J h 3 5 (.int .i64 n)=some (.int .u8 (b0 .u8 n)):=by kernel_rfl
def na(a:Int)(i:Nat) :Nat->Option Nat:=λq=>if q<40 then some (if q<i then e8 0 q 1 (bt a q)else 0)else none
theorem Rz{a:Int}{i q:Nat}(aF:q<40) :na a i q=some (if q<i then e8 0 q 1 (bt a q)else 0):=if_pos aF
theorem aa1{a:Int}{i:Nat}(af:i<40) :iu i (e8 0 i 1 (bt a i)) (na a i)=na a (i+1):=funext λq=>by
 unfold iu na;by_cases e:q=i
 ·subst e;rw[if_pos rfl,if_pos af,if_pos (by omega)]
 ·rw[if_neg e];by_cases h:q<40
  ·rw[if_pos h,if_pos h];by_cases ab:q<i
   ·rw[if_pos ab,if_pos (by omega)]
   ·rw[if_neg ab,if_neg (by omega)]
  ·rw[if_neg h,if_neg h]
theorem aa0{a:Int}{i q m:Nat}(h:na a i q=some m) :iu q m (na a i)=na a i:=funext λp=>by
 unfold iu;by_cases e:p=q
 ·subst e;rw[if_pos rfl,h]
 ·rw[if_neg e]
theorem apC(lK a:Int) :∃g,call J hA (.func 7 [] []) [.int .i64 lK,.int .i64 a] dB=some (.bool true,g):=by
 have key:bh (call J hA (.func 7 [] []) [.int .i64 lK,.int .i64 a] dB) λv g=>v=.bool true:=by
  refine bh.mk (λe=>akm (first:=[]) (cap:=[]) e rfl) ?_;unfold Rf;obtain⟨n,aw,J6⟩:=I' lK (m:=15) (by decide);have J6:jb .i64 lK 15=(n:Int):=J6;have adn:b0 .i64 (16+(n:Int))=((16+n:Nat) :Int):=by rw[wrap_i64 (by omega) (by omega)];omega
  obtain⟨g1,X,c,ρ,σ,b,cb,m,fX⟩:=Ms (alr aw);have rB:=m.n;have rC:=m.c1;have fU:¬((0:Int)≠0):=by decide
  have t':∀{h:ae} {K:aa->ae->Option a1},bG (b7 (.bool true) true (some (.normal,[.bool true],h)) (some (.normal,[.undef],h))) (λ_ aK bC=>a_ aK λv w=>br w (U (bZ (.bool true) v (.bool false)) λz=>K z bC))=K (.bool true) h:=rfl;rw[H4];simp-implicitDefEqProofs only[c3,xd,ar,J6,du,adn];rw[Hz m.cQ];simp-implicitDefEqProofs only[c3,dA,List.getElem?_cons_zero,List.getElem?_cons_succ,ar,p4,ba,Bool.false_eq_true,if_false];refine b4 (Dx m.nm (by rw[m.free];omega)) ?_;rintro _ g2 ⟨dT,s,t,f,ev,rfl,wi,oV,b_,pH⟩;simp-implicitDefEqProofs only[dA,List.getElem?_cons_zero,List.getElem?_cons_succ,ar,dP,decide_eq_false fU,cP,if_true]
  have an:∀p:Nat,(eQ 0 40 6).has p=decide (p<40):=λp=>by show decide ((0:Int)<=(p:Int)/\(p:Int) <40)=_;rw[Bool.eq_iff_iff,decide_eq_true_eq,decide_eq_true_eq];omega
  have lN:(eQ 0 40 6).may=true:=by decide
  have ju:lW c (eQ 0 40 6)=na a 0:=funext λp=>by
   unfold lW na;rw[an];by_cases h:p<40
   ·rw[if_pos (by rw[decide_eq_true h]),if_pos h,if_neg (by omega)];rfl
   ·rw[if_neg (by rw[decide_eq_false h];decide),if_neg h]
  have K1:∀p:Nat,p<40->cv [eQ 0 40 6] (p:Nat)=some (eQ 0 40 6):=λp aI=>by rw[AG,an,decide_eq_true aI];rfl
  have rz:∀(p:Nat) (u:Int),p<40->u=1\/u=2->mE [eQ 0 40 6] p u:=λp u aI hu=>⟨_,K1 p aI,by rcases hu with rfl|rfl<;>decide⟩
  have db:om [eQ 0 40 6]=8:=by decide
  have n':mu [eQ 0 40 6]=40:=by decide
  refine fO (P:=λy vs g=>vs=[.bool false]/\∃fG qe,Good g X c qe fG (λ_=>0) (λ_=>0)/\hN fG s [eQ 0 40 6] (λq=>q<0)/\view c fG=[(s,[eQ 0 40 6],na a 0)]) ?_ ?_
  ·refine b4 (PB g2 0 40 6) ?_;rintro _ g3 ⟨rfl,bR⟩;have qD:view c σ=[]:=by unfold view;rw[m.au];rfl
   rw[qD,List.nil_append]at pH;refine b4 (GU (a:=[]) (b:=[]) (f:=λ_=>none) (b_.ext bR) m.loose pH lN) ?_;rintro _ g4 ⟨rfl,fq,eU,oB,zW,c7,kz,_,F_,oZ,ahS⟩;simp-implicitDefEqProofs only[dP,decide_eq_false fU,ar];have kz:view c eU=[(s,[eQ 0 40 6],na a 0)]:=kz.trans (by show[(s,[eQ 0 40 6],lW c (eQ 0 40 6))]=_;rw[ju]);have ay:eU.au.length=1:=by have:=congrArg List.length kz;unfold view at this;simpa using this
   obtain⟨x,ag⟩:=List.length_eq_one_iff.1 ay;have zZ:=kz;unfold view at zZ;rw[ag]at zZ;simp only[List.map_cons,List.map_nil,List.cons.injEq,Prod.mk.injEq,and_true]at zZ
   have aP:∀y p,y∈eU.au->y.T.ent p=.zero:=λy p aq=>by
    obtain rfl:y=x:=by rw[ag]at aq;simpa using aq
    exact ahS y aq zZ.1 p
   refine aV.pure ⟨rfl,eU,oB,c7,⟨⟨x,ag,zZ.1,zZ.2.1,λq aF=>absurd aF (Nat.not_lt_zero q)⟩,λy p aq aD=>(by rw[aP y p aq]at aD;cases aD),(by rw[F_];show σ.ring.length=0;rw[m.ring];rfl),?_⟩,kz⟩
   have:qR eU=0:=by unfold qR;rw[ag,nG,uZ];show cq _ 4096+0=0;rw[kS.2 λp aI=> ?_];show r1 (x.T.ent p)=false;rw[aP x p (by rw[ag];simp)];rfl
   omega
  rintro _ _ g4 ⟨rfl,fG,qe,b3,apy,oc⟩;simp-implicitDefEqProofs only[bz,bp,cF,Bool.false_eq_true,if_false,ar,ba]
  refine hX (n:=14) (I:=λi vs g=>vs=[.bool false,.int .i64 (i:Nat)]/\∃σ ρ,Good g X c ρ σ (λ_=>0) (λ_=>0)/\hN σ s [eQ 0 40 6] (λq=>q<i)/\view c σ=[(s,[eQ 0 40 6],na a i)]) (m:=40)
   (P:=λy vs g=>y=.exit 0/\(∃z,vs=[.bool false,z])/\∃σ ρ,Good g X c ρ σ (λ_=>0) (λ_=>0)/\hN σ s [eQ 0 40 6] (λq=>q<40)/\view c σ=[(s,[eQ 0 40 6],na a 40)]) (by decide) ⟨rfl,fG,qe,b3,apy,oc⟩ ?_ ?_
  ·rintro i _ h1 af ⟨rfl,aX,dy,bk,p3,iH⟩;simp-implicitDefEqProofs only[bz,bp,dk,ar,ba];by_cases bo:i<40
   ·rw[if_pos (by simpa using(by omega:(i:Int) <40))];have aG:b0 .i64 (64*(i:Int))=((64*i:Nat) :Int):=by rw[wrap_i64 (by omega) (by omega)];omega
    have aT:b0 .i64 (((64*i:Nat) :Int) +(i:Int))=((64*i+i:Nat) :Int):=by rw[wrap_i64 (by omega) (by omega)];omega
    have bJ:b0 .i64 ((i:Int) +1)=((i+1:Nat) :Int):=by rw[wrap_i64 (by omega) (by omega)];omega
    obtain⟨oM,aj⟩:=R7 a i;have eA:(64*i+i) /64=i:=by omega
    have gr:(64*i+i) %64=i:=by omega
    have oZ:=aaB (PV:=hA) bk m.loose p3 (by rw[db,rB];omega) (by rw[n',rC];decide) (by rw[n'];decide) iH (addr:=64*i+i) (by omega) 2 (by rw[eA];exact rz i 2 bo (.inr rfl)) (r:=eQ 0 40 6) (by rw[eA];exact K1 i bo) (by decide) (by decide) aj;simp-implicitDefEqProofs only[nh,aG,du,aT,ar,SC,oM];refine b4 oZ ?_;rintro _ g3 ⟨eJ,eU,oB,oj,c5,zW,c7,AX,hm,rfl,rfl,kz⟩;rw[eA,Rz bo,if_neg (Nat.lt_irrefl i)]at hm;obtain rfl:=Option.some.inj hm;rw[eA,gr,if_pos rfl,aa1 bo]at kz;rw[eA]at AX;simp-implicitDefEqProofs only[dA,List.getElem?_cons_zero,List.getElem?_cons_succ,ar,dP,decide_eq_false fU,ba,Bool.false_eq_true,if_false,du,bJ];exact aV.pure (.inl ⟨rfl,bo,rfl,eU,oB,c7,AX.sub λq aF=>by omega,kz⟩)
   ·rw[if_neg (by simpa using(by omega:(40:Int)<=(i:Int)))];obtain rfl:i=40:=by omega
    exact aV.pure (.inr ⟨by simp,rfl,⟨_,rfl⟩,aX,dy,bk,p3,iH⟩)
  rintro _ _ g5 ⟨rfl,⟨z,rfl⟩,k_,PF,dQ,Yg,jZ⟩;have atf:=Yg.many dQ.inv (q:=40) (by decide) (λp aI=>aI);have JZ:b0 .i64 (24-(n:Int))=24-(n:Int):=wrap_i64 (by omega) (by omega);have b6:¬(k_.used:Int) <24-(n:Int):=by omega
  simp-implicitDefEqProofs only[bz,bp,hs,if_true,GZ dQ.sys,c3,fT,JZ,ar,dk,decide_eq_false b6,cP];refine fO (P:=λy vs g=>vs=[.bool false]/\bf g5 g) ?_ ?_
  ·refine b4 (AO dQ) ?_;rintro _ g6 ⟨rfl,cJ⟩;simp-implicitDefEqProofs only[fD,Bool.not_true,ar];exact aV.pure ⟨rfl,cJ⟩
  rintro _ _ g6 ⟨rfl,cJ⟩;have eL:=dQ.ext cJ;simp-implicitDefEqProofs only[bz,bp,cF,Bool.false_eq_true,if_false,ar,ba]
  refine hX (n:=14) (I:=λi vs g=>vs=[.bool false,.int .i64 (39-(i:Int))]/\∃σ ρ,Good g X c ρ σ (λ_=>0) (λ_=>0)/\hN σ s [eQ 0 40 6] (λq=>q<40)/\view c σ=[(s,[eQ 0 40 6],na a 40)]) (m:=40)
   (P:=λy vs g=>y=.exit 2/\(∃z,vs=[.bool false,z])/\∃σ ρ,Good g X c ρ σ (λ_=>0) (λ_=>0)/\hN σ s [eQ 0 40 6] (λq=>q<40)) (by decide) ⟨rfl,k_,PF,eL,Yg,jZ⟩ ?_ ?_
  ·rintro i _ h1 af ⟨rfl,aX,dy,bk,p3,iH⟩;simp-implicitDefEqProofs only[bz,bp,gA,ar,ba];by_cases bo:i<40
   ·rw[if_pos (by simpa using(by omega:(0:Int)<=39-(i:Int)))];obtain⟨k,av,zQ⟩ :∃k:Nat,(39-(i:Int))=(k:Int)/\k<40:=⟨39-i,by omega,by omega⟩;have ub:b0 .i64 ((k:Int) -1)=39-((i+1:Nat) :Int):=by rw[wrap_i64 (by omega) (by omega)];omega
    rw[av];have aG:b0 .i64 (64*(k:Int))=((64*k:Nat) :Int):=by rw[wrap_i64 (by omega) (by omega)];omega
    have aT:b0 .i64 (((64*k:Nat) :Int) +(k:Int))=((64*k+k:Nat) :Int):=by rw[wrap_i64 (by omega) (by omega)];omega
    have bJ:b0 .i64 (((64*k:Nat) :Int) +63)=((64*k+63:Nat) :Int):=by rw[wrap_i64 (by omega) (by omega)];omega
    obtain⟨oM,aj⟩:=R7 a k;have eA:(64*k+k) /64=k:=by omega
    have gr:(64*k+k) %64=k:=by omega
    have jO:(64*k+63) /64=k:=by omega
    have h9:(64*k+63) %64=63:=by omega
    have us:∀{g:ae} {dy:Nat->Nat} {aX:b8} (addr:Nat),addr/64=k->Good g X c dy aX (λ_=>0) (λ_=>0)->hN aX s [eQ 0 40 6] (λq=>q<40)->view c aX=[(s,[eQ 0 40 6],na a 40)]->
      bh (call J hA (.func 33 [] []) [.ptr s 0,.int .i64 addr,.int .i64 1,.int .u8 0] g) λv g=>v=.tuple [.int .u8 (cB (e8 0 k 1 (bt a k)) (addr%64) 1:Nat),.int .i64 0]/\∃σ ρ,Good g X c ρ σ (λ_=>0) (λ_=>0)/\hN σ s [eQ 0 40 6] (λq=>q<40)/\view c σ=[(s,[eQ 0 40 6],na a 40)]:=λ{g dy aX} addr aF bk p3 iH=>by
     refine bh.mono (aaB (PV:=hA) bk m.loose p3 (by rw[db,rB];omega) (by rw[n',rC];decide) (by rw[n'];decide) iH (addr:=addr) (by omega) 1 (by rw[aF];exact rz k 1 zQ (.inl rfl)) (r:=eQ 0 40 6) (by rw[aF];exact K1 k zQ) (by decide) (by decide) (b:=0) (by decide)) ?_;rintro _ g3 ⟨eJ,eU,oB,oj,c5,zW,c7,AX,hm,em,rfl,kz⟩;rw[if_neg (by decide)]at em;rw[aF]at hm kz;have hk:=hm;rw[Rz zQ,if_pos (by omega)]at hk;have fJ:=Option.some.inj hk;rw[em,aa0 hm]at kz;exact⟨by rw[em,<-fJ],eU,oB,c7,AX.sub λq aF=>.inl aF,kz⟩
    simp-implicitDefEqProofs only[nh,aG,du,aT,ar];refine b4 (us _ eA bk p3 iH) ?_;rintro _ g3 ⟨rfl,eU,oB,c7,AX,kz⟩;simp-implicitDefEqProofs only[dA,List.getElem?_cons_zero,List.getElem?_cons_succ,ar,bJ];refine b4 (us _ jO c7 AX kz) ?_;rintro _ g7 ⟨rfl,q',vt,j0,apz,mW⟩;rw[gr,h9,ti (by exact aj),G5 (by exact aj) (.inr (by omega))];have z0:cB 0 63 1=0:=by decide
    have Ix:¬(((bt a k:Nat) :Int)≠(bt a k:Nat)):=by simp
    have vr:¬(((0:Nat) :Int)≠0):=by decide
    have alB:∀{h:ae} {K:aa->ae->Option a1},bG (b7 (.bool false) false (some (.normal,[.bool false],h)) (some (.normal,[.undef],h))) (λ_ aK bC=>a_ aK λv w=>br w (U (bZ (.bool false) (.bool true) v) λz=>K z bC))=K (.bool false) h:=rfl;rw[z0];simp-implicitDefEqProofs only[dA,List.getElem?_cons_zero,List.getElem?_cons_succ,ar,dP,decide_eq_false fU,SC,oM,du,decide_eq_false Ix,decide_eq_false vr,alB,ba,Bool.false_eq_true,if_false,fT,ub];exact aV.pure (.inl ⟨rfl,bo,rfl,q',vt,j0,apz,mW⟩)
   ·rw[if_neg (by simpa using(by omega:¬(0:Int)<=39-(i:Int)))];exact aV.pure (.inr ⟨by simp,rfl,⟨_,rfl⟩,aX,dy,bk,p3⟩)
  rintro _ _ g8 ⟨rfl,⟨z,rfl⟩,PG,asj,pK,apA⟩;simp-implicitDefEqProofs only[bz,bp,hs,if_true,cP];refine fO (P:=λy vs g=>vs=[.bool true]/\bf g8 g) ?_ ?_
  ·refine b4 (AO pK) ?_;rintro _ g9 ⟨rfl,gy⟩;exact aV.pure ⟨rfl,gy⟩
  rintro _ _ g9 ⟨rfl,gy⟩;simp-implicitDefEqProofs only[bz,bp,cF,if_true,ar,cP];obtain⟨x,ag,rfl,rR,_⟩:=apA.one;refine fO (P:=λy vs g=>vs=[.bool true]/\∃σ ρ,Good g X c ρ σ (λ_=>0) (λ_=>0)/\σ.used=0) ?_ ?_
  ·refine b4 (St (a:=[]) (b:=[]) (pK.ext gy) ag) ?_;rintro _ g10 ⟨rfl,fN,_,Iy,pL,ag4,_⟩;simp-implicitDefEqProofs only[dn,decide_true,ar];refine aV.pure ⟨rfl,Iy,_,pL,?_⟩;rw[pL.inv.used];refine kS.2 λi af=> ?_
   have:=pL.inv.slot i af;unfold lY at this;rw[ag4]at this
   have h0:Iy.bY i=0:=by have ab:da ([]++[]) (dg i)=0:=rfl;rw[ab]at this;omega
   rw[h0];rfl
  rintro _ _ g10 ⟨rfl,Iy,asl,pL,h0⟩;have bg:=GZ (PV:=hA) pL.sys;rw[h0]at bg;have aP:decide (((0:Nat) :Int)=0)=true:=rfl;simp-implicitDefEqProofs only[bz,bp,cF,if_true,ar,cP,bg,c3,dn,aP,c4];exact aV.pure rfl
 obtain⟨v,g,e,rfl⟩:=key;exact⟨g,e⟩
end Go.Proofs.YtkdjcmpgnkecfaaGreatDoor
end
