/-
  Texts R9 M5, joined; own names made short.
-/
import Derived.Test.YtkdjcmpgnkecfaaGreatDoorYSBP2
set_option linter.unusedVariables false
set_option linter.unusedSimpArgs false
set_option linter.unusedSectionVars false
set_option exponentiation.threshold 600
noncomputable section
namespace Go.Proofs.YtkdjcmpgnkecfaaGreatDoor
open Go.a8
section
set_option maxRecDepth 100000
variable{PV:cn} [cN PV]
def PI(a0 ao:aa)(C:bW)(h:ae) :Option a1:=a7 (C (.func 28 [] []) [] h) λv1 h1=>a7 (C (.func 49 [] []) [(.int .i64 20)] h1) λv2 ab=>a7 (C (.func 23 [] []) [v2] ab) λv3 al=>a7 (C (.func 50 [] []) [v3] al) λv4 aE=>U (cm v4 0) λv5=>U (cm v4 1) λv6=>U (ax J aE .neq 29 v6 (.int .i64 0)) λbl=>bq bl (some (.ret,[(.bool false)],aE)) (a7 (C (.func 51 [] []) [v3,v5,a0,ao] aE) λbA aL=>U (cm bA 0) λv9=>U (cm bA 1) λv10=>U (ax J aL .geq 3 a0 (.int .i64 16)) λv11=>bG (b7 v11 true (U (ax J aL .leq 3 a0 (.int .i64 4096)) λv12=>some (.normal,[v12],aL)) (some (.normal,[.undef],aL))) λ_ aK bm=>a_ aK λcd p_=>br p_ (U (bZ v11 cd (.bool false)) λb9=>bG (b7 b9 true (U (ax J bm .geq 3 ao (.int .i64 0)) λch=>some (.normal,[ch],bm)) (some (.normal,[.undef],bm))) λ_ aK cr=>a_ aK λcj vl=>br vl (U (bZ b9 cj (.bool false)) λcC=>bG (b7 cC true (U (ax J cr .leq 3 ao (.int .i64 20)) λcx=>some (.normal,[cx],cr)) (some (.normal,[.undef],cr))) λ_ aK cz=>a_ aK λcL qb=>br qb (U (bZ cC cL (.bool false)) λv20=>a7 (C (.func 51 [] []) [.nilPtr,v5,(.int .i64 100),(.int .i64 0)] cz) λv21 c6=>U (cm v21 0) λv22=>U (cm v21 1) λv23=>a7 (C (.func 51 [] []) [v3,.nilPtr,(.int .i64 100),(.int .i64 0)] c6) λv24 dF=>U (cm v24 0) λv25=>U (cm v24 1) λv26=>U (gQ .not v20) λv27=>bq v27 (bG (b7 v1 true (U (ax J dF .eql 42 v9 .nilPtr) λv28=>some (.normal,[v28],dF)) (some (.normal,[.undef],dF))) λ_ aK dZ=>a_ aK λv29 sl=>br sl (U (bZ v1 v29 (.bool false)) λv30=>bG (b7 v30 true (U (ax J dZ .eql 29 v10 (.int .i64 1)) λv31=>some (.normal,[v31],dZ)) (some (.normal,[.undef],dZ))) λ_ aK dv=>a_ aK λv32 O_=>br O_ (U (bZ v30 v32 (.bool false)) λv33=>bG (b7 v33 true (U (ax J dv .eql 29 v23 (.int .i64 1)) λeP=>some (.normal,[eP],dv)) (some (.normal,[.undef],dv))) λ_ aK e5=>a_ aK λv35 tH=>br tH (U (bZ v33 v35 (.bool false)) λv36=>bG (b7 v36 true (U (ax J e5 .eql 29 v26 (.int .i64 1)) λv37=>some (.normal,[v37],e5)) (some (.normal,[.undef],e5))) λ_ aK eX=>a_ aK λfE Ei=>br Ei (U (bZ v36 fE (.bool false)) λfy=>some (.ret,[fy],eX)))))) (bG (b7 v1 true (U (ax J dF .eql 29 v10 (.int .i64 0)) λv40=>some (.normal,[v40],dF)) (some (.normal,[.undef],dF))) λ_ aK hd=>a_ aK λv41 O'=>br O' (U (bZ v1 v41 (.bool false)) λgv=>bG (b7 gv true (a7 (C (.func 36 [] []) [v9] hd) λfF hC=>U (ax J hC .eql 3 fF a0) λv44=>some (.normal,[v44],hC)) (some (.normal,[.undef],hd))) λ_ aK hv=>a_ aK λgI Em=>br Em (U (bZ gv gI (.bool false)) λv46=>bG (b7 v46 true (a7 (C (.func 40 [] []) [v9] hv) λgR hx=>a7 (C (.func 42 [] []) [v9] hx) λhb kt=>U (ax J kt .add 3 gR hb) λv49=>a7 (C (.func 52 [] []) [v9] kt) λix kV=>U (ax J kV .add 3 v49 ix) λv51=>U (ax J kV .eql 3 v51 (.int .i64 0)) λiy=>some (.normal,[iy],kV)) (some (.normal,[.undef],hv))) λ_ aK lp=>a_ aK λv53 arA=>br arA (U (bZ v46 v53 (.bool false)) λic=>bG (b7 ic true (a7 (C (.func 34 [] []) [v9] lp) λig nq=>some (.normal,[ig],nq)) (some (.normal,[.undef],lp))) λ_ aK nY=>a_ aK λjD Pf=>br Pf (U (bZ ic jD (.bool false)) λv57=>bG (b7 v57 true (a7 (C (.func 54 [] []) [(.str 0 0),(.int .i64 64)] nY) λj8 qq=>a7 (C (.func 53 [] []) [v3,(.int .i64 0),j8] qq) λv59 pq=>U (ax J pq .eql 29 v59 (.int .i64 13)) λjQ=>some (.normal,[jQ],pq)) (some (.normal,[.undef],nY))) λ_ aK uh=>a_ aK λjm Ep=>br Ep (U (bZ v57 jm (.bool false)) λjR=>bG (b7 jR true (U (ax J uh .eql 29 v23 (.int .i64 1)) λv63=>some (.normal,[v63],uh)) (some (.normal,[.undef],uh))) λ_ aK ui=>a_ aK λv64 Pk=>br Pk (U (bZ jR v64 (.bool false)) λko=>bG (b7 ko true (U (ax J ui .eql 29 v26 (.int .i64 1)) λl4=>some (.normal,[l4],ui)) (some (.normal,[.undef],ui))) λ_ aK FE=>a_ aK λmB Pm=>br Pm (U (bZ ko mB (.bool false)) λl5=>some (.ret,[l5],FE)))))))))))))
theorem aiP{a0 ao:aa} :LT PV 10 [a0,ao] (PI a0 ao):=
 cc (f:=Tryz.f10) (.seq (.ah []) (.seq (.ah []) (.seq (.ah []) (.seq (.ah []) (.seq (.ah []) (.seq (.seq (.ah []) (.cond (.seq (.ah []) .leaf) .leaf)) (.seq (.ah []) (.seq (.ah [[40],[44],[48]]) (.seq (.ah []) (.seq (.ah []) (.seq (.seq (.ah []) (.cond (.seq (.ah [[65],[69],[73],[77]]) .leaf) .leaf)) (.seq (.ah [[82],[88],[99],[103],[109],[113],[117]]) .leaf)))))))))))) (by kernel_rfl) (b' rfl (by kernel_rfl)) λ_ _=>by kernel_rfl
def Bt(a0 ao:aa)(C:bW)(h:ae) :Option a1:=U (ax J h .lss 3 ao (.int .i64 0)) λv1=>bq v1 (some (.ret,[(.str 0 0)],h)) (U (dw J h 9 a0) λv2=>U (ax J h .geq 3 v2 ao) λv3=>bq v3 (U (iv J h 9 a0 none (some ao) none) λv4=>some (.ret,[v4],h)) (U (dw J h 9 a0) λv5=>U (ax J h .sub 3 ao v5) λv6=>ca (mn J 135 v6 v6) h λbl h1=>U (gB J h1 135 9 bl) λbA=>U (ax J h1 .add 9 a0 bA) λv9=>some (.ret,[v9],h1)))
theorem Me{a0 ao:aa} :LT PV 54 [a0,ao] (Bt a0 ao):=
 cc (f:=Tryz.f54) (.seq (.ah []) (.seq (.seq (.ah []) (.cond (.seq (.ah []) .leaf) .leaf)) (.seq (.seq (.ah []) (.cond (.seq (.ah []) .leaf) .leaf)) (.seq (.ah []) .leaf)))) (by kernel_rfl) (b' rfl (by kernel_rfl)) λ_ _=>by kernel_rfl
end
def Tx(r:Option (aa×ae)) :Option (Nat×ae):=r.bind λq=>(mO q.1).bind λd=>some (d,q.2)
theorem aeO{r:Option (aa×ae)}{d:Nat}{g:ae}(e:Tx r=some (d,g)) :r=some (.ptr d 0,g):=by obtain⟨⟨v,cw⟩,h1,e⟩:=Option.bind_eq_some_iff.1 e;obtain⟨fc,ab,e⟩:=Option.bind_eq_some_iff.1 e;simp only[Option.some.injEq,Prod.mk.injEq]at e;obtain⟨rfl,rfl⟩:=e;have ab:mO v=some fc:=ab;rw[h1,pk ab]
def Tw(r:Option (aa×ae)) :Option (Nat×ae):=r.bind λq=>match q.1 with
 | .tuple [a,b]=>if s_ b 0=true then(mO a).bind λd=>some (d,q.2)else none
 |_=>none
theorem aeN{r:Option (aa×ae)}{d:Nat}{g:ae}(e:Tw r=some (d,g)) :r=some (.tuple [.ptr d 0,.int .i64 0],g):=by
 obtain⟨⟨v,cw⟩,h1,e⟩:=Option.bind_eq_some_iff.1 e;dsimp only at e;split at e
 ·split at e
  ·rename_i aj;obtain⟨fc,ab,e⟩:=Option.bind_eq_some_iff.1 e;simp only[Option.some.injEq,Prod.mk.injEq]at e;obtain⟨rfl,rfl⟩:=e;rw[h1,pk ab,wm aj]
  ·cases e
 ·cases e
def run(f:FuncId)(args:List aa)(h:ae) :Option (aa×ae):=(fns (env []) hA 300).call (.func f [] []) args h
theorem NI{f:FuncId}{args:List aa}{h:ae}{r:aa×ae}(e:run f args h=some r) :call J hA (.func f [] []) args h=some r:=pe.2 ⟨300,e⟩
def VB:Option (aa×ae×Nat×ae×Nat×ae×y4×kI):=
 (run 49 [.int .i64 20] dB).bind λq=>(Tx (run 23 [q.1] q.2)).bind λd=>(Tw (run 50 [.ptr d.1 0] d.2)).bind λf=>
   (BK f.2 d.1).bind λdl=>(B0 f.2 dl.D f.2.next f.1).bind λF=>if Pr f.2=true/\0<f.2.next/\dl.dh=0/\dl.D.n=30/\F.used=10/\0<dl.D.d/\0<dl.D.b then some (q.1,q.2,d.1,d.2,f.1,f.2,dl,F)else none
theorem akM:VB.isSome=true:=by kernel_rfl
theorem ane:∃v2 g1 d g2 f g3 dl F,call J hA (.func 49 [] []) [.int .i64 20] dB=some (v2,g1)/\call J hA (.func 23 [] []) [v2] g1=some (.ptr d 0,g2)/\
  call J hA (.func 50 [] []) [.ptr d 0] g2=some (.tuple [.ptr f 0,.int .i64 0],g3)/\BK g3 d=some dl/\B0 g3 dl.D g3.next f=some F/\lE g3/\dl.dh=0/\dl.D.n=30/\F.used=10/\0<dl.D.d/\0<dl.D.b:=by
 obtain⟨r,e⟩:=Option.isSome_iff_exists.1 akM;unfold VB at e;obtain⟨⟨v2,g1⟩,ab,e⟩:=Option.bind_eq_some_iff.1 e;obtain⟨⟨d,g2⟩,al,e⟩:=Option.bind_eq_some_iff.1 e;obtain⟨⟨f,g3⟩,aE,e⟩:=Option.bind_eq_some_iff.1 e;obtain⟨dl,aL,e⟩:=Option.bind_eq_some_iff.1 e;obtain⟨F,bm,e⟩:=Option.bind_eq_some_iff.1 e;dsimp only at e al aE aL bm;split at e
 ·rename_i aH;obtain⟨bo,cp,ed⟩:=aH;exact⟨v2,g1,d,g2,f,g3,dl,F,NI ab,NI (aeO al),NI (aeN aE),aL,bm,Ps bo cp,ed⟩
 ·cases e
section
variable{PV:cn} [cN PV]
theorem ad7(h:ae) :bh (call J PV (.func 54 [] []) [.str 0 0,.int .i64 64] h) λv g=>v=.str 64 0/\bf h g:=by
 refine bh.mk (λe=>Me (first:=[]) (cap:=[]) e rfl) ?_;unfold Bt;have J0:b0 .i64 (64-((0:Nat) :Int))=((64:Nat) :Int):=by decide
 simp only[dk,ar,ba];rw[if_neg (by decide)];simp only[GN,gA,ar,ba];rw[if_neg (by decide)];simp only[fT,J0,ar];refine Bl (G0 64 (by decide)) λg1 aG=> ?_
 have aN:g1.get h.next=.bytes 64 false 0:=by rw[aG,ks]
 rw[zn g1 aN (by decide) (by decide)];have fU:cB 0 0 64=0:=by decide
 rw[fU];refine vp (a:=.str 64 0) (by kernel_rfl) ?_;exact aV.pure ⟨rfl,by rw[aG];exact aM.new _ _ _⟩
theorem VT(h:ae)(f:aa) :call J PV (.func 51 [] []) [.nilPtr,f,.int .i64 100,.int .i64 0] h=some (.tuple [.nilPtr,.int .i64 1],h):=by refine Md (x:=.ret) (vs:=[.nilPtr,.int .i64 1]) (first:=[]) (cap:=[]) ?_ rfl;simp only[EC,aqo,ar,cP,Bool.true_eq_false,if_false,c4,bz,bp,cF,if_true,ba]
theorem VU(h:ae)(d:Nat) :call J PV (.func 51 [] []) [.ptr d 0,.nilPtr,.int .i64 100,.int .i64 0] h=some (.tuple [.nilPtr,.int .i64 1],h):=by refine Md (x:=.ret) (vs:=[.nilPtr,.int .i64 1]) (first:=[]) (cap:=[]) ?_ rfl;simp only[EC,DQ,aqt,ar,cP,Bool.true_eq_false,Bool.false_eq_true,if_false,c4,bz,bp,cF,if_true,ba]
end
theorem ak2(lK c1:Int) :∃g,call J hA (.func 10 [] []) [.int .i64 lK,.int .i64 c1] dB=some (.bool true,g):=by
 have key:bh (call J hA (.func 10 [] []) [.int .i64 lK,.int .i64 c1] dB) λv g=>v=.bool true:=by
  refine bh.mk (λe=>aiP (first:=[]) (cap:=[]) e rfl) ?_;unfold PI;obtain⟨v2,g1,d,g2,f,g3,dl,F,aG,aT,bJ,e0,fJ,hw,bo,cp,ed,gh,lh⟩:=ane;obtain⟨qI,J2⟩:=SJ e0;obtain⟨gJ,qo⟩:=Tc fJ;rw[bo]at qI;simp only[H4,c3,aG,aT,bJ,dA,List.getElem?_cons_zero,List.getElem?_cons_succ,ar,dP,ne_eq,not_true_eq_false,decide_false,ba,Bool.false_eq_true,if_false];have F5:=alL (PV:=hA) qI gJ.is (by rw[ed];decide) (n:=lK) (m:=c1);rw[J2,qo,cp,ed]at F5;refine b4 F5 ?_
  have aj:∀(p q:Prop) [Decidable p] [Decidable q] (h:ae) (K:aa->ae->Option a1),bG (b7 (.bool (decide p)) true (some (.normal,[.bool (decide q)],h)) (some (.normal,[.undef],h))) (λ_ aK bC=>a_ aK λv w=>br w (U (bZ (.bool (decide p)) v (.bool false)) λz=>K z bC))=K (.bool (decide (p/\q))) h:=λp q _ _ h K=>by by_cases aI:p<;>simp[aI]
  have t':∀{h:ae} {K:aa->ae->Option a1},bG (b7 (.bool true) true (some (.normal,[.bool true],h)) (some (.normal,[.undef],h))) (λ_ aK bC=>a_ aK λv w=>br w (U (bZ (.bool true) v (.bool false)) λz=>K z bC))=K (.bool true) h:=rfl;rintro v g (⟨e7,rfl,u⟩ |⟨aq,A,R,k,mp,M,rfl,N⟩)
  ·have fU:¬(((16<=lK/\lK<=4096)/\0<=c1)/\c1<=20):=λh=>e7 ⟨h.1.1,h.1.2,by omega,by omega⟩
   simp-implicitDefEqProofs only[dA,List.getElem?_cons_zero,List.getElem?_cons_succ,ar,gA,jr,aj,VT,VU,c3,fD,decide_eq_false fU,Bool.not_false,ba,if_true,dn,aqq,decide_true,t'];exact aV.pure rfl
  ·have fU:(((16<=lK/\lK<=4096)/\0<=c1)/\c1<=20):=⟨⟨aq.1,aq.2.1⟩,by omega⟩;obtain⟨X,ρ,rfl,asI,Ff,an,nA⟩:=VV N hw ⟨by omega,by omega⟩ qI.lt gJ.below (by omega) gJ.loc;have bk:=C6 (PV:=hA) nA.sys;simp-implicitDefEqProofs only[dA,List.getElem?_cons_zero,List.getElem?_cons_succ,ar,gA,jr,aj,VT,VU,c3,fD,decide_eq_true fU,Bool.not_true,ba,Bool.false_eq_true,if_false,dn,p4,decide_true,t'];have b_:=GZ (PV:=hA) nA.sys;have b3:=ak8 (PV:=hA) nA.sys;have c7:=alw (PV:=hA) nA.sys;have adv:((yi lK.toNat dl.sec).free:Int)=lK:=by show((lK.toNat:Nat) :Int)=lK;omega
   have vr:((yi lK.toNat dl.sec).used:Int)=0:=rfl;have z2:((yi lK.toNat dl.sec).ring.length:Int)=0:=rfl;have z3:((yi lK.toNat dl.sec).au.length:Int)=0:=rfl;have z4:b0 .i64 (0+0)=0:=by decide
   rw[adv]at bk;rw[vr]at b_;rw[z2]at b3;rw[z3]at c7;simp-implicitDefEqProofs only[bk,b_,b3,c7,c3,ar,dn,du,z4,decide_true,t'];refine fO (P:=λ_ vs cw=>vs=[.bool true]/\bf g cw) ?_ ?_
   ·rw[cP,if_pos rfl];refine b4 (AO nA) ?_;rintro _ g1 ⟨rfl,bb⟩;exact aV.pure ⟨rfl,bb⟩
   rintro _ _ g1 ⟨rfl,bb⟩;simp-implicitDefEqProofs only[bz,bp,cF,if_true,ar];refine fO (P:=λ_ vs cw=>vs=[.bool true]) ?_ ?_
   ·rw[cP,if_pos rfl];refine b4 (ad7 g1) ?_;rintro _ g2 ⟨rfl,bn⟩;have aC:=adk (PV:=hA) ((N.vO.ext bb).ext bn) (i:=0) (m:=0) (by omega) (by omega);rw[J2]at aC;refine b4 aC ?_;rintro _ g3 ⟨rfl,bR⟩;simp-implicitDefEqProofs only[dn,ar,decide_true];exact aV.pure rfl
   rintro _ _ g2 rfl;simp-implicitDefEqProofs only[bz,bp,cF,if_true,ar,dn,decide_true,t'];exact aV.pure rfl
 obtain⟨v,g,e,rfl⟩:=key;exact⟨g,e⟩
end Go.Proofs.YtkdjcmpgnkecfaaGreatDoor
end
