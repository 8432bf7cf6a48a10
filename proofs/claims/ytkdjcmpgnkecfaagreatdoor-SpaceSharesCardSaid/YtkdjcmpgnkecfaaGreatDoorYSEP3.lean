/-
  Parts.
-/
import Derived.Test.YtkdjcmpgnkecfaaGreatDoorYSEP2
set_option linter.all false
set_option exponentiation.threshold 600
noncomputable section
namespace Go.Proofs.YtkdjcmpgnkecfaaGreatDoor
open Go.a8
section
variable{PV:cn} [cN PV]
theorem avk{use:Int}{r:aU}{n sh:Int}(ab:dD use r true (je r 3 n) sh≠2)(hu:use≠2) :dD use r true (je r 3 n) sh=1:=by
 have ma:je r 3 n=⟨true,false,false,false,n⟩:=by unfold je;rw[if_pos rfl]
 rw[ma]at ab|-;unfold dD jt at ab|-;split
 ·rename_i h;rw[if_pos h]at ab;exact absurd rfl ab
 ·simp only[Bool.false_eq_true,if_false];rw[if_neg (by decide),if_pos (.inl hu)]
structure auN(c:df)(σ:b8)(x:bH)(p:Nat)(act:Int)(aR:b8)(st:Int) :Prop where
 oL:∃r,cv x.L p=some r/\Ez c x p r act σ aR/\∃a b aS n,σ.au=a++x::b/\aR.au=a++{x with T:=aS}::b/\aS.ent=az x.T.ent p (je r st (n:Nat))/\n<c.n
 yA:st=act\/act=3/\st=4
 auZ:act=3\/act=4\/act=5\/act=6\/act=7
 inv:Inv c σ (λ_=>0) (λ_=>0)
theorem avW{c:df}{use:Int}{s p i:Nat}{σ aR:b8}(t:lD c (dD use) s p i σ aR)(aF:Quiet c (σ.au.map (·.L)))(hu:(σ.au.map (·.s)).Nodup){x:bH}(ag:x∈σ.au)(gm:x.s=s)(av:use≠2\/∀r,cv x.L p=some r->r.kind≠1) :
  (i=0/\aR=σ)\/(i=1/\∃st,auN c σ x p (c_ (dD use) σ x p) aR st):=by
 induction t with
 |nil=>exact .inl ⟨rfl,rfl⟩
 |idle t aJ af id b1=>
  have:=aF.room _ af (by rw[p9 (c:=c),YO t,<-p9]);omega
 |make t _ _ _ _ _ aJ af _ b1=>
  have:=aF.room _ af (by rw[p9 (c:=c),YO t,<-p9]);omega
 |BL t af aq f_ an h1 ab aJ oL b1=>
  rename_i i jo aX b5 y r;right;have pG:(aX.au.map (·.s)).Nodup:=by rw[O3 (c:=c),YO t,<-O3];exact hu
  rcases b1 aF hu ag with⟨rfl,rfl⟩ |⟨rfl,st,o⟩
  ·obtain rfl:y=x:=V0 hu aq ag (f_.trans gm.symm);refine⟨rfl,?_⟩;obtain⟨a,b,aS,n,st,iW,wi,he,aw,ea⟩:=oL.ent;have hD:c_ (dD use) aX y p=1\/c_ (dD use) aX y p=2\/c_ (dD use) aX y p=3\/c_ (dD use) aX y p=4\/c_ (dD use) aX y p=5\/c_ (dD use) aX y p=6\/c_ (dD use) aX y p=7:=(vM use).all _ _ _ _;exact⟨st,⟨r,an,oL,a,b,aS,n,iW,wi,he,aw⟩,ea,by omega,af⟩
  ·exfalso;obtain⟨cR,ki,av7,a,b,aS,n,iW,wi,he,aw⟩:=o.oL;have lP:({x with T:=aS} :bH)∈aX.au:=by rw[wi];simp
   obtain rfl:y={x with T:=aS}:=V0 pG aq lP (f_.trans gm.symm);have ea:=o.yA;have uj:=o.auZ;have aC:c_ (dD use) jo x p=dD use cR true (x.T.ent p) (my jo (x.T.ent p)):=by unfold c_;rw[ki];rfl
   have Gf:st=3\/st=4\/st=5\/st=6\/st=7:=by omega
   have KP:c_ (dD use) aX {x with T:=aS} p=dD use cR true (je cR st n) (my aX (aS.ent p)):=by unfold c_;show dD use ((cv x.L p).getD aU.zero) (cv x.L p).isSome (aS.ent p) _=_;rw[ki,he,e4];rfl
   have xw:dD use cR true (x.T.ent p) (my jo (x.T.ent p))≠2:=by rw[<-aC];omega
   rcases SG (m:=(n:Int)) (sh:=my aX (aS.ent p)) xw Gf with al|⟨al,_⟩
   ·exact h1 (KP.trans al)
   ·rcases av with av|av
    ·subst al;exact h1 (KP.trans (avk (by rw[<-KP];exact ab) av))
    ·have aE:c_ (dD use) jo x p=3:=by omega
     exact av cR ki (((vM use).d3 cR _ _ (aC.symm.trans aE)).2.2)
section
variable{h g:ae}{X:ew}{c:df}{ρ bD:Nat->Nat}{σ aR:b8}
theorem auY(k:Good h X c ρ σ (λ_=>0) (λ_=>0))(aF:Quiet c (σ.au.map (·.L))){x:bH}(ag:x∈σ.au){addr:Nat}(bc:addr<9223372036854775808)(use:Int){b:Nat}(aj:b<256)(ku:mE x.L (addr/64) use)(av:use≠2\/∀r,cv x.L (addr/64:Nat)=some r->r.kind≠1) :
  bh (call J PV (.func 33 [] []) [.ptr x.s 0,.int .i64 addr,.int .i64 use,.int .u8 b] h) λv g=>bX ρ h g/\∃b5 ev,(∀i,i<h.next->ev i=ρ i)/\Good g X c ev b5 (λ_=>0) (λ_=>0)/\
   ((c_ (dD use) σ x (addr/64)=1/\b5.au=σ.au/\b5.ring=σ.ring/\b5.free=σ.free)\/
    ∃aX st,auN c σ x (addr/64) (c_ (dD use) σ x (addr/64)) aX st/\b5.au=aX.au/\b5.ring=aX.ring/\b5.free=aX.free):=by
 refine bh.mono (aaz k ag bc use aj) ?_;rintro v g ⟨w,i,aX,bU,dy,us,aH⟩;have aW:=avW us.dS aF k.ids ag rfl av;have fin:∀(b5:b8),b5.au=aX.au->b5.ring=aX.ring->b5.free=aX.free->c_ (dD use) aX bU (addr/64)=1->((c_ (dD use) σ x (addr/64)=1/\b5.au=σ.au/\b5.ring=σ.ring/\b5.free=σ.free)\/∃aX st,auN c σ x (addr/64) (c_ (dD use) σ x (addr/64)) aX st/\b5.au=aX.au/\b5.ring=aX.ring/\b5.free=aX.free):=λb5 h1 ab al aC=>by
  rcases aW with⟨_,rfl⟩ |⟨_,st,o⟩
  ·obtain rfl:bU=x:=k.iP us.mem ag us.s;exact .inl ⟨aC,h1,ab,al⟩
  ·exact .inr ⟨aX,st,o,h1,ab,al⟩
 rcases aH with⟨rfl,aC,bk⟩ |⟨rfl,ku,aC,bk⟩ |⟨aC,m,b5,hm,b_,ep,fw,F_,oZ,nt,nu,rfl⟩
 ·exact absurd ku (by rw[<-us.L];exact JR.1 aC)
 ·exfalso;rcases aC with h1|⟨h1,_⟩
  ·rcases aW with⟨h,_⟩ |⟨h,_⟩<;>omega
  ·have:=aF.room aX bk.inv (by rw[p9 (c:=c),us.view,<-p9]);omega
 ·exact⟨w,b5,dy,us.ro,b_,fin b5 ep F_ fw aC⟩
end
end
theorem avj{q:Nat} :∀n,q<=n->cq (λp=>decide (p<q)) n=q:=by
 intro n aw;induction n with
 |zero=>show 0=q;omega
 |succ n b1=>
  rw[cq];by_cases e:q<=n
  ·rw[b1 e,decide_eq_false (by omega)];rfl
  ·have:q=n+1:=by omega
   subst this;rw[decide_eq_true (Nat.lt_succ_self n),xj (g:=λ_=>true) λi af=>decide_eq_true (by omega),JJ];rfl
theorem avS{dec:Nat->Nat->bj}{n:Nat}{T:dt}(h:hB dec n T)(aW:sx T)(aA:∀p,T.ent p≠.zero->p<5\/8<=p/\p<13)(h0:T.ent 0≠.zero)(cz:T.ent 8≠.zero) :T.ee=5:=by
 have hT:∀l m,1<=l->l<=3->m<=8^l->(∀q,(∃p,p/8^(4-l)=q/\T.ent p≠.zero)↔q<m)->cq (λq=>(T.bd l q).isSome) (8^l)=m:=λl m h1 al hm aF=>by
  rw[xj (g:=λq=>decide (q<m)) λq _=> ?_,avj _ hm];have:=(G3 h aW (3-l) l q (by omega) h1).trans (aF q);cases e:T.bd l q with
  |none=>rw[e]at this;exact(decide_eq_false (λaD=>this.2 aD rfl)).symm
  |some f=>rw[e]at this;exact(decide_eq_true (this.1 (by simp))).symm
 have h1:=hT 1 1 (by decide) (by decide) (by decide) λq=>⟨λ⟨p,e,aI⟩=>by have:=aA p aI;have e:p/512=q:=e;omega,λaF=>⟨0,by omega,h0⟩⟩
 have ab:=hT 2 1 (by decide) (by decide) (by decide) λq=>⟨λ⟨p,e,aI⟩=>by have:=aA p aI;have e:p/64=q:=e;omega,λaF=>⟨0,by omega,h0⟩⟩
 have al:=hT 3 2 (by decide) (by decide) (by decide) λq=>⟨λ⟨p,e,aI⟩=>by have:=aA p aI;have e:p/8=q:=e;omega,λaF=>by
  by_cases e:q=0
  ·exact⟨0,by omega,h0⟩
  ·exact⟨8,by show 8/8=q;omega,cz⟩⟩
 have aP:cq (λq=>(T.bd 0 q).isSome) (8^0)=1:=by
  show 0+((T.bd 0 0).isSome).toNat=1;cases e:T.bd 0 0 with
  |none=>exact absurd e h.root
  |some f=>rfl
 unfold dt.ee;simp only[dx];rw[aP,h1,ab,al]
theorem auJ{c:df}{σ:b8}{d e:Nat->Int}(h:Inv c σ d e){f:Nat} :refs σ f≠0↔(∃x p,x∈σ.au/\b2 f (x.T.ent p)=true)\/∃y,y∈σ.ring/\y.fr=f:=by
 constructor
 ·intro aw;refine Classical.byContradiction λaH=>aw ?_
  have h1:∀x p,x∈σ.au->b2 f (x.T.ent p)=false:=λx p ag=>by
   cases aj:b2 f (x.T.ent p)with
   |false=>rfl
   |true=>exact absurd (.inl ⟨x,p,ag,aj⟩) aH
  have ab:∀y,y∈σ.ring->(y.fr==f)=false:=λy aq=>by
   cases aj:y.fr==f with
   |false=>rfl
   |true=>exact absurd (.inr ⟨y,aq,beq_iff_eq.1 aj⟩) aH
  unfold refs;have aG:da σ.au (b2 f)=0:=by
   revert h1;generalize σ.au=l;intro h1;induction l with
   |nil=>rfl
   |cons x l b1=>
    rw[nG,b1 λy p aq=>h1 y p (List.mem_cons_of_mem _ aq)];show cq _ 4096+0=0;rw[kS.2 λp _=>h1 x p List.mem_cons_self]
  have aT:eW (λx:dj=>x.fr==f) σ.ring=0:=by
   revert ab;generalize σ.ring=l;intro ab;induction l with
   |nil=>rfl
   |cons y l b1=>rw[rl,b1 λz aP=>ab z (List.mem_cons_of_mem _ aP),ab y List.mem_cons_self];rfl
  omega
 ·rintro(⟨x,p,ag,ju⟩ |⟨y,aq,rfl⟩)
  ·have aD:(x.T.ent p).here=true:=by unfold b2 at ju;rw[Bool.and_eq_true]at ju;exact ju.1
   have:=AA ag (h.lt ag (gZ aD)) ju;unfold refs;omega
  ·have:=E5 (P:=λx:dj=>x.fr==y.fr) aq (by simp);unfold refs;omega
def auC(c:df)(σ:b8) :Nat:=cq (λf=>decide (refs σ f≠0)) c.n
theorem au1{c:df}{σ:b8}{e:Nat->Int}(h:Inv c σ (λ_=>0) e)(aL:∀x,x∈σ.au->x.T.ee=5) :σ.free+5*σ.au.length+auC c σ=c.n:=by
 have h1:=h.room;have ab:j2 σ.au=5*σ.au.length:=by
  revert aL;generalize σ.au=l;intro aL;induction l with
  |nil=>rfl
  |cons x l b1=>
   show x.T.ee+j2 l=_;rw[b1 λy aq=>aL y (List.mem_cons_of_mem _ aq),aL x List.mem_cons_self,List.length_cons];omega
 unfold auC;omega
theorem dC.auM{a b:bj}(h:dC a b)(f:Nat) :b2 f a=b2 f b:=by unfold b2;rw[h.1,h.2.2]
section
set_option maxRecDepth 100000
variable{PV:cn} [cN PV]
def au6(a0 ao:aa)(C:bW)(h:ae) :Option a1:=a7 (C (.func 28 [] []) [] h) λv1 h1=>a7 (C (.func 29 [] []) [(.int .i64 1000),(.int .i64 8)] h1) λv2 ab=>U (cm v2 0) λv3=>U (cm v2 1) λv4=>U (ax J ab .eql 42 v3 .nilPtr) λv5=>bq v5 (some (.ret,[(.bool false)],ab)) (U (ax J ab .and 3 a0 (.int .i64 7)) λv6=>U (ax J ab .add 3 (.int .i64 1) v6) λbl=>U (ax J ab .rem 3 ao (.int .i64 5)) λbA=>U (ax J ab .add 3 bA (.int .i64 5)) λv9=>U (ax J ab .rem 3 v9 (.int .i64 5)) λv10=>U (ax J ab .add 3 (.int .i64 1) v10) λv11=>a7 (C (.func 30 [] []) [v3] ab) λv12 al=>U (cm v12 0) λcd=>U (cm v12 1) λb9=>U (ax J al .neq 29 b9 (.int .i64 0)) λch=>bG (b7 ch false (U (dY J 47 [(0,(.int .i64 0)),(1,v11),(2,(.int .i64 4)),(3,(.int .i64 1)),(4,(.int .i64 0))]) λcj=>a7 (C (.func 31 [] []) [cd,cj] al) λcC aE=>U (ax J aE .neq 29 cC (.int .i64 0)) λcx=>some (.normal,[cx],aE)) (some (.normal,[.undef],al))) λ_ aK aL=>a_ aK λcL qb=>br qb (U (bZ ch (.bool true) cL) λv20=>bG (b7 v20 false (U (ax J aL .add 3 (.int .i64 8) v11) λv21=>a7 (C (.func 35 [] []) [(.int .i64 8),v21,(.int .i64 6)] aL) λv22 bm=>a7 (C (.func 31 [] []) [cd,v22] bm) λv23 cr=>U (ax J cr .neq 29 v23 (.int .i64 0)) λv24=>some (.normal,[v24],cr)) (some (.normal,[.undef],aL))) λ_ aK cz=>a_ aK λv25 Ee=>br Ee (U (bZ v20 (.bool true) v25) λv26=>bq v26 (some (.ret,[(.bool false)],cz)) (bG (eM 14 (λaK c6=>a_ aK λv27 Ef=>br Ef (U (ax J c6 .lss 3 v27 v11) λv28=>bq v28 (U (ax J c6 .mul 3 (.int .i64 64) v27) λv29=>a7 (C (.func 33 [] []) [cd,v29,(.int .i64 1),(.int .u8 0)] c6) λv30 dZ=>U (ax J dZ .add 3 (.int .i64 8) v27) λv31=>U (ax J dZ .mul 3 (.int .i64 64) v31) λv32=>a7 (C (.func 33 [] []) [cd,v32,(.int .i64 2),(.int .u8 1)] dZ) λv33 dv=>U (ax J dv .add 3 v27 (.int .i64 1)) λeP=>some (.normal,[eP],dv)) (some ((.exit 0),[v27],c6)))) [(.int .i64 0)] cz) λarV aK dF=>a_ aK λv35 tH=>br tH (gD 0 arV (a7 (C (.func 42 [] []) [v3] dF) λv36 e5=>U (ax J e5 .neq 3 v36 v11) λv37=>bq v37 (some (.ret,[(.bool false)],e5)) (a7 (C (.func 36 [] []) [v3] e5) λfE eX=>bG (eM 14 (λaK hd=>a_ aK λfy Ej=>a_ Ej λv40 Ek=>a_ Ek λv41 O'=>br O' (U (ax J hd .lss 3 v41 bl) λgv=>bq gv (a7 (C (.func 43 [] []) [cd] hd) λfF hv=>U (cm fF 0) λv44=>U (cm fF 1) λgI=>U (ax J hv .neq 29 gI (.int .i64 0)) λv46=>bq v46 (some (.ret,[(.bool false),v40,v41],hv)) (ca (lg J 75 1 [(0,v44)]) hv λgR hx=>a7 (h2 J hx 75 75 v40 gR) λhb kt=>U (ax J kt .add 3 v41 (.int .i64 1)) λv49=>some (.normal,[fy,hb,v49],kt))) (some ((.exit 2),[fy,v40,v41],hd)))) [(.bool false),.bI,(.int .i64 0)] eX) λarW aK hC=>a_ aK λix Pc=>a_ Pc λv51 arz=>a_ arz λiy Eo=>br Eo (gD 2 arW (a7 (C (.func 36 [] []) [v3] hC) λv53 kV=>U (ax J kV .sub 3 fE v53) λic=>U (ax J kV .quo 3 ic bl) λig=>U (ax J kV .gtr 3 ig (.int .i64 5)) λjD=>bG (b7 jD false (a7 (C (.func 42 [] []) [v3] kV) λv57 lp=>U (ax J lp .neq 3 v57 v11) λj8=>some (.normal,[j8],lp)) (some (.normal,[.undef],kV))) λ_ aK nq=>a_ aK λv59 Pg=>br Pg (U (bZ jD (.bool true) v59) λjQ=>bq jQ (some (.ret,[(.bool false)],nq)) (a7 (C (.func 36 [] []) [v3] nq) λjm nY=>U (cZ J 75 v51 (.int .i64 0)) λjR=>U (ak J nY 48 jR) λv63=>a7 (C (.func 33 [] []) [v63,(.int .i64 512),(.int .i64 2),(.int .u8 2)] nY) λv64 qq=>a7 (C (.func 36 [] []) [v3] qq) λko pq=>U (ax J pq .sub 3 jm (.int .i64 1)) λl4=>U (ax J pq .eql 3 ko l4) λmB=>U (cZ J 75 v51 (.int .i64 0)) λl5=>U (ak J pq 48 l5) λm7=>a7 (C (.func 33 [] []) [m7,(.int .i64 513),(.int .i64 2),(.int .u8 3)] pq) λv70 uh=>bG (b7 v1 true (some (.normal,[mB],uh)) (some (.normal,[.undef],uh))) λ_ aK ui=>a_ aK λnM av4=>br av4 (U (bZ v1 nM (.bool false)) λv72=>bG (b7 v72 true (a7 (C (.func 36 [] []) [v3] ui) λm8 FE=>U (ax J FE .sub 3 jm (.int .i64 1)) λp8=>U (ax J FE .eql 3 m8 p8) λv75=>some (.normal,[v75],FE)) (some (.normal,[.undef],ui))) λ_ aK FF=>a_ aK λv76 Pn=>br Pn (U (bZ v72 v76 (.bool false)) λq8=>bG (b7 q8 true (a7 (C (.func 34 [] []) [v3] FF) λtF B7=>some (.normal,[tF],B7)) (some (.normal,[.undef],FF))) λ_ aK KB=>a_ aK λtG Po=>br Po (U (bZ q8 tG (.bool false)) λvi=>some (.ret,[vi],KB))))))) (some (.ret,[ix],hC)) λi=>none))) (some (.ret,[(.bool false)],dF)) λi=>none)))))
theorem avM{a0 ao:aa} :LT PV 8 [a0,ao] (au6 a0 ao):=
 cc (f:=Tryz.f8) (hF (hF (hF (.seq (hF (.cond (hF .leaf) .leaf)) (hF (hF (hF (.seq (.seq (.ah [[48],[56]]) (.cond (hF .leaf) .leaf)) (.seq (hF (.loop [12] [] (.seq (hF (.cond .leaf .leaf)) (.seq (.dW (hF (.ah []))) (.ah []))))) (.seq (hF (.cond (hF .leaf) .leaf)) (hF (hF (.seq (hF (.loop [4,14,15] [] (.seq (hF (.cond .leaf .leaf)) (.seq (.dW (hF (.seq (hF (.cond (hF .leaf) .leaf)) (.ah [])))) (.ah []))))) (hF (hF (.seq (.seq (.ah [[107]]) (.cond (hF .leaf) .leaf)) (hF (hF (hF (hF (.seq (.ah [[126],[133],[137]]) .leaf))))))))))))))))))))) (by kernel_rfl) (b' rfl (by kernel_rfl)) λ_ _=>by kernel_rfl
end
theorem avi(k:Int) :dY J 47 [(0,.int .i64 0),(1,.int .i64 k),(2,.int .i64 4),(3,.int .i64 1),(4,.int .i64 0)]=some (.agg (⟨0,k,4,1,0,0⟩ :aU).vs):=by kernel_rfl
def anK(k:Nat) :aU:=⟨0,(k:Nat),4,1,0,0⟩
def adm(k:Nat) :aU:=eQ 8 ((8+k:Nat) :Int) 6
def U3(k:Nat) :List aU:=[anK k,adm k]
theorem avO{k:Nat}(h1:1<=k)(aL:k<=5) :(anK k).may=true/\(adm k).may=true/\meets (adm k) (anK k)=false/\(iK (adm k) [anK k]).foldl e9 []=U3 k/\om (U3 k) +mu (U3 k)<=17:=by
 have:k=1\/k=2\/k=3\/k=4\/k=5:=by omega
 rcases this with rfl|rfl|rfl|rfl|rfl<;>decide
theorem auE{k p:Nat}(aL:k<=5) :cv (U3 k) (p:Nat)=if p<k then some (anK k)else if 8<=p/\p<8+k then some (adm k)else none:=by
 have aG:(anK k).has (p:Nat)=decide (p<k):=by show decide ((0:Int)<=(p:Int)/\(p:Int) <(k:Int))=_;rw[Bool.eq_iff_iff,decide_eq_true_eq,decide_eq_true_eq];omega
 have aT:(adm k).has (p:Nat)=decide (8<=p/\p<8+k):=by show decide ((8:Int)<=(p:Int)/\(p:Int) <((8+k:Nat) :Int))=_;rw[Bool.eq_iff_iff,decide_eq_true_eq,decide_eq_true_eq];omega
 unfold cv U3;rw[List.find?_cons,List.find?_cons,aG,aT];by_cases h1:p<k
 ·rw[if_pos h1,decide_eq_true h1]
 ·rw[if_neg h1,decide_eq_false h1];by_cases ab:8<=p/\p<8+k
  ·rw[if_pos ab,decide_eq_true ab]
  ·rw[if_neg ab,decide_eq_false ab];rfl
theorem auO{k p:Nat}(aL:k<=5) :(p<k->mE (U3 k) p 1)/\(8<=p->p<8+k->mE (U3 k) p 2):=
 ⟨λh=>⟨anK k,by rw[auE aL,if_pos h],by show kO 4 1=true;decide⟩,λh1 ab=>⟨adm k,by rw[auE aL,if_neg (by omega),if_pos ⟨h1,ab⟩],by show kO 6 2=true;decide⟩⟩
structure auD(k s:Nat)(σ:b8)(p q:Nat) :Prop where
 one:∃x,σ.au=[x]/\x.s=s/\x.L=U3 k/\(∀i,i<p\/8<=i/\i<8+q->(x.T.ent i).here=true)/\∀i,¬(i<p\/8<=i/\i<8+q)->x.T.ent i=.zero
 keys:lv σ.ring=(List.range p).map λi:Nat=>((0:Int),(i:Int))
section
variable{h g:ae}{X:ew}{c:df}{ρ bD:Nat->Nat}{σ aR:b8}{PV:cn} [cN PV]{k s p q:Nat}
theorem au7{use:Int}{σ:b8}{x:bH}{p:Nat}{r:aU}(an:cv x.L p=some r)(aP:x.T.ent p=.zero)(bc:mE x.L p use) :c_ (dD use) σ x p=if r.kind=1 then 3 else 4:=by
 have qz:c_ (dD use) σ x p≠2:=λe=>(JR.1 e) bc
 have e:c_ (dD use) σ x p=dD use r true .zero (my σ (x.T.ent p)):=by unfold c_;rw[an,aP];rfl
 rw[e]at qz|-;have d:=vM use;generalize my σ (x.T.ent p)=n at*
 have h1:dD use r true .zero n≠1:=λe=>by have:=d.d1 _ _ _ e;cases this
 have aL:dD use r true .zero n≠5:=λe=>by have:=d.d5 _ _ _ e;cases this
 have bm:dD use r true .zero n≠6:=λe=>by have:=d.d6 _ _ _ e;cases this
 have cr:dD use r true .zero n≠7:=λe=>by have:=(d.d7 _ _ _ e).1;cases this
 have bc:=d.all r true .zero n;by_cases av:r.kind=1
 ·rw[if_pos av];have aE:dD use r true .zero n≠4:=λe=>(d.d4 _ _ _ e).2.2 av
  omega
 ·rw[if_neg av];have al:dD use r true .zero n≠3:=λe=>av (d.d3 _ _ _ e).2.2
  omega
theorem avn{r:aU}{st:Int}{n:Nat}(h:st=3\/st=4\/st=5\/st=6\/st=7)(aw:n<=4096) :(je r st n).here=true:=(SZ h aw).2.1
theorem avg{x:bH}{r:aU}{aX b5:b8}{act st:Int}(ag:σ.au=[x])(aw:c.n<=4096)(o:auN c σ x p act aX st)(ab:b5.au=aX.au) :∃aS,b5.au=[{x with T:=aS}]/\(aS.ent p).here=true/\∀i,i≠p->aS.ent i=x.T.ent i:=by
 obtain⟨r,an,oL,a,b,aS,n,iW,wi,he,kh⟩:=o.oL;have hO:a=[]/\b=[]:=by have:=congrArg List.length (ag.symm.trans iW);simp only[List.length_cons,List.length_nil,List.length_append]at this;exact⟨List.length_eq_zero_iff.1 (by omega),List.length_eq_zero_iff.1 (by omega)⟩
 rw[hO.1,hO.2]at wi;have al:=o.yA;have aE:=o.auZ;refine⟨aS,ab.trans wi,?_,λi af=>by rw[he,eE _ _ af]⟩;rw[he,e4];exact avn (by omega) (by omega)
theorem avY(hn:Good h X c ρ σ (λ_=>0) (λ_=>0))(aF:Quiet c [U3 k])(aL:k<=5)(aI:p<k)(aJ:c.iU 0 (p:Nat)≠none)(Yf:auD k s σ p q) :
  bh (call J PV (.func 33 [] []) [.ptr s 0,.int .i64 ((64*p:Nat) :Int),.int .i64 1,.int .u8 0] h) λv g=>bX ρ h g/\∃b5 ev,(∀i,i<h.next->ev i=ρ i)/\Good g X c ev b5 (λ_=>0) (λ_=>0)/\auD k s b5 (p+1) q:=by
 obtain⟨x,ag,rfl,dB,aD,aP⟩:=Yf.one;have gL:x∈σ.au:=by rw[ag];simp
 have we:64*p/64=p:=by omega
 have an:cv x.L (p:Nat)=some (anK k):=by rw[dB,auE aL,if_pos aI]
 have au2:x.T.ent p=.zero:=aP p (by omega);have ku:mE x.L p 1:=by rw[dB];exact(auO aL).1 aI
 refine bh.mono (auY hn (by rw[ag];show Quiet c [x.L];rw[dB];exact aF) gL (addr:=64*p) (by omega) 1 (b:=0) (by decide) (by rw[we];exact ku) (.inl (by decide))) ?_;rintro v g ⟨w,b5,ev,jY,b_,aH⟩;rw[we,au7 an au2 ku,if_pos (show(anK k).kind=1 from rfl)]at aH;refine⟨w,b5,ev,jY,b_,?_⟩;rcases aH with⟨h1,_⟩ |⟨aX,st,o,aG,aT,bJ⟩
 ·cases h1
 obtain⟨aS,wi,ahg,ahh⟩:=avg (r:=anK k) ag hn.n o aG;refine⟨⟨_,wi,rfl,dB,λi af=> ?_,λi af=> ?_⟩,?_⟩
 ·by_cases e:i=p
  ·subst e;exact ahg
  ·show(aS.ent i).here=true;rw[ahh i e];exact aD i (by omega)
 ·show aS.ent i=_;rw[ahh i (by omega)];exact aP i (by omega)
 ·obtain⟨cR,ki,oL,_⟩:=o.oL;rw[an]at ki;obtain rfl:=Option.some.inj ki;have xL:((anK k).file,(anK k).bM+(p:Int) -(anK k).lo)=((0:Int),(p:Int)):=by
   show((0:Int),(0:Int) +(p:Int) -0)=_;rw[show(0:Int) +(p:Int) -0=(p:Int)by omega]
  obtain⟨h1,ab⟩:=oL.yw;have xI:c.iU (anK k).file ((anK k).bM+(p:Int) -(anK k).lo)≠none:=by have e0:=congrArg Prod.snd xL;have e0:(anK k).bM+(p:Int) -(anK k).lo=(p:Int):=e0;rw[e0];exact aJ
  have al:=ab rfl xI;rw[xL]at h1 al;rw[aT];rcases h1 with h1|h1
  ·rw[h1,Yf.keys]at al;obtain⟨i,af,e⟩:=List.mem_map.1 al;rw[List.mem_range]at af;simp only[Prod.mk.injEq,true_and]at e;omega
  ·rw[h1,Yf.keys,List.range_succ,List.map_append];rfl
theorem av0(hn:Good h X c ρ σ (λ_=>0) (λ_=>0))(aF:Quiet c [U3 k])(aL:k<=5)(aI:p<k)(Yf:auD k s σ q p){b:Nat}(aj:b<256) :
  bh (call J PV (.func 33 [] []) [.ptr s 0,.int .i64 ((64*(8+p) :Nat) :Int),.int .i64 2,.int .u8 b] h) λv g=>bX ρ h g/\∃b5 ev,(∀i,i<h.next->ev i=ρ i)/\Good g X c ev b5 (λ_=>0) (λ_=>0)/\(q<=k->auD k s b5 q (p+1)):=by
 obtain⟨x,ag,rfl,dB,aD,aP⟩:=Yf.one;have gL:x∈σ.au:=by rw[ag];simp
 have we:64*(8+p) /64=8+p:=by omega
 have an:cv x.L ((8+p:Nat) :Nat)=some (adm k):=by rw[dB,auE aL,if_neg (by omega),if_pos ⟨by omega,by omega⟩]
 have ku:mE x.L (8+p) 2:=by rw[dB];exact(auO aL).2 (by omega) (by omega)
 refine bh.mono (auY hn (by rw[ag];show Quiet c [x.L];rw[dB];exact aF) gL (addr:=64*(8+p)) (by omega) 2 aj (by rw[we];exact ku) (.inr λcR ki=>by
  rw[we,an]at ki;obtain rfl:=Option.some.inj ki
  show(2:Int)≠1;decide)) ?_
 rintro v g ⟨w,b5,ev,jY,b_,aH⟩;rw[we]at aH;refine⟨w,b5,ev,jY,b_,λav'=> ?_⟩;have au2:x.T.ent (8+p)=.zero:=aP (8+p) (by omega);rw[au7 an au2 ku,if_neg (show¬(adm k).kind=1 by show¬(2:Int)=1;decide)]at aH;rcases aH with⟨h1,_⟩ |⟨aX,st,o,aG,aT,bJ⟩
 ·cases h1
 obtain⟨aS,wi,ahg,ahh⟩:=avg (r:=adm k) ag hn.n o aG;refine⟨⟨_,wi,rfl,dB,λi af=> ?_,λi af=> ?_⟩,?_⟩
 ·by_cases e:i=8+p
  ·subst e;exact ahg
  ·show(aS.ent i).here=true;rw[ahh i e];exact aD i (by omega)
 ·show aS.ent i=_;rw[ahh i (by omega)];exact aP i (by omega)
 ·obtain⟨cR,ki,oL,_⟩:=o.oL;rw[aT,oL.ring (by decide),Yf.keys]
end
structure auk(k s m:Nat)(fU:Nat->bj)(r0:List dj)(σ:b8) :Prop where
 len:σ.au.length=m
 rows:∀y,y∈σ.au->y.L=U3 k/\∀q,dC (y.T.ent q) (fU q)
 own:∃x,x∈σ.au/\x.s=s
 ring:σ.ring=r0
def auF(σ:b8)(t:Nat) :Prop:=∃z,z∈σ.au/\z.s=t/\∀q,(z.T.ent q).write=false
section
variable{h g:ae}{X:ew}{c:df}{ρ bD:Nat->Nat}{σ aR:b8}{PV:cn} [cN PV]{k s m:Nat}{fU:Nat->bj}{r0:List dj}
theorem auk.map(f:auk k s m fU r0 σ) :σ.au.map (·.L)=List.replicate m (U3 k):=
 List.eq_replicate_iff.2 ⟨by rw[List.length_map];exact f.len,λl ay=>by obtain⟨y,aq,rfl⟩:=List.mem_map.1 ay;exact(f.rows y aq).1⟩
theorem avr(hn:Good h X c ρ σ (λ_=>0) (λ_=>0))(e1:∀s p,¬c.loose s p)(aF:∀m,m<=10->Quiet c (List.replicate m (U3 k)))(hm:m<=8)(f:auk k s m fU r0 σ) :
  bh (call J PV (.func 43 [] []) [.ptr s 0] h) λv g=>bX ρ h g/\∃aY aR bD,v=.tuple [.ptr aY 0,.int .i64 0]/\(∀i,i<h.next->bD i=ρ i)/\Good g X c bD aR (λ_=>0) (λ_=>0)/\auk k s (m+1) fU r0 aR/\aY≠s/\auF aR aY/\∀t,t≠s->auF σ t->auF aR t:=by
 obtain⟨x,ag,rfl⟩:=f.own;have rR:=(f.rows x ag).1;have room:∀jo,Inv c jo (λ_=>0) (λ_=>0)->(jo.au.map (·.L)=σ.au.map (·.L)\/jo.au.map (·.L)=σ.au.map (·.L)++[x.L])->4<=jo.free:=λjo i an=>by
  rcases an with an|an
  ·exact(aF m (by omega)).room jo i (an.trans f.map)
  ·exact(aF (m+1) (by omega)).room jo i (by rw[an,f.map,rR,List.replicate_succ',])
 refine bh.mono (aer hn e1 ag (λg0 Ex jo nA an=>.inl (room jo nA.inv an))) ?_;rintro v g (⟨_,_,_,_,_,_,_,g0,Ex,jo,nA,aJ,_,an⟩ |⟨w,aY,aR,bD,rfl,kj,jY,et,ai,xH⟩)
 ·have:=room jo nA.inv an;omega
 have kU:=xH room;have LA:∀y,y∈σ.au->y.s≠aY:=λy aq e=>by have:=hn.sys.core.lt y.s (by have:=(hn.sys.au y aq).role;omega);omega
 have auK:∀{σ:b8} {g:ae} {ρ:Nat->Nat},Good g X c ρ σ (λ_=>0) (λ_=>0)->∀y,y∈σ.au->∀q,4096<=q->y.T.ent q=.zero:=λ{σ g ρ} auI y aq q aF=>Classical.byContradiction λaw=>by have:=auI.inv.lt aq aw;omega
 have cA:∀y,y∈σ.au->∃z,z∈aR.au/\z.s=y.s/\z.L=y.L:=λy aq=>by obtain⟨z,a,b,h3,_⟩:=yT (c:=c) (σ:=aR) (q:=(y.s,y.L,cont c σ y)) (by rw[ai];exact List.mem_append_left _ (List.mem_map.2 ⟨y,aq,rfl⟩));exact⟨z,a,b,h3⟩
 have eK:∀y,y∈aR.au->y.L=U3 k:=λy aq=>by
  have h1:(y.s,y.L,cont c aR y)∈view c σ++[(aY,x.L,cont c σ x)]:=by rw[<-ai];exact List.mem_map.2 ⟨y,aq,rfl⟩
  rcases List.mem_append.1 h1 with h1|h1
  ·obtain⟨z,aP,e⟩:=List.mem_map.1 h1;simp only[Prod.mk.injEq]at e;rw[<-e.2.1];exact(f.rows z aP).1
  ·rw[List.mem_singleton]at h1;simp only[Prod.mk.injEq]at h1;rw[h1.2.1];exact rR
 refine⟨w,aY,aR,bD,rfl,jY,et,⟨?_,λy aq=>⟨eK y aq,λq=> ?_⟩,cA x ag|>.imp λz aP=>⟨aP.1,aP.2.1⟩,kU.ring.trans f.ring⟩,(LA x ag).symm,?_,λt aW ⟨z,aP,avL,au3⟩=> ?_⟩
 ·have:=congrArg List.length ai;unfold view at this;simpa [f.len]using this
 ·by_cases e:y.s=aY
  ·by_cases Uq:q<4096
   ·exact(kU.new y aq e q Uq).trans ((f.rows x ag).2 q)
   ·rw[auK et y aq q (by omega),<-auK hn x ag q (by omega)];exact(f.rows x ag).2 q
  ·obtain⟨aZ,h1,_,al⟩:=kU.old y aq e;exact(al q).1.trans ((f.rows aZ h1).2 q)
 ·obtain⟨z,a,b,_⟩:=yT (c:=c) (σ:=aR) (q:=(aY,x.L,cont c σ x)) (by rw[ai];simp);refine⟨z,a,b,λq=> ?_⟩;by_cases Uq:q<4096
  ·exact kU.wr z a (.inr b) q Uq
  ·rw[auK et z a q (by omega)];rfl
 ·obtain⟨aaO,a,b,_⟩:=cA z aP;have c':aaO.s≠aY:=by rw[b];exact LA z aP
  obtain⟨aZ,h1,ab,al⟩:=kU.old aaO a c';obtain rfl:aZ=z:=hn.iP h1 aP (ab.trans b);exact⟨aaO,a,b.trans avL,λq=>(al q).2 (au3 q)⟩
theorem au0{x:bH}(i:Inv c σ (λ_=>0) (λ_=>0))(e1:∀s p,¬c.loose s p)(aL:k<=5)(ag:x∈σ.au)(dB:x.L=U3 k)(h0:(x.T.ent 0).here=true)(cz:(x.T.ent 8).here=true) :x.T.ee=5:=
 avS (i.jl x ag) (i.tight x ag) (λp aI=>by
  have:=(i.mL x p ag aI).resolve_right (e1 _ _);rw[dB,auE aL]at this;by_cases h1:p<k
  ·omega
  ·rw[if_neg h1]at this;by_cases ab:8<=p/\p<8+k
   ·omega
   ·rw[if_neg ab]at this;exact absurd rfl this) (gZ h0) (gZ cz)
theorem auk.avR(f:auk k s m fU r0 σ)(i:Inv c σ (λ_=>0) (λ_=>0)){fB:Nat}{aR:b8}(ht:auk k s fB fU r0 aR)(auU:Inv c aR (λ_=>0) (λ_=>0)) :auC c aR=auC c σ:=by
 have one:∀{σ aR:b8} {m fB:Nat},auk k s m fU r0 σ->Inv c σ (λ_=>0) (λ_=>0)->auk k s fB fU r0 aR->Inv c aR (λ_=>0) (λ_=>0)->∀a,refs aR a≠0->refs σ a≠0:=λ{σ aR m fB} f i ht auU a bc=>by
  rcases(auJ auU).1 bc with⟨y,p,aq,ju⟩ |⟨y,aq,e⟩
  ·obtain⟨x,ag,_⟩:=f.own;refine(auJ i).2 (.inl ⟨x,p,ag,?_⟩);rw[((f.rows x ag).2 p).auM,<-((ht.rows y aq).2 p).auM];exact ju
  ·exact(auJ i).2 (.inr ⟨y,by rw[f.ring,<-ht.ring];exact aq,e⟩)
 unfold auC;refine xj λa _=> ?_
 rw[decide_eq_decide];exact⟨one f i ht auU a,one ht auU f i a⟩
theorem avZ(hn:Good h X c ρ σ (λ_=>0) (λ_=>0))(e1:∀s p,¬c.loose s p)(aF:Quiet c (List.replicate m (U3 k)))(avt:1<=k)(aL:k<=5)(f:auk k s m fU r0 σ)(auL:(fU 0).here=true)(auG:(fU 8).here=true){t:Nat}(aW:t≠s)(au4:auF σ t) :
  bh (call J PV (.func 33 [] []) [.ptr t 0,.int .i64 512,.int .i64 2,.int .u8 2] h) λv g=>bX ρ h g/\∃b5 ev,(∀i,i<h.next->ev i=ρ i)/\Good g X c ev b5 (λ_=>0) (λ_=>0)/\b5.free+1=σ.free/\b5.au.map (·.L)=List.replicate m (U3 k)/\∃z,z∈b5.au/\z.s=t/\z.L=U3 k/\∀sh,dD 2 (adm k) true (z.T.ent 8) sh=1:=by
 obtain⟨z,aP,rfl,au3⟩:=au4;obtain⟨x,ag,rfl⟩:=f.own;have ahT:=(f.rows z aP).1;have avf:x≠z:=λe=>aW (by rw[e])
 have an:cv z.L (8:Nat)=some (adm k):=by rw[ahT,auE aL,if_neg (by omega),if_pos ⟨by omega,by omega⟩]
 have ku:mE z.L 8 2:=by rw[ahT];exact(auO aL).2 (by omega) (by omega)
 have aD:(z.T.ent 8).here=true:=((f.rows z aP).2 8).1.trans auG;have lN:=hn.inv.jy aP (gZ aD);have zR:=(k2 lN).1;have au5:dC (x.T.ent 8) (z.T.ent 8):=⟨((f.rows x ag).2 8).1.trans ((f.rows z aP).2 8).1.symm,((f.rows x ag).2 8).2.1.trans ((f.rows z aP).2 8).2.1.symm,((f.rows x ag).2 8).2.2.trans ((f.rows z aP).2 8).2.2.symm⟩;have au_:=iL hn.inv aP aD;have avv:b2 (z.T.ent 8).n.toNat (x.T.ent 8)=true:=by rw[au5.auM];exact au_
 have auQ:(8:Nat) <4096:=by decide
 have hrefs:2<=refs σ (z.T.ent 8).n.toNat:=by
  have h1:=hn.inv.Cc aP aD;refine Classical.byContradiction λaw=> ?_
  obtain⟨a,b,aA⟩:=List.append_of_mem aP;have:=(HL (σ:=σ) (by omega) aA auQ au_).2.1 x 8 (by rw[aA]at ag;exact(fe.1 ag).resolve_left avf) auQ;rw[avv]at this;cases this
 have aC:c_ (dD 2) σ z 8=6:=by
  have e:c_ (dD 2) σ z 8=dD 2 (adm k) true (z.T.ent 8) (my σ (z.T.ent 8)):=by unfold c_;rw[an];rfl
  have qz:c_ (dD 2) σ z 8≠2:=λe=>(JR.1 e) ku
  have xU:my σ (z.T.ent 8)=(refs σ (z.T.ent 8).n.toNat:Int):=by unfold my;rw[if_pos aD];have:=hn.inv.data _ (hn.inv.here z 8 aP aD) (λy aq=>hn.inv.pv aP aD aq);omega
  rw[e]at qz|-;have d:=vM 2;have bc:=d.all (adm k) true (z.T.ent 8) (my σ (z.T.ent 8));have h1:dD 2 (adm k) true (z.T.ent 8) (my σ (z.T.ent 8))≠1:=λe=>by have:=(ac7 e).1;rw[au3 8]at this;cases this
  have al:dD 2 (adm k) true (z.T.ent 8) (my σ (z.T.ent 8))≠3:=λe=>by have:=(d.d3 _ _ _ e).2.1;rw[aD]at this;cases this
  have aE:dD 2 (adm k) true (z.T.ent 8) (my σ (z.T.ent 8))≠4:=λe=>by have:=(d.d4 _ _ _ e).2.1;rw[aD]at this;cases this
  have av8:dD 2 (adm k) true (z.T.ent 8) (my σ (z.T.ent 8))≠5:=λe=>(k2 lN).2 ⟨aD,d.d5 _ _ _ e⟩
  have cr:dD 2 (adm k) true (z.T.ent 8) (my σ (z.T.ent 8))≠7:=λe=>by have:=(d.d7 _ _ _ e).2;rw[xU]at this;omega
  omega
 refine bh.mono (auY hn (by rw[f.map];exact aF) aP (addr:=512) (by decide) 2 (b:=2) (by decide) ku (.inr λcR ki=>by
  rw[show(512/64:Nat)=8 from rfl,an]at ki;obtain rfl:=Option.some.inj ki
  show(2:Int)≠1;decide)) ?_
 rintro v g ⟨w,b5,ev,jY,b_,aH⟩;rw[show(512/64:Nat)=8 from rfl,aC]at aH;refine⟨w,b5,ev,jY,b_,?_⟩;rcases aH with⟨h1,_⟩ |⟨aX,st,o,aG,aT,bJ⟩
 ·cases h1
 obtain⟨cR,ki,oL,a,b,aS,n,iW,wi,he,kh⟩:=o.oL;rw[an]at ki;obtain rfl:=Option.some.inj ki;have ea:st=6:=by have:=o.yA;omega
 subst ea;have ma:je (adm k) 6 (n:Int)=⟨true,true,false,false,n⟩:=by unfold je;rw[if_neg (by decide),if_pos (by decide)];show bj.mk true (n0 6 2) (!(n0 6 2)) false (n:Int)=_;rw[show n0 6 2=true by decide];rfl
 rw[ma]at he;have ahb:b5.au=a++{z with T:=aS}::b:=aG.trans wi;have F':b5.ring=σ.ring:=aT.trans (oL.ring (by decide));have Gs:({z with T:=aS} :bH)∈b5.au:=by rw[ahb];simp
 have nU:aS.ent 8=⟨true,true,false,false,n⟩:=by rw[he,e4]
 have avu:b2 n (aS.ent 8)=true:=by rw[nU];unfold b2;simp
 have avb:refs b5 n=1:=by have:=b_.inv.write _ 8 Gs (show(aS.ent 8).here=true by rw[nU]) (show(aS.ent 8).write=true by rw[nU]);rw[show({z with T:=aS} :bH).T.ent 8=⟨true,true,false,false,n⟩from nU]at this;exact this
 obtain⟨eA,gr,jO⟩:=HL avb ahb auQ (show b2 n (aS.ent 8)=true from avu);have ave:x∈a++b:=by rw[iW]at ag;exact(fe.1 ag).resolve_left avf
 have same:∀q,q≠8->aS.ent q=z.T.ent q:=λq aF=>by rw[he,eE _ _ aF]
 have auK:∀y q,y∈σ.au->b2 n (y.T.ent q)=true->q<4096:=λy q aq ju=>hn.inv.lt aq (gZ (by unfold b2 at ju;rw[Bool.and_eq_true]at ju;exact ju.1))
 have ns:refs σ n=0:=Classical.byContradiction λaw=>by
  rcases(auJ hn.inv).1 aw with⟨y,q,aq,ju⟩ |⟨y,aq,e⟩
  ·have Uq:=auK y q aq ju;rw[iW]at aq;rcases fe.1 aq with rfl|aq
   ·by_cases e:q=8
    ·subst e;have al:=gr x 8 ave auQ;rw[au5.auM,ju]at al;cases al
    ·have al:=eA q Uq e;have aE:b2 n (aS.ent q)=true:=by rw[same q e];exact ju
     rw[show({y with T:=aS} :bH).T.ent q=aS.ent q from rfl,aE]at al;cases al
   ·rw[gr y q aq Uq]at ju;cases ju
  ·exact jO y (by rw[F'];exact aq) e
 have avA:∀e',e'≠n->(refs b5 e'≠0↔refs σ e'≠0):=λe' bc=>by
  rw[auJ b_.inv,auJ hn.inv,F'];refine or_congr ⟨?_,?_⟩ Iff.rfl
  ·rintro⟨y,q,aq,ju⟩;rw[ahb]at aq;rcases fe.1 aq with rfl|aq
   ·have ju:b2 e' (aS.ent q)=true:=ju;by_cases e:q=8
    ·subst e;rw[nU]at ju;unfold b2 at ju;simp at ju;exact absurd ju.symm (by omega)
    ·rw[same q e]at ju;exact⟨z,q,aP,ju⟩
   ·exact⟨y,q,by rw[iW];exact fe.2 (.inr aq),ju⟩
  ·rintro⟨y,q,aq,ju⟩;rw[iW]at aq;rcases fe.1 aq with rfl|aq
   ·by_cases e:q=8
    ·subst e;exact⟨x,8,by rw[ahb];exact fe.2 (.inr ave),by rw[au5.auM];exact ju⟩
    ·exact⟨_,q,Gs,by show b2 e' (aS.ent q)=true;rw[same q e];exact ju⟩
   ·exact⟨y,q,by rw[ahb];exact fe.2 (.inr aq),ju⟩
 have as1:auC c b5=auC c σ+1:=by have:=tW (f:=λa=>decide (refs σ a≠0)) (g:=λa=>decide (refs b5 a≠0)) (p:=n) (n:=c.n) kh (λe' _ bc=>decide_eq_decide.2 (avA e' bc));unfold auC;simp only[ns,avb,ne_eq,not_true_eq_false,decide_false,Bool.toNat_false,Nat.one_ne_zero,not_false_eq_true,decide_true,Bool.toNat_true]at this;omega
 have auR:∀y,y∈b5.au->y.L=U3 k/\(y.T.ent 0).here=true/\(y.T.ent 8).here=true:=λy aq=>by
  have old:∀y,y∈σ.au->y.L=U3 k/\(y.T.ent 0).here=true/\(y.T.ent 8).here=true:=λy aq=>⟨(f.rows y aq).1,((f.rows y aq).2 0).1.trans auL,((f.rows y aq).2 8).1.trans auG⟩
  rw[ahb]at aq;rcases fe.1 aq with rfl|aq
  ·exact⟨ahT,by show(aS.ent 0).here=true;rw[same 0 (by decide)];exact(old z aP).2.1,by show(aS.ent 8).here=true;rw[nU]⟩
  ·exact old y (by rw[iW];exact fe.2 (.inr aq))
 have hlen:b5.au.length=m:=by rw[<-f.len,ahb,iW];simp
 have dR:=au1 hn.inv λy aq=>au0 hn.inv e1 aL aq (f.rows y aq).1 (((f.rows y aq).2 0).1.trans auL) (((f.rows y aq).2 8).1.trans auG)
 have eN:=au1 b_.inv λy aq=>au0 b_.inv e1 aL aq (auR y aq).1 (auR y aq).2.1 (auR y aq).2.2
 rw[f.len]at dR;rw[hlen]at eN;refine⟨by omega,List.eq_replicate_iff.2 ⟨by rw[List.length_map];exact hlen,λl ay=>by obtain⟨y,aq,rfl⟩:=List.mem_map.1 ay;exact(auR y aq).1⟩,_,Gs,rfl,ahT,λsh=> ?_⟩;have ab:dD 2 (adm k) true (z.T.ent 8) (my σ (z.T.ent 8))≠2:=λe=>by
  have:c_ (dD 2) σ z 8=2:=by unfold c_;rw[an];exact e
  rw[aC]at this;cases this
 rcases SG (m:=(n:Int)) (sh:=sh) ab (.inr (.inr (.inr (.inl rfl))) :(6:Int)=3\/(6:Int)=4\/(6:Int)=5\/(6:Int)=6\/(6:Int)=7)with h|⟨h,_⟩
 ·rw[ma]at h;show dD 2 (adm k) true (aS.ent 8) sh=1;rw[nU];exact h
 ·cases h
theorem avX(hn:Good h X c ρ σ (λ_=>0) (λ_=>0))(aF:Quiet c (List.replicate m (U3 k)))(hm:σ.au.map (·.L)=List.replicate m (U3 k))(avt:1<=k)(aL:k<=5){z:bH}(aP:z∈σ.au)(ahT:z.L=U3 k)(aC:∀sh,dD 2 (adm k) true (z.T.ent 8) sh=1) :
  bh (call J PV (.func 33 [] []) [.ptr z.s 0,.int .i64 513,.int .i64 2,.int .u8 3] h) λv g=>bX ρ h g/\∃b5 ev,Good g X c ev b5 (λ_=>0) (λ_=>0)/\b5.free=σ.free:=by
 have an:cv z.L (8:Nat)=some (adm k):=by rw[ahT,auE aL,if_neg (by omega),if_pos ⟨by omega,by omega⟩]
 have ku:mE z.L 8 2:=by rw[ahT];exact(auO aL).2 (by omega) (by omega)
 refine bh.mono (auY hn (by rw[hm];exact aF) aP (addr:=513) (by decide) 2 (b:=3) (by decide) ku (.inr λcR ki=>by
  rw[show(513/64:Nat)=8 from rfl,an]at ki;obtain rfl:=Option.some.inj ki
  show(2:Int)≠1;decide)) ?_
 rintro v g ⟨w,b5,ev,jY,b_,aH⟩;rw[show(513/64:Nat)=8 from rfl]at aH;have e:c_ (dD 2) σ z 8=1:=by unfold c_;rw[an];exact aC _
 rw[e]at aH;refine⟨w,b5,ev,b_,?_⟩;rcases aH with⟨_,_,_,h⟩ |⟨aX,st,o,_⟩
 ·exact h
 ·have:=o.auZ;omega
end
def avq(cb:List fW) :Nat×Bool:=(rq cb,(List.range 5).all λp=>(fileAt cb (λ_=>0) 0 (p:Nat)).isSome)
theorem avN:(yg (Dr hA 1000 8)).map (λq=>(q.2.2.2.A.n,q.2.2.2.R.c1,avq q.2.2.2.F.cb))=some (1000,8,(7,true)):=by kernel_rfl
theorem avp{cb:List fW}{sec:Nat->Nat}{f p:Int}(h:(fileAt cb (λ_=>0) f p).isSome=true) :fileAt cb sec f p≠none:=by
 intro e;unfold fileAt at h e;by_cases c:f<0
 ·rw[if_pos c]at h;cases h
 rw[if_neg c]at h e;cases ag:cb[f.toNat]? with
 |none=>rw[ag]at h;cases h
 |some n=>
  rw[ag]at h e;simp only at h e;by_cases cp:p<0\/(((n.size+63) /64:Nat) :Int)<=p
  ·rw[if_pos cp]at h;cases h
  rw[if_neg cp]at h e;cases ay:loc n.ext p.toNat with
  |none=>rw[ay]at h;cases h
  |some s=>rw[ay]at e;cases e
theorem avU(many fx:Int) :∃g,call J hA (.func 8 [] []) [.int .i64 many,.int .i64 fx] dB=some (.bool true,g):=by
 have key:bh (call J hA (.func 8 [] []) [.int .i64 many,.int .i64 fx] dB) λv g=>v=.bool true:=by
  refine bh.mk (λe=>avM (first:=[]) (cap:=[]) e rfl) ?_;unfold au6;obtain⟨g1,X,c,ρ,σ,b,cb,m,fX⟩:=Ms avN;obtain⟨sec,xI⟩:=m.vU;have gX:rq cb=7:=congrArg Prod.fst fX;have iC:((List.range 5).all λp=>(fileAt cb (λ_=>0) 0 (p:Nat)).isSome)=true:=congrArg Prod.snd fX;have qv:∀p:Nat,p<5->c.iU 0 (p:Nat)≠none:=λp aI=>by rw[xI];exact avp (List.all_eq_true.1 iC p (List.mem_range.2 aI))
  obtain⟨n,aw,J6⟩:=I' many (m:=7) (by decide);have J6:jb .i64 many 7=(n:Int):=J6;obtain⟨K,av9,avl⟩:=Hv fx (b:=5) (by decide) (by decide);obtain⟨k,rfl⟩ :∃k,k=K+1:=⟨_,rfl⟩;have ub:b0 .i64 (1+(K:Int))=((K+1:Nat) :Int):=by rw[wrap_i64 (by omega) (by omega)];omega
  have avm:b0 .i64 (1+(n:Int))=((n+1:Nat) :Int):=by rw[wrap_i64 (by omega) (by omega)];omega
  generalize av:K+1=k at ub;have jI:1<=k:=by omega
  have auH:k<=5:=by omega
  obtain⟨avP,avQ,avB,af7,iG⟩:=avO jI auH
  have aF:∀m,m<=10->Quiet c (List.replicate m (U3 k)):=λj aO=>quiet_of m.loose xI (by
   have:u2 (List.replicate j (U3 k))=j*(om (U3 k) +mu (U3 k)):=by
    unfold u2 mz;rw[List.map_replicate];clear aO;induction j with
    |zero=>simp
    |succ j b1=>rw[List.replicate_succ,List.sum_cons,b1,Nat.succ_mul];omega
   rw[this,gX,m.n];have:j*(om (U3 k) +mu (U3 k))<=10*17:=Nat.mul_le_mul aO iG
   omega)
  have fU:¬((0:Int)≠0):=by decide
  rw[H4];simp-implicitDefEqProofs only[c3];rw[Hz m.cQ];simp-implicitDefEqProofs only[c3,adO,ar,p4,ba,Bool.false_eq_true,if_false,xd,J6,du,avm,tR .i64 (show(5:Int)≠0 by decide),avl,ub];refine b4 (Dx m.nm (by rw[m.free];decide)) ?_;rintro _ g2 ⟨dT,s,t,f,ev,rfl,wi,oV,b_,pH⟩;have qD:view c σ=[]:=by unfold view;rw[m.au];rfl
  rw[qD,List.nil_append]at pH;simp-implicitDefEqProofs only[adO,ar,dP,decide_eq_false fU,cP,if_true,avi];refine fO (P:=λy vs g=>vs=[.bool false]/\∃fG qe,Good g X c qe fG (λ_=>0) (λ_=>0)/\view c fG=[(s,[anK k],lW c (anK k))]/\fG.ring=[]/\∀y,y∈fG.au->y.s=s->∀p,y.T.ent p=.zero) ?_ ?_
  ·refine b4 (GU (a:=[]) (b:=[]) (f:=λ_=>none) (r:=anK k) b_ m.loose pH avP) ?_;rintro _ g4 ⟨rfl,fq,eU,oB,zW,c7,kz,_,F_,_,ahS⟩;simp-implicitDefEqProofs only[dP,decide_eq_false fU,ar];exact aV.pure ⟨rfl,eU,oB,c7,kz,F_.trans m.ring,ahS⟩
  rintro _ _ g3 ⟨rfl,fG,qe,b3,oc,avE,avI⟩;have nU:b0 .i64 (8+(k:Int))=((8+k:Nat) :Int):=by rw[wrap_i64 (by omega) (by omega)];omega
  simp-implicitDefEqProofs only[bz,bp,cF,Bool.false_eq_true,if_false,ar,cP,if_true,du,nU];refine fO (P:=λy vs g=>vs=[.bool false]/\∃fG qe,Good g X c qe fG (λ_=>0) (λ_=>0)/\auD k s fG 0 0) ?_ ?_
  ·refine b4 (PB g3 8 ((8+k:Nat) :Int) 6) ?_;rintro _ g4 ⟨rfl,bO⟩;have ay:fG.au.length=1:=by have:=congrArg List.length oc;unfold view at this;simpa using this
   obtain⟨x,ag⟩:=List.length_eq_one_iff.1 ay;have auT:=oc;unfold view at auT;rw[ag]at auT;simp only[List.map_cons,List.map_nil,List.cons.injEq,Prod.mk.injEq,and_true]at auT;obtain⟨rfl,rR,_⟩:=auT;refine b4 (GS (a:=[]) (b:=[]) (b3.ext bO) m.loose ag (adm k)) ?_;rintro v g5 ⟨gf,⟨hk,_⟩ |⟨_,⟨y,aq,rS⟩,_⟩ |⟨_,_,rfl,PF,_,dQ⟩⟩
   ·rw[avQ]at hk;cases hk
   ·rw[rR,List.mem_singleton]at aq;rw[aq,avB]at rS;cases rS
   ·simp-implicitDefEqProofs only[dP,decide_eq_false fU,ar];refine aV.pure ⟨rfl,_,PF,dQ,⟨⟨_,rfl,rfl,by show(iK (adm k) x.L).foldl e9 []=_;rw[rR];exact af7,λi af=>absurd af (by omega),λi _=>avI x (by rw[ag];simp) rfl i⟩,?_⟩⟩;show lv fG.ring=_;rw[avE];rfl
  rintro _ _ g5 ⟨rfl,k_,PF,dQ,Yg⟩;simp-implicitDefEqProofs only[bz,bp,cF,Bool.false_eq_true,if_false,ar,ba]
  refine hX (n:=14) (I:=λi vs g=>vs=[.int .i64 (i:Nat)]/\∃σ ρ,Good g X c ρ σ (λ_=>0) (λ_=>0)/\auD k s σ i i) (m:=k)
   (P:=λy vs g=>y=.exit 0/\(∃z,vs=[z])/\∃σ ρ,Good g X c ρ σ (λ_=>0) (λ_=>0)/\auD k s σ k k) (by omega) ⟨rfl,k_,PF,dQ,Yg⟩ ?_ ?_
  ·rintro i _ h1 af ⟨rfl,aX,dy,bk,p3⟩;simp-implicitDefEqProofs only[bz,bp,dk,ar,ba];by_cases bo:i<k
   ·rw[if_pos (by simpa using(by omega:(i:Int) <(k:Int)))];have aG:b0 .i64 (64*(i:Int))=((64*i:Nat) :Int):=by rw[wrap_i64 (by omega) (by omega)];omega
    have aT:b0 .i64 (8+(i:Int))=((8+i:Nat) :Int):=by rw[wrap_i64 (by omega) (by omega)];omega
    have bJ:b0 .i64 (64*((8+i:Nat) :Int))=((64*(8+i) :Nat) :Int):=by rw[wrap_i64 (by omega) (by omega)];omega
    have e0:b0 .i64 ((i:Int) +1)=((i+1:Nat) :Int):=by rw[wrap_i64 (by omega) (by omega)];omega
    simp-implicitDefEqProofs only[nh,aG,ar];refine b4 (avY bk (aF 1 (by decide)) auH bo (qv i (by omega)) p3) ?_;rintro v2 g3 ⟨eJ,eU,oB,_,c7,AX⟩;simp-implicitDefEqProofs only[du,aT,ar,nh,bJ];refine b4 (av0 c7 (aF 1 (by decide)) auH bo AX (b:=1) (by decide)) ?_;rintro v3 g6 ⟨gS,vu,Bo,_,eL,auX⟩;simp-implicitDefEqProofs only[e0,ar];exact aV.pure (.inl ⟨rfl,bo,rfl,vu,Bo,eL,auX (by omega)⟩)
   ·rw[if_neg (by simpa using(by omega:(k:Int)<=(i:Int)))];obtain rfl:i=k:=by omega
    exact aV.pure (.inr ⟨by simp,rfl,⟨_,rfl⟩,aX,dy,bk,p3⟩)
  rintro _ _ g6 ⟨rfl,⟨z,rfl⟩,vu,Bo,eL,auX⟩;obtain⟨gz,LI,ahB,Gn,avd,awb⟩:=auX.one;have F':vu.ring.length=k:=by have:=congrArg List.length auX.keys;unfold lv at this;simpa using this
  have avH:gz∈vu.au:=by rw[LI];simp
  have auL:(gz.T.ent 0).here=true:=avd 0 (by omega);have auG:(gz.T.ent 8).here=true:=avd 8 (by omega)
  have f6:auk k s 1 gz.T.ent vu.ring vu:=⟨by rw[LI];rfl,λy aq=>by
   obtain rfl:y=gz:=by rw[LI]at aq;simpa using aq
   exact⟨Gn,λq=>dC.refl _⟩,⟨gz,avH,ahB⟩,rfl⟩
  have ava:∀{g:ae} {ρ:Nat->Nat} {σ:b8},Good g X c ρ σ (λ_=>0) (λ_=>0)->σ.ring=vu.ring->call J hA (.func 42 [] []) [.ptr X.M 0] g=some (.int .i64 (k:Nat),g):=λ{g ρ σ} auI an=>by have:=ak8 (PV:=hA) auI.sys;rw[an,F']at this;exact this
  have au8:¬(((k:Nat) :Int)≠(k:Nat)):=by simp
  simp-implicitDefEqProofs only[bz,bp,hs,if_true,ava eL rfl,c3,dP,decide_eq_false au8,ar,ba,Bool.false_eq_true,if_false,C6 eL.sys]
  refine hX (n:=14) (I:=λi vs g=>∃v fs,vs=[.bool false,v,.int .i64 (i:Nat)]/\∃σ ρ,Good g X c ρ σ (λ_=>0) (λ_=>0)/\auk k s (i+1) gz.T.ent vu.ring σ/\gg g 1 v (pY fs)/\oO v=true/\fs.length=i/\(∀b,cI v=some b->ρ b=0/\b<g.next)/\∀t,fs[0]? =some t->t≠s/\auF σ t) (m:=n+1)
   (P:=λy vs g=>y=.exit 2/\∃v z fs,vs=[.bool false,v,z]/\∃σ ρ,Good g X c ρ σ (λ_=>0) (λ_=>0)/\auk k s (n+2) gz.T.ent vu.ring σ/\gg g 1 v (pY fs)/\fs.length=n+1/\(∀b,cI v=some b->ρ b=0/\b<g.next)/\∀t,fs[0]? =some t->t≠s/\auF σ t) (by omega) ⟨.bI,[],rfl,vu,Bo,eL,f6,gg.nil _ _,rfl,rfl,(λb aj=>by cases aj),(λt aW=>by cases aW)⟩ ?_ ?_
  ·rintro i _ h1 af ⟨v,fs,rfl,aX,dy,bk,f1,cS,hex,hlen,jG,auS⟩;simp-implicitDefEqProofs only[bz,bp,dk,ar,ba];by_cases bo:i<n+1
   ·rw[if_pos (by simpa using(by omega:(i:Int) <((n+1:Nat) :Int)))];have e0:b0 .i64 ((i:Int) +1)=((i+1:Nat) :Int):=by rw[wrap_i64 (by omega) (by omega)];omega
    refine b4 (avr bk m.loose aF (by omega) f1) ?_;rintro _ g7 ⟨jn,aY,q',vt,rfl,jY,j0,f7,c',mj,qz⟩;simp-implicitDefEqProofs only[adO,ar,dP,decide_eq_false fU,ba,Bool.false_eq_true,if_false];have auV:=cS.az jn (λb aj=>by have:=(jG b aj).1;omega);refine cM (ab4 aY) λg8 iM n8 u8=> ?_
    obtain⟨Bm,g9,kT,auW,avz,gy,⟨asz,afb,avw,avx⟩,_⟩:=(auV.ext u8).push (T:=75) (si:=q5) (ie:=p7) (by kernel_rfl) rfl (by kernel_rfl) rfl (by decide) hex (xid:=g7.next) (xcap:=1) (xex:=true) (new:=[.ptr aY 0]) iM rfl rfl (by
     rw[wH,hlen];show roomy (i+1) 8=true;unfold roomy;rw[Bool.and_eq_true,ec,ec]
     omega)
    have kT:h2 J g8 75 75 v (.slice g7.next 0 1 1 1 true)=some (Bm,g9):=kT;rw[kT];simp-implicitDefEqProofs only[c3,du,e0,ar];have au':∀b,cI v=some b->vt b=0/\b<g7.next:=λb aj=>⟨by rw[jY b (jG b aj).2];exact(jG b aj).1,Nat.lt_of_lt_of_le (jG b aj).2 jn.next⟩
    have pL:Good g9 X c vt q' (λ_=>0) (λ_=>0):=⟨(j0.ext u8).sys.c0 gy (λi af _=>(au' i af).1),j0.inv,j0.ef,j0.sec,j0.iN⟩;refine aV.pure (.inl ⟨rfl,bo,Bm,fs++[aY],rfl,q',vt,pL,f7,(by have auW:gg g9 1 Bm (pY fs++[[.ptr aY 0]]):=auW;unfold pY at auW|-;simpa [List.map_append,one]using auW),avz,by simp[hlen],λb aj=> ?_,λt aW=> ?_⟩)
    ·rw[afb]at aj;cases aj;refine⟨?_,avw⟩;rcases avx with h|h
     ·exact(au' _ h).1
     ·exact j0.fresh (by have:=u8.next;omega)
    ·by_cases oN:i=0
     ·have:fs=[]:=List.length_eq_zero_iff.1 (by omega);subst this;have:aY=t:=by simpa using aW
      subst this;exact⟨c',mj⟩
     ·have:fs[0]? =some t:=by rw[List.getElem?_append_left (by omega)]at aW;exact aW
      obtain⟨ao,a2⟩:=auS t this;exact⟨ao,qz t ao a2⟩
   ·rw[if_neg (by simpa using(by omega:((n+1:Nat) :Int)<=(i:Int)))];obtain rfl:i=n+1:=by omega
    exact aV.pure (.inr ⟨by simp,rfl,v,_,fs,rfl,aX,dy,bk,f1,cS,hlen,jG,auS⟩)
  rintro _ _ g7 ⟨rfl,v,z,fs,rfl,q',vt,j0,f7,auV,hlen,jG,auS⟩;obtain⟨t,aW⟩ :∃t,fs[0]? =some t:=by
   cases fs with
   |nil=>simp at hlen
   |cons t l=>exact⟨t,rfl⟩
  obtain⟨oY,au4⟩:=auS t aW;have au9:∀{g:ae} {ρ:Nat->Nat} {σ:b8} {fB:Nat},Good g X c ρ σ (λ_=>0) (λ_=>0)->auk k s fB gz.T.ent vu.ring σ->σ.free+5*fB+auC c σ=c.n:=λ{g ρ σ fB} auI auP=>by
   have:=au1 auI.inv λy aq=>au0 auI.inv m.loose auH aq (auP.rows y aq).1 (((auP.rows y aq).2 0).1.trans auL) (((auP.rows y aq).2 8).1.trans auG)
   rw[auP.len]at this;exact this
  have n6:=au9 eL f6;have n7:=au9 j0 f7;rw[f6.avR eL.inv f7 j0.inv]at n7;have fw:vu.free=q'.free+5*(n+1):=by omega
  have es:b0 .i64 ((vu.free:Int) -(q'.free:Int))=((5*(n+1) :Nat) :Int):=by rw[wrap_i64 (by omega) (by omega)];omega
  have avo:b0 .i64 (((5*(n+1) :Nat) :Int).tdiv ((n+1:Nat) :Int))=5:=by have:((5*(n+1) :Nat) :Int).tdiv ((n+1:Nat) :Int)=((5*(n+1) /(n+1) :Nat) :Int):=rfl;rw[this,Nat.mul_div_cancel _ (Nat.succ_pos n),wrap_i64 (by omega) (by omega)];rfl
  have ns:((n+1:Nat) :Int)≠0:=by omega
  have avh:∀{g:ae},gg g 1 v (pY fs)->∃b cap ex,v=.slice b 0 (n+1) cap 1 ex/\bP g b 0=some (.ptr t 0):=λ{g} r=>by obtain⟨b,cap,ex,l,ai,_,_,_,_,_,hE⟩:=r.at (i:=0) (x:=[.ptr t 0]) (ang aW);rw[wH,hlen]at ai;exact⟨b,cap,ex,ai,by have:=hE 0 (by decide);simpa using this⟩
  obtain⟨aui,av2,av3,ahv,avC⟩:=avh auV;have avs:(0:Nat) <n+1:=Nat.succ_pos n;have avV:cZ J 75 v (.int .i64 0)=some (.ptr aui 0):=by rw[ahv];have:=DL (id:=aui) (off:=0) (cap:=av2) (ex:=av3) avs;rw[show(aa.int .i64 0)=.int .i64 ((0:Nat) :Int)from rfl,this]
  have d5:¬(5:Int) <5:=by decide
  simp-implicitDefEqProofs only[bz,bp,hs,if_true,C6 j0.sys,c3,fT,es,ar,vF .i64 ns,avo,iT,decide_eq_false d5,cP,ava j0 f7.ring,dP,decide_eq_false au8,c4,cF,Bool.false_eq_true,if_false,ba,avV,tA,avC];refine b4 (avZ j0 m.loose (aF (n+2) (by omega)) jI auH f7 auL auG oY au4) ?_;rintro v64 g8 ⟨hL,PG,asj,awa,pK,av_,avF,awe,avJ,rfl,avK,avy⟩;have avT:=auV.az hL (λb aj=>by have:=(jG b aj).1;omega);obtain⟨av1,awc,awd,avc,avD⟩:=avh avT;have avG:av1=aui:=by rw[ahv]at avc;injection avc with h;exact h.symm
  subst avG;have qo:b0 .i64 ((q'.free:Int) -1)=(PG.free:Int):=by rw[wrap_i64 (by omega) (by have:=j0.zy;have:=j0.n;omega)];omega
  simp-implicitDefEqProofs only[C6 pK.sys,c3,qo,dn,decide_true,ar,avD];refine b4 (avX pK (aF (n+2) (by omega)) avF jI auH avJ avK avy) ?_;rintro v70 g9 ⟨iz,Iy,asl,pL,TT⟩;simp-implicitDefEqProofs only[cP,if_true,c4,bz,bp,cF,ar,C6 pL.sys,c3,TT,dn,decide_true];refine fO (P:=λy vs g=>vs=[.bool true]) (b4 (AO pL) λv g ai=>aV.pure (by rw[ai.1])) ?_;rintro _ _ g10 rfl;simp-implicitDefEqProofs only[bz,bp,cF,if_true,ar];exact aV.pure rfl
 obtain⟨v,g,e,rfl⟩:=key;exact⟨g,e⟩
end Go.Proofs.YtkdjcmpgnkecfaaGreatDoor
end
