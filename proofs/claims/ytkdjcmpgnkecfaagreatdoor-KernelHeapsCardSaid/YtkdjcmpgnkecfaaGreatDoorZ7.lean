/-
  Texts W11 W12 W13 W14 W17 W18 W5 W6 W7 D6 W16 W9 W19 Q0 W20 W21 W22 W23 W24 W25 W26 W27 W28 W29 W15 W30 W31 W32 W33 W34 W35, joined; own names made short.
-/
import Derived.Test.YtkdjcmpgnkecfaaGreatDoorZ6
set_option linter.unusedVariables false
set_option linter.unusedSimpArgs false
set_option linter.unusedSectionVars false
set_option exponentiation.threshold 600
noncomputable section
namespace Go.Proofs.YtkdjcmpgnkecfaaGreatDoor
open Go.a6
section
variable{PV:cw} [db PV]
def jd(h:ag)(v:J)(L:List aH) :Prop:=(v=.bh/\L=[])\/∃b cap ex,v=.slice b 0 L.length cap 6 ex/\L.length<=cap/\b<h.next/\a6.Obj h b (L.map aH.vs).flatten
theorem jd.aq{h g:ag}{v:J}{L:List aH}(r:jd h v L){S:Nat->Prop}(u:aF S h g)(au:∀b cap ex,v=.slice b 0 L.length cap 6 ex->¬S b) :jd g v L:=by
 rcases r with h1|⟨b,cap,ex,h1,aa,av,aO⟩
 ·exact .inl h1
 ·exact .inr ⟨b,cap,ex,h1,aa,Nat.lt_of_lt_of_le av u.next,aO.aq u av (au b cap ex h1)⟩
theorem jd.ext{h g:ag}{v:J}{L:List aH}(r:jd h v L)(u:aX h g) :jd g v L:=r.aq u λ_ _ _ _ e=>e
theorem jd.nil(h:ag) :jd h .bh []:=.inl ⟨rfl,rfl⟩
theorem EW(L:List aH) :∀r,r∈L.map aH.vs->r.length=6:=by intro r ah;obtain⟨x,_,rfl⟩:=List.mem_map.1 ah;rfl
theorem jd.len{h:ag}{v:J}{L:List aH}(r:jd h v L) :eW ai h 126 v=some (.int .i64 (L.length:Nat)):=by
 rcases r with⟨rfl,rfl⟩ |⟨b,cap,ex,rfl,_⟩
 ·exact Sp h
 ·exact Sn h _ _ _ _ _ _
theorem jd.get{h:ag}{v:J}{L:List aH}(r:jd h v L){i:Nat}{x:aH}(U:L[i]? =some x) :∃b,eV ai 126 v (.int .i64 (i:Nat))=some (.ptr b (0+i*6))/\b<h.next/\dJ ai h 47 (.ptr b (0+i*6))=some (.agg x.vs):=by
 obtain⟨bK,_⟩:=List.getElem?_eq_some_iff.1 U;rcases r with⟨rfl,rfl⟩ |⟨b,cap,ex,rfl,_,af,o⟩
 ·simp at bK
 ·have ar:(L.map aH.vs).flatten.length=L.length*6:=by rw[rM (EW L),List.length_map]
  refine⟨b,Sf bK,af,?_⟩;rw[i' o (by rw[ar];omega),Nat.zero_add];rw[Cf (EW L) (show(L.map aH.vs)[i]? =some x.vs by simp[U])]
def ch:J->Option Nat
 | .slice id _ _ _ _ _=>some id
 |_=>none
def oA(h:ag)(box lo:Nat)(v:J)(out:List aH) :Prop:=a6.Obj h box [v]/\Row h 6 lo v (out.map aH.vs)
theorem oA.ext{h g:ag}{box lo:Nat}{v:J}{out:List aH}(o:oA h box lo v out)(u:aX h g)(af:box<h.next) :oA g box lo v out:=⟨o.1.ext u af,o.2.ext u⟩
theorem oA.jY{h:ag}{box lo:Nat}{v:J}{out:List aH}(o:oA h box lo v out){i:Nat}(U:ch v=some i) :lo<=i/\i<h.next:=by
 rcases o.2.2 with⟨rfl,_⟩ |⟨b,rfl,aa,av,_⟩
 ·cases U
 ·have:b=i:=Option.some.inj U;omega
theorem Wk(r:aH) :gY ai 126 1 [(0,.agg r.vs)]=some (λid=>J.slice id 0 1 1 6 true,.cells r.vs.length false [] (bj.ofList r.vs)):=by
 have k:∀a b c d e f:J,gY ai 126 1 [(0,.agg [a,b,c,d,e,f])]=some (λid=>J.slice id 0 1 1 6 true,.cells 6 false [] (bj.ofList [a,b,c,d,e,f])):=λa b c d e f=>by kernel_rfl
 exact k _ _ _ _ _ _
theorem ag0{h:ag}{lo:Nat}{v:J}{rows:List (List J)}(r:Row h 6 lo v rows){xid xcap:Nat}{xex:Bool}{new:List J}(et:a6.Obj h xid new)(iS:new.length=6)(au:new.all dT=true)(ah:rows.length<=2^30)(eU:lo<=h.next) :
  ∃w g,fJ ai h 126 126 v (.slice xid 0 1 xcap 6 xex)=some (w,g)/\(Row g 6 lo w (rows++[new])/\aF (λi=>ch v=some i) h g/\g.next=h.next+1/\ch w=some h.next):=by
 have iB:∀n,n<=2^30+1->roomy n 48=true:=λn al=>by unfold roomy;rw[Bool.and_eq_true,dr,dr];omega
 have ab:jM h xid 0 ((0+1) *6)=some new:=by have:=et.here;rw[iS]at this;simpa using this
 rcases r.2 with⟨rfl,rfl⟩ |⟨b,rfl,aa,av,o⟩
 ·obtain⟨g,g1,g2,g3,g4⟩:=BE (E:=ai) (T:=126) (si:=wk) (ie:=A9) (by kernel_rfl) rfl (by kernel_rfl) rfl (by decide) (n:=0) (xcap:=xcap) (xex:=xex) ab (by rw[iS];rfl) (iB _ (by omega));exact⟨_,g,g1,⟨by simpa using iS,.inr ⟨h.next,rfl,eU,by omega,by simpa using g2⟩⟩,g3.mono λ_ _ e=>e.elim,g4,rfl⟩
 ·obtain⟨g,g1,g2,g3,g4⟩:=Fp (E:=ai) (T:=126) (si:=wk) (ie:=A9) (by kernel_rfl) rfl (by kernel_rfl) rfl (by decide) (n:=0) (xcap:=xcap) (xex:=xex) (len:=rows.length) o (rM r.1) ab (by rw[iS];rfl) au (iB _ (by omega));refine⟨_,g,g1,⟨?_,.inr ⟨h.next,by simp;rfl,eU,by omega,by simpa using g2⟩⟩,g3.mono λi _ e=>by subst e;rfl,g4,rfl⟩;intro y an;rcases List.mem_append.1 an with an|an
  ·exact r.1 y an
  ·rw[List.mem_singleton]at an;subst an;exact iS
theorem Q_{h:ag}{sz lo:Nat}{v:J}{rows:List (List J)}(r:Row h sz lo v rows) :v.cells=[v]/\dT v=true:=by rcases r.2 with⟨rfl,_⟩ |⟨b,rfl,_⟩<;>exact⟨rfl,rfl⟩
theorem OT{h:ag}{lo:Nat}{v:J}{bL:List aH}{a:aH}(r:Row h 6 lo v ((bL++[a]).map aH.vs))(e:Int) :
  ∃b,ch v=some b/\eV ai 126 v (.int .i64 (bL.length:Nat))=some (.ptr b (bL.length*6))/\lo<=b/\b<h.next/\dJ ai h 47 (.ptr b (bL.length*6))=some (.agg a.vs)/\
   ∃g,dU ai h 3 (.ptr b (bL.length*6+1)) (.int .i64 e)=some g/\(Row g 6 lo v ((bL++[{a with U:=e}]).map aH.vs)/\aF (λi=>i=b) h g/\g.next=h.next):=by
 obtain⟨b,ae,aa,av,o,bK,hle,ab⟩:=r.at (i:=bL.length) (x:=a.vs) (by simp);have lr:((bL++[a]).map aH.vs).flatten=(bL.map aH.vs).flatten++a.vs:=by simp
 have Z6:((bL++[{a with U:=e}]).map aH.vs).flatten=(bL.map aH.vs).flatten++({a with U:=e} :aH).vs:=by simp
 have Nf:(bL.map aH.vs).flatten.length=bL.length*6:=by rw[rM (EW bL),List.length_map]
 have en:((bL++[a]).map aH.vs).flatten.length=bL.length*6+6:=by rw[lr,List.length_append,Nf];rfl
 refine⟨b,by rw[ae];rfl,by rw[ae];have:=Sf (id:=b) (off:=0) (cap:=((bL++[a]).map aH.vs).length) (ex:=false) bK;rwa[Nat.zero_add]at this,aa,av,by rw[i' o (by omega)];rw[ab],?_⟩;obtain⟨g,aw,bU,aW,dF⟩:=kC (k:=bL.length*6+1) (v:=.int .i64 e) o (by omega) rfl rfl;refine⟨g,aw,⟨EW _,.inr ⟨b,by rw[ae];simp,aa,by omega,?_⟩⟩,aW,dF⟩;rw[lr,<-Nf,List.set_append_right _ _ (by omega),show(bL.map aH.vs).flatten.length+1-(bL.map aH.vs).flatten.length=1 by omega]at bU;rw[Z6];exact bU
theorem ah0{h:ag}{box lo:Nat}{v:J}{out:List aH}(o:oA h box lo v out)(alT:box<lo)(eU:lo<=h.next){r:aH}(ah:mS r)(aY:∀x,x∈out->mS x)(hlen:out.length<=2^29) :
  bN (call ai PV (.func 242 [] [.ptr box 0]) [.agg r.vs] h) λw g=>w=.undef/\∃df,oA g box lo df (c6 out r)/\aF (λi=>i=box\/ch v=some i) h g/\(ch df=ch v\/∃i,ch df=some i/\h.next<=i):=by
 have GM:=λi U=>(oA.jY o (i:=i) U).1
 obtain⟨bP,AJ⟩:=o;refine cF adQ rfl ?_;refine b1 (o_ (cs:=r.vs) rfl) λg1 bU dF aW=> ?_
 have sv:=bP.ext aW (by omega);have Jw:=AJ.ext aW;have ar:eW ai g1 126 v=some (.int .i64 (out.length:Nat)):=by have:=Jw.len (E:=ai) (T:=126) (si:=wk) (by kernel_rfl) rfl;simpa using this
 simp only[sS,Obj.get sv (i:=0) rfl,ak,ar,uw,sR,Nat.zero_add,b6,Obj.get bU (i:=0) rfl,Obj.get bU (i:=1) rfl,fk,a1,decide_eq_true_eq];by_cases c:r.U<=r.lo
 ·rw[if_pos c];exact aJ.pure ⟨rfl,by rw[Q' out c];exact⟨v,⟨sv,Jw⟩,aF.ext aW,.inl rfl⟩⟩
 ·rw[if_neg c];have bC:aX g1 (g1.aV 12):=aF.aV _ _ _;have IF:(g1.aV 12).next=g1.next+12:=rfl
  have Am:=bU.ext bC (by omega);have P3:=sv.ext bC (by omega);have Jx:=Jw.ext bC
  have app:∀g:ag,aX (g1.aV 12) g->aJ (cd (dJ ai g 126 (.ptr box 0)) λv23=>cd (dJ ai g 47 (.ptr h.next 0)) λv24=>gy (gY ai 126 1 [(0,v24)]) g λv25 aO=>eM (fJ ai aO 126 126 v23 v25) λv26 bb=>cd (dU ai bb 126 (.ptr box 0) v26) λcp=>some (.ret,[],cp))
    λ_ vs bH=>iY vs=.undef/\∃df,oA bH box lo df (out++[r])/\aF (λi=>i=box\/ch v=some i) h bH/\(ch df=ch v\/∃i,ch df=some i/\h.next<=i):=λg ja=>by
   have aE:=ja.next;have IU:=Am.ext ja (by omega);have P5:=P3.ext ja (by omega);have ah5:=Jx.ext ja;rw[sS,Obj.get P5 (i:=0) rfl,ak,i' IU (by simp[aH.vs])];rw[ak,show(List.drop 0 r.vs).take 6=r.vs by rfl];refine b1 (Wk r) λg4 c5 gb bA=> ?_
   obtain⟨w,g5,e6,gS,bZ,n5,kM⟩:=ag0 (xcap:=1) (xex:=true) (ah5.ext bA) c5 rfl rfl (by simp;omega) (by omega);refine bS (P:=λv g=>v=w/\g=g5) ⟨w,g5,e6,rfl,rfl⟩ ?_;rintro aM YP ⟨Gf,F_⟩;rw[Gf,F_];have af7:=(P5.ext bA (by omega)).aq bZ (by omega) (λe=>by have:=GM _ e;omega);refine cb (Km af7 (by simp) (Q_ gS).1 (Q_ gS).2) λg6 ⟨di,b3,n6⟩=> ?_
   have hu:=bA.next;refine aJ.pure ⟨rfl,w,⟨di,?_⟩,?_,.inr ⟨_,kM,by omega⟩⟩
   ·have:=gS.aq b3 (λi a b e=>by omega);simpa using this
   ·exact(aF.ext (((aW.trans bC).trans ja).trans bA)).trans ((bZ.mono λi _ e=>.inr e).trans (b3.mono λi _ e=>.inl e))
  rcases List.eq_nil_or_concat out with rfl|⟨bL,a,rfl⟩
  ·have aw:c6 [] r=[]++[r]:=AI (by omega) (by simp);simp only[List.length_nil,hO,ak];rw[show decide ((0:Int) <((0:Nat) :Int))=false by decide,aw];simp only[cJ,Bool.false_eq_true,if_false,cB,ak,a1];exact app _ (aF.refl _ _)
  ·rw[List.concat_eq_append]at*
   obtain⟨b,i0,i1,i2,i3,i4,_⟩:=OT Jx 0;have dI:decide ((0:Int) <((bL++[a]).length:Nat))=true:=by simp
   have aw:bF .i64 ((((bL++[a]).length:Nat) :Int) -1)=((bL.length:Nat) :Int):=by
    have:(bL++[a]).length=bL.length+1:=by simp
    rw[this,wrap_i64 (by omega) (by omega)];omega
   simp only[hO,ak,dI,cJ,if_true,sS,cT,Obj.get sv (i:=0) rfl,e4,aw,i1,i4];rw[i' Am (by simp[aH.vs])];rw[ak,show(List.drop 0 r.vs).take 6=r.vs by rfl];refine bS (agj _ (aY a (by simp)) ah) ?_;rintro _ g2 ⟨rfl,a_⟩;have zu:=a_.next;have xY:=P3.ext a_ (by omega);have cc:=Am.ext a_ (by omega);have ah4:=Jx.ext a_;obtain⟨ea,HQ,acp,amy,HR,amz,g3,tQ,n3,nf,OD⟩:=OT ah4 r.U;simp only[cB,if_true,ak,dh,a1];cases r6:a.one r with
   |true=>
    simp only[if_true,sS,Obj.get xY (i:=0) rfl,ak,e4,aw,sR,Nat.zero_add,b6,Obj.get cc (i:=1) rfl,acp];refine cb (P:=λg=>g=g3) ⟨g3,tQ,rfl⟩ ?_;rintro _ rfl;refine aJ.pure ⟨rfl,v,?_,?_,.inl rfl⟩
    ·rw[D2 (by omega) r6];exact⟨xY.aq nf (by omega) (by omega),n3⟩
    ·exact(aF.ext ((aW.trans bC).trans a_)).trans (nf.mono λi _ e=>.inr (by rw[e];exact HQ))
   |false=>
    have aL:c6 (bL++[a]) r=(bL++[a])++[r]:=AI (by omega) λIG x ab=>by obtain⟨_,ab⟩:=List.append_inj' ab rfl;simp at ab;subst ab;exact r6
    rw[aL];simp only[Bool.false_eq_true,if_false];exact app _ a_
theorem Ss{h:ag}{box lo:Nat}{v0:J}{out:List aH}(o:oA h box lo v0 out) :∃v,call ai PV (.func 244 [] [.ptr box 0]) [] h=some (v,h)/\jd h v out/\∀b,ch v=some b->lo<=b:=by
 obtain⟨bP,ar,AJ⟩:=o;have r0:=Obj.get bP (i:=0) rfl;rcases AJ with⟨rfl,he⟩ |⟨b,rfl,aa,av,o⟩
 ·have:out=[]:=by simpa using he
  subst this;refine⟨.bh,O6 (x:=.ret) (vs:=[.bh]) (first:=[]) (mid:=[]) (cap:=[_]) ?_ rfl,jd.nil h,λb af=>by cases af⟩;have e:ik ai h 126 .bh none (some (.int .i64 0)) (some (.int .i64 0))=some .bh:=by kernel_rfl
  simp only[sS,r0,ak,Sp,e]
 ·rw[List.length_map]at*
  refine⟨.slice b 0 out.length out.length 6 true,O6 (x:=.ret) (vs:=[.slice b 0 out.length out.length 6 true]) (first:=[]) (mid:=[]) (cap:=[_]) ?_ rfl,.inr ⟨b,_,_,rfl,Nat.le_refl _,av,o⟩,λea af=>by cases af;exact aa⟩
  have e:ik ai h 126 (.slice b 0 out.length out.length 6 false) none (some (.int .i64 (out.length:Nat))) (some (.int .i64 (out.length:Nat)))=some (.slice b 0 out.length out.length 6 true):=by
   have aw:ai.ty 126=some wk:=by kernel_rfl
   have aL:ai.ty 47=some A9:=by kernel_rfl
   show jP ai h 126 (.slice b 0 out.length out.length 6 false) none (some (out.length:Int)) (some (out.length:Int))=_;simp only[jP,aw]
   show(match iv out.length out.length false none (some (out.length:Int)) (some (out.length:Int)),ai.ty 47 with
    |some (l,h,m,ex),some ie=>bif Nat.beq ie.size 6 then some (J.slice b (0+l*6) (h-l) (m-l) 6 ex)else none
    |_,_=>none)=_
   rw[aL];simp only[iv,mY (Nat.le_refl _)];rfl
  simp only[sS,r0,ak,Sn,e]
theorem Qy(h:ag){r:aH}(ah:mS r){a b:Int}(aU: -1099511627776<=a/\a<=1099511627776) :bN (call ai PV (.func 373 [] []) [.agg r.vs,.int .i64 a,.int .i64 b] h) λv g=>v=.agg (r.part a b).vs/\aX h g:=by
 refine cF aek rfl ?_;refine b1 (o_ (cs:=r.vs) rfl) λg1 bU dF aW=> ?_
 refine b1 yn λg2 cc dS a_=> ?_
 have eA:=bU.ext a_ (by omega);unfold mS at ah;have aw:bF .i64 (a-r.lo)=a-r.lo:=wrap_i64 (by omega) (by omega);have aL:bF .i64 (r.bq+(a-r.lo))=r.bq+(a-r.lo):=wrap_i64 (by omega) (by omega);simp only[uw,sR,o',Ex,Nat.zero_add,b6,Obj.get eA (i:=3) rfl,Obj.get eA (i:=5) rfl,Obj.get eA (i:=0) rfl,ak,c2,a1,decide_eq_true_eq,e4,cP,aw,aL];refine fV (P:=λx vs g=>x=.normal/\vs=[]/\a6.Obj g h.next ({r with bq:=if r.kind=1 then r.bq+(a-r.lo)else r.bq} :aH).vs/\aF (λj=>j=h.next) g2 g/\g.next=g2.next) ?_ ?_
 ·by_cases c:r.kind=1
  ·rw[if_pos c];refine cb (kC (k:=5) (v:=.int .i64 (r.bq+(a-r.lo))) eA (by simp[aH.vs]) rfl rfl) λg3 ⟨b8,bw,eH⟩=> ?_
   exact aJ.pure ⟨rfl,rfl,by rw[if_pos c];exact b8,bw,eH⟩
  ·rw[if_neg c];exact aJ.pure ⟨rfl,rfl,by rw[if_neg c];exact eA,aF.refl _ _,rfl⟩
 ·rintro _ _ g ⟨rfl,rfl,b8,bw,eH⟩;simp only[bd,hf];refine cb (kC (k:=0) (v:=.int .i64 a) b8 (by simp[aH.vs]) rfl rfl) λg4 ⟨c5,bA,gb⟩=> ?_
  refine cb (kC (k:=1) (v:=.int .i64 b) c5 (by simp[aH.vs]) rfl rfl) λg5 ⟨cS,bZ,n5⟩=> ?_
  have cS:a6.Obj g5 h.next (r.part a b).vs:=cS;rw[i' cS (by simp[aH.vs])];rw[ak,show(List.drop 0 (r.part a b).vs).take 6=(r.part a b).vs by rfl];have ss:=((cc.aq bw (by omega) (by omega)).aq bA (by omega) (by omega)).aq bZ (by omega) (by omega);refine cb (wi (cs:=(r.part a b).vs) ss rfl (by simp[aH.vs]) rfl) λg6 ⟨di,b3,n6⟩=> ?_
  have di:=dC di rfl;rw[i' di (by simp[aH.vs])];refine aJ.pure ⟨rfl,?_⟩;exact aF.local (T:=λj=>j=h.next\/j=g1.next) (aW.trans a_) (((bw.mono λj _ e=>.inl e).trans (bA.mono λj _ e=>.inl e)).trans ((bZ.mono λj _ e=>.inl e).trans (b3.mono λj _ e=>.inr e))) (λi U e=>by omega)
end
section
variable{PV:cw} [db PV]
def kj(x:Int) :Prop:= -274877906944<=x/\x<=274877906944
theorem V_:dW ai 47 []=some (.agg aH.zero.vs):=by kernel_rfl
theorem Fy:dW ai 182 []=some (.agg [.int .i64 0,.int .i64 0]):=by kernel_rfl
theorem V6(a b:Int) :dW ai 182 [(0,.int .i64 a),(1,.int .i64 b)]=some (.agg [.int .i64 a,.int .i64 b]):=by kernel_rfl
theorem uD(r:aH) :(List.drop 0 r.vs).take 6=r.vs:=rfl
theorem ahP{L:List aH}{p:Int}{i:Nat}{x:aH}(aI:bO (L.take i) p=none)(ab:L[i]? =some x) :bO (L.take (i+1)) p=if x.has p then some x else none:=by obtain⟨bK,aE⟩:=List.getElem?_eq_some_iff.1 ab;rw[List.take_add_one,ab,x',aI];simp only[Option.toList_some,Option.none_or,bO];cases h:x.has p<;>simp[h]
theorem ahO{L:List aH}{p:Int}{i:Nat}{x:aH}(h:bO (L.take i) p=some x) :bO L p=some x:=by have:=List.take_append_drop i L;rw[<-this,x',h];rfl
theorem Yn{h:ag}{v:J}{L:List aH}(r:jd h v L)(ar:L.length<=8192)(p:Int) :
  bN (call ai PV (.func 162 [] []) [v,.int .i64 p] h) λw g=>w=.tuple [.agg ((bO L p).getD aH.zero).vs,.bool (bO L p).isSome]/\aX h g:=by
 refine cF adg rfl ?_;refine b1 yn λg1 bU dF aW=> ?_
 rw[(r.ext aW).len];simp only[ak]
 refine gW (I:=λi vs g=>vs=[.bool false,.int .i64 (i:Nat)]/\bO (L.take i) p=none/\aX h g/\a6.Obj g h.next aH.zero.vs/\g1.next<=g.next) L.length (by omega)
  (P:=λx vs g=>(x=.exit 0/\(∃a b,vs=[a,b])/\bO L p=none/\aX h g/\a6.Obj g h.next aH.zero.vs)\/(x=.ret/\(∃b,vs=[.bool true,b])/\∃y,bO L p=some y/\aX h g/\a6.Obj g h.next y.vs))
  ⟨rfl,by simp[bO],aW,bU,Nat.le_refl _⟩ ?_ ?_
 ·rintro i vs g U ⟨rfl,aI,u,jK,al⟩;simp only[bn,bd,cQ,ak,a1,decide_eq_true_eq];by_cases he:i=L.length
  ·subst he;rw[if_neg (by omega)];rw[List.take_length]at aI;exact aJ.pure (.inr ⟨by simp,.inl ⟨rfl,⟨_,_,rfl⟩,aI,u,jK⟩⟩)
  ·rw[if_pos (by omega)];have bK:i<L.length:=by omega
   have ab:L[i]? =some L[i]:=List.getElem?_eq_getElem bK;obtain⟨b,i1,i2,i3⟩:=(r.ext u).get ab;have aw:bF .i64 ((i:Int) +1)=((i+1:Nat) :Int):=by rw[wrap_i64 (by omega) (by omega)];omega
   rw[i1,ak,i3,ak];refine b1 (h:=g) yn λg2 cc dS a_=> ?_
   refine cb (wi (cs:=(L[i]).vs) cc rfl (by simp[aH.vs]) rfl) λg3 ⟨b8,bw,eH⟩=> ?_
   have b8:=dC b8 rfl;have ej:aX h g3:=(u.trans a_).local bw (λj az e=>by have:=u.next;omega);have I':=(jK.ext a_ (by omega)).aq bw (by omega) (by omega);simp only[uw,sR,Nat.zero_add,b6,Obj.get b8 (i:=0) rfl,Obj.get b8 (i:=1) rfl,ak,fk,cQ];have aN:=ahP aI ab;by_cases bc:(L[i]).lo<=p
   ·simp only[decide_eq_true bc,cJ,if_true];by_cases bW:p<(L[i]).U
    ·simp only[ak,decide_eq_true bW,cO,bn,bd,cB,if_true,a1];rw[i' b8 (by simp[aH.vs])];rw[ak,uD];refine cb (wi (cs:=(L[i]).vs) I' rfl (by simp[aH.vs]) rfl) λg4 ⟨c5,bA,gb⟩=> ?_
     have c5:=dC c5 rfl;have aC:(L[i]).has p=true:=by simp[aH.has,bc,bW]
     refine aJ.pure (.inr ⟨by simp,.inr ⟨rfl,⟨_,rfl⟩,L[i],ahO (i:=i+1) (by rw[aN,aC];simp),ej.local bA (λj az e=>by omega),c5⟩⟩)
    ·simp only[ak,decide_eq_false bW,cO,bn,bd,cB,if_true,Bool.false_eq_true,if_false,a1];have aC:(L[i]).has p=false:=by simp[aH.has];omega
     simp only[cP,aw,ak];exact aJ.pure (.inl ⟨rfl,by omega,rfl,by rw[aN,aC];simp,ej,I',by omega⟩)
   ·simp only[decide_eq_false bc,cJ,Bool.false_eq_true,if_false,cO,bn,bd,cB,ak,a1];have aC:(L[i]).has p=false:=by simp[aH.has];omega
    simp only[cP,aw,ak];exact aJ.pure (.inl ⟨rfl,by omega,rfl,by rw[aN,aC];simp,ej,I',by omega⟩)
 ·rintro x vs g (⟨rfl,⟨a,b,rfl⟩,aI,u,jK⟩ |⟨rfl,⟨b,rfl⟩,y,an,u,jK⟩)
  ·simp only[bn,bd,fZ,if_true,V_,ak];refine cb (wi (cs:=aH.zero.vs) jK rfl (by simp[aH.vs]) rfl) λg4 ⟨c5,bA,gb⟩=> ?_
   have c5:=dC c5 rfl;rw[i' c5 (by simp[aH.vs])];exact aJ.pure ⟨by rw[aI];rfl,u.local bA (λj az e=>by omega)⟩
  ·simp only[bn,bd,qj];rw[i' jK (by simp[aH.vs])];exact aJ.pure ⟨by rw[an];rfl,u⟩
def keyOf(r:aH)(p:Int) :Option (Int×Int):=if r.kind=1/\r.lo<=p/\p<r.U then some (r.file,r.bq+p-r.lo)else none
theorem acB(h:ag){r:aH}(ah:mS r){p:Int}(aD:kj p) :bN (call ai PV (.func 226 [] []) [.agg r.vs,.int .i64 p] h) λv g=>v=(match keyOf r p with|some k=>.tuple [.agg [.int .i64 k.1,.int .i64 k.2],.bool true] |none=>.tuple [.agg [.int .i64 0,.int .i64 0],.bool false])/\aX h g:=by
 refine cF adH rfl ?_;refine b1 (o_ (cs:=r.vs) rfl) λg1 bU dF aW=> ?_
 refine b1 AW λg2 cc dS a_=> ?_
 have eA:=bU.ext a_ (by omega);have hp:=aW.trans a_;unfold mS at ah;unfold kj at aD;have aw:bF .i64 (r.bq+p)=r.bq+p:=wrap_i64 (by omega) (by omega);have aL:bF .i64 (r.bq+p-r.lo)=r.bq+p-r.lo:=wrap_i64 (by omega) (by omega);have a0:=Obj.get eA (i:=0) rfl;have aQ:=Obj.get eA (i:=1) rfl;have a3:=Obj.get eA (i:=3) rfl;have a4:=Obj.get eA (i:=4) rfl;have a5:=Obj.get eA (i:=5) rfl
 have fin:∀(a b:Int) (t:Bool),(match keyOf r p with|some k=>J.tuple [.agg [.int .i64 k.1,.int .i64 k.2],.bool true] |none=>.tuple [.agg [.int .i64 0,.int .i64 0],.bool false])=.tuple [.agg [.int .i64 a,.int .i64 b],.bool t]->
   aJ (cd (dU ai g2 182 (.ptr g1.next 0) (.agg [.int .i64 a,.int .i64 b])) λbb=>cd (dJ ai bb 182 (.ptr g1.next 0)) λKH=>some (.ret,[KH,.bool t],bb)) λ_ vs bH=>iY vs=(match keyOf r p with|some k=>J.tuple [.agg [.int .i64 k.1,.int .i64 k.2],.bool true] |none=>.tuple [.agg [.int .i64 0,.int .i64 0],.bool false])/\aX h bH:=λa b t aN=>by
  refine cb (yu (cs:=[.int .i64 a,.int .i64 b]) cc rfl (by simp) rfl) λg3 ⟨b8,bw,eH⟩=> ?_
  have b8:=dC b8 rfl;rw[nu b8 (by simp)];exact aJ.pure ⟨by rw[aN];rfl,hp.local bw (λi U e=>by omega)⟩
 have no:¬(r.kind=1/\r.lo<=p/\p<r.U)->(match keyOf r p with|some k=>J.tuple [.agg [.int .i64 k.1,.int .i64 k.2],.bool true] |none=>.tuple [.agg [.int .i64 0,.int .i64 0],.bool false])=.tuple [.agg [.int .i64 0,.int .i64 0],.bool false]:=λaA=>by unfold keyOf;rw[if_neg aA]
 simp only[uw,sR,o',J8,Ex,Nat.zero_add,b6,a3,ak,dc];by_cases bc:r.kind≠1
 ·simp only[decide_eq_true bc,cJ,Bool.true_eq_false,if_false,cO,bn,bd,cB,if_true,ak,a1,Fy];exact fin 0 0 false (no (by omega))
 ·simp only[decide_eq_false bc,cJ,if_true,a0,ak,cQ,cO,bn,bd,cB,Bool.false_eq_true,if_false];by_cases bW:p<r.lo
  ·simp only[decide_eq_true bW,cJ,Bool.true_eq_false,if_false,cO,bn,bd,cB,if_true,ak,a1,Fy];exact fin 0 0 false (no (by omega))
  ·simp only[decide_eq_false bW,cJ,if_true,aQ,ak,fk,cO,bn,bd,cB,Bool.false_eq_true,if_false,a1];by_cases dA:r.U<=p
   ·simp only[decide_eq_true dA,if_true,ak,Fy];exact fin 0 0 false (no (by omega))
   ·simp only[decide_eq_false dA,Bool.false_eq_true,if_false,a4,a5,a0,ak,cP,e4,aw,aL,V6];exact fin _ _ true (by unfold keyOf;rw[if_pos (by omega)])
theorem Q9(h:ag) :∃g,call ai PV (.func 161 [] []) [] h=some (.tuple [.func 242 [] [.ptr h.next 0],.func 244 [] [.ptr h.next 0]],g)/\oA g h.next (h.next+1) .bh []/\aX h g/\g.next=h.next+1:=by have o:=Obj.new h [.bh] false [];refine⟨h.new (.cells 1 false [] (bj.ofList [J.bh])),adf (x:=.ret) (vs:=[.func 242 [] [.ptr h.next 0],.func 244 [] [.ptr h.next 0]]) (first:=[]) (mid:=[]) (cap:=[]) ?_ rfl,⟨o,Row.nil _ _ _⟩,aF.new _ _ _,rfl⟩;have e:hN ai 126=some (λid=>J.ptr id 0,.cells 1 false [] (bj.ofList [J.bh])):=Fk (i:=wk) (by kernel_rfl) rfl;dsimp only;rw[e];rfl
theorem ahZ(o:List aH)(r:aH) :(c6 o r).length<=o.length+1:=by rcases yc o r with⟨_,e⟩ |⟨_,bL,x,rfl,_,e⟩ |⟨_,_,e⟩<;>rw[e]<;>simp
theorem MW:∀(l o:List aH),(l.foldl c6 o).length<=o.length+l.length
 |[],o=>by simp
 |r::l,o=>by rw[List.foldl_cons];have:=MW l (c6 o r);have:=ahZ o r;simp only[List.length_cons];omega
structure kI(h g:ag)(box:Nat)(v:J)(l:List aH) :Prop where
 out:oA g box (box+1) v (l.foldl c6 [])
 ext:aX h g
 lt:box<g.next
def rj(box:Nat)(v:J)(i:Nat) :Prop:=i≠box/\ch v≠some i
theorem kI.more{h g bH:ag}{box:Nat}{v:J}{l:List aH}(j:kI h g box v l)(u:aX g bH) :kI h bH box v l:=⟨j.out.ext u j.lt,j.ext.trans u,Nat.lt_of_lt_of_le j.lt u.next⟩
theorem kI.fresh{h g:ag}{box:Nat}{v:J}{l:List aH}(j:kI h g box v l){i:Nat}(U:g.next<=i) :rj box v i:=⟨by have:=j.lt;omega,λe=>by have:=j.out.jY e;omega⟩
theorem kI.old{h g:ag}{box:Nat}{v:J}{l:List aH}(j:kI h g box v l){i:Nat}(U:i<box) :rj box v i:=⟨by omega,λe=>by have:=j.out.jY e;omega⟩
theorem kI.put{h g:ag}{box:Nat}{v:J}{l:List aH}(j:kI h g box v l)(af:h.next<=box)(hm:∀x,x∈l->x.lo<x.U->x.may=true){r:aH}(ah:mS r)(ar:l.length<=2^28) :
  bN (call ai PV (.func 242 [] [.ptr box 0]) [.agg r.vs] g) λw bH=>w=.undef/\∃df,kI h bH box df (l++[r])/\(∀i o,i<g.next->rj box v i->a6.Obj g i o->a6.Obj bH i o)/\(∀i,i<g.next->rj box v i->rj box df i)/\g.next<=bH.next:=by
 have hlen:=MW l [];refine(ah0 j.out (by omega) j.lt ah (λx ab=>tW (Io (by simp) hm x ab)) (by simp at hlen;omega)).mono ?_;rintro w bH ⟨rfl,df,o,u,ae⟩;refine⟨rfl,df,⟨by rw[List.foldl_append];exact o,j.ext.local u (λi U e=> ?_),Nat.lt_of_lt_of_le j.lt u.next⟩,λi bL U aU aY=>aY.aq u U ?_,λi U aU=>⟨aU.1,λe=> ?_⟩,u.next⟩
 ·rcases e with e|e
  ·omega
  ·have:=j.out.jY e;omega
 ·rintro(e|e)
  ·exact aU.1 e
  ·exact aU.2 e
 ·rcases ae with ae|⟨k,aj,iR⟩
  ·rw[ae]at e;exact aU.2 e
  ·rw[aj]at e;have:=Option.some.inj e;omega
end
section
variable{PV:cw} [db PV]
def fQ(r:aH)(l:List aH) :Bool:=l.any λx=>decide (r.U<=x.lo)
def ia(r:aH) :List aH->List aH
 |[]=>[]
 |x::l=>if r.U<=x.lo then r::x::l else x::ia r l
theorem Ow(r:aH) :∀(l:List aH) (x:aH),ia r (l++[x])=ia r l++if fQ r l=false/\r.U<=x.lo then[r,x]else[x]
 |[],x=>by by_cases h:r.U<=x.lo<;>simp[ia,fQ,h]
 |y::l,x=>by
  rw[List.cons_append,ia,ia];by_cases h:r.U<=y.lo
  ·rw[if_pos h,if_pos h,if_neg (by simp[fQ,h])];simp
  ·rw[if_neg h,if_neg h,Ow r l x];have:fQ r (y::l)=fQ r l:=by simp[fQ,h]
   rw[this];simp
theorem Ov(r:aH) :∀l:List aH,fO r l=if fQ r l=true then ia r l else ia r l++[r]
 |[]=>by simp[fO,ia,fQ]
 |x::l=>by
  rw[fO,ia];by_cases h:r.U<=x.lo
  ·rw[if_pos h,if_pos h,if_pos (by simp[fQ,h])]
  ·rw[if_neg h,if_neg h,Ov r l];have:fQ r (x::l)=fQ r l:=by simp[fQ,h]
   rw[this];by_cases aa:fQ r l=true<;>simp[aa]
theorem HJ{r y:aH} :∀{l:List aH},y∈ia r l->y=r\/y∈l
 |[],h=>by simp[ia]at h
 |x::l,h=>by
  unfold ia at h;split at h
  ·simp at h;rcases h with h|h|h<;>simp[h]
  ·simp at h;rcases h with h|h
   ·simp[h]
   ·rcases HJ h with h|h<;>simp[h]
theorem HI(r:aH) :∀l:List aH,(ia r l).length<=l.length+1
 |[]=>by simp[ia]
 |x::l=>by
  unfold ia;split
  ·simp
  ·have:=HI r l;simp;omega
theorem Eo{L:List aH}{i:Nat}{x:aH}(ab:L[i]? =some x) :L.take (i+1)=L.take i++[x]:=by rw[List.take_add_one,ab];rfl
theorem ahl{h:ag}{v:J}{L:List aH}(rv:jd h v L)(en:je L)(ar:L.length<=8192)(r:aH) :
  bN (call ai PV (.func 84 [] []) [v,.agg r.vs] h) λw g=>aX h g/\
   ((r.may=false/\w=.tuple [.bh,.int .i64 1])\/
    (r.may=true/\(∃x,x∈L/\meets r x=true)/\w=.tuple [.bh,.int .i64 13])\/
    (r.may=true/\(∀x,x∈L->meets r x=false)/\∃df,w=.tuple [df,.int .i64 0]/\jd g df ((fO r L).foldl c6 [])/\∀b,ch df=some b->h.next<=b)):=by
 refine cF aey rfl ?_;refine b1 (o_ (cs:=r.vs) rfl) λg1 bU dF aW=> ?_
 rw[i' bU (by simp[aH.vs])];rw[ak,uD];refine bS (ahT g1 r) ?_;rintro _ g2 ⟨rfl,a_⟩;have tI:=a_.next;simp only[fA,ak,a1];cases hm:r.may with
 |false=>
  simp only[Bool.not_false,if_true];exact aJ.pure ⟨aW.trans a_,.inl ⟨by simp,rfl⟩⟩
 |true=>
  simp only[Bool.not_true,Bool.false_eq_true,if_false];obtain⟨g3,tt,I7,bw,eH⟩:=Q9 g2;have hl:=bU.ext (a_.trans bw) (by omega);have ej:=(aW.trans a_).trans bw;rw[tt];simp only[c1,fM,List.getElem?_cons_zero,List.getElem?_cons_succ,ak,(rv.ext ej).len];have nX:=lB hm;have vO:(8194:Nat)<=2^28:=by decide
  refine gW (I:=λi vs g=>vs=[.bh,.int .i64 0,.bool (fQ r (L.take i)),.int .i64 (i:Nat)]/\(∀x,x∈L.take i->meets r x=false)/\(∃ec,kI g2 g g2.next ec (ia r (L.take i)))/\a6.Obj g h.next r.vs) L.length (by omega)
   (P:=λx vs g=>(x=.exit 0/\(∃b,vs=[.bh,.int .i64 0,.bool (fQ r L),b])/\(∀x,x∈L->meets r x=false)/\(∃ec,kI g2 g g2.next ec (ia r L))/\a6.Obj g h.next r.vs)\/
     (x=.ret/\(∃a b,vs=[.bh,.int .i64 13,a,b])/\(∃x,x∈L/\meets r x=true)/\aX g2 g))
   ⟨by simp[fQ],by simp,⟨_,by simpa [ia]using I7,bw,by omega⟩,hl⟩ ?_ ?_
  ·rintro i vs g U ⟨rfl,aI,⟨ec,j⟩,o⟩;have lu:=j.lt;simp only[bn,bd,cQ,ak,a1,decide_eq_true_eq];by_cases he:i=L.length
   ·subst he;rw[if_neg (by omega)];rw[List.take_length]at aI j|-;exact aJ.pure (.inr ⟨by simp,.inl ⟨rfl,⟨_,rfl⟩,aI,⟨ec,j⟩,o⟩⟩)
   ·rw[if_pos (by omega)];have bK:i<L.length:=by omega
    have ab:L[i]? =some L[i]:=List.getElem?_eq_getElem bK;have er:L[i]∈L:=List.getElem_mem bK;obtain⟨b,i1,i2,i3⟩:=(rv.ext ((aW.trans a_).trans j.ext)).get ab;rw[i1,ak,i3,ak];generalize L[i]=x at*
    have aw:bF .i64 ((i:Int) +1)=((i+1:Nat) :Int):=by rw[wrap_i64 (by omega) (by omega)];omega
    refine b1 (h:=g) yn λg4 c5 gb bA=> ?_
    refine cb (wi (cs:=x.vs) c5 rfl (by simp[aH.vs]) rfl) λg5 ⟨cS,bZ,n5⟩=> ?_
    have cS:=dC cS rfl;have yA:aX g g5:=bA.local bZ (λk aj e=>by omega);have tQ:=j.more yA;have afi:=yA.next;have th:rj g2.next ec g.next:=j.fresh (Nat.le_refl _);have gM:rj g2.next ec h.next:=j.old (by omega);have sA:=o.ext yA (by omega);simp only[uw,sR,Nat.zero_add,b6,Obj.get cS (i:=0) rfl,Obj.get cS (i:=1) rfl,Obj.get sA (i:=0) rfl,Obj.get sA (i:=1) rfl,ak,cQ];have tH:meets r x=decide (x.lo<r.U/\r.lo<x.U):=rfl;refine fV (P:=λy vs bH=>y=.normal/\g5=bH/\vs=[if x.lo<r.U then .bool (decide (r.lo<x.U))else .undef]) ?_ ?_
    ·by_cases bc:x.lo<r.U
     ·simp only[decide_eq_true bc,cJ,if_true,if_pos bc];exact aJ.pure ⟨rfl,rfl,rfl⟩
     ·simp only[decide_eq_false bc,cJ,Bool.false_eq_true,if_false,if_neg bc];exact aJ.pure ⟨rfl,rfl,rfl⟩
    ·rintro _ _ _ ⟨rfl,rfl,rfl⟩
     have aa7:iX (.bool (decide (x.lo<r.U))) (if x.lo<r.U then .bool (decide (r.lo<x.U))else .undef) (.bool false)=some (.bool (meets r x)):=by
      by_cases bc:x.lo<r.U
      ·rw[decide_eq_true bc,if_pos bc,cB,if_pos rfl,tH];simp[bc]
      ·rw[decide_eq_false bc,if_neg bc,cB,if_neg (by decide),tH];simp[bc]
     simp only[bn,bd,aa7,ak,a1];cases NL:meets r x with
     |true=>
      simp only[if_true];exact aJ.pure (.inr ⟨by simp,.inr ⟨rfl,⟨_,_,rfl⟩,⟨x,er,NL⟩,tQ.ext⟩⟩)
     |false=>
      simp only[Bool.false_eq_true,if_false,fA,ak]
      have oX:∀y,y∈L.take (i+1)->meets r y=false:=λy an=>by
       rw[Eo ab]at an;rcases List.mem_append.1 an with an|an
       ·exact aI y an
       ·rw[List.mem_singleton]at an;subst an;exact NL
      have xg:fQ r (L.take (i+1))=(fQ r (L.take i) ||decide (r.U<=x.lo)):=by rw[Eo ab];simp[fQ]
      have aal:ia r (L.take (i+1))=ia r (L.take i)++if fQ r (L.take i)=false/\r.U<=x.lo then[r,x]else[x]:=by rw[Eo ab,Ow]
      have mq:∀y,y∈ia r (L.take i)->y.lo<y.U->y.may=true:=λy an _=>by
       rcases HJ an with rfl|an
       ·exact hm
       ·exact en.may y (List.mem_of_mem_take an)
      have hlen:=HI r (L.take i);have r4:(L.take i).length<=8192:=Nat.le_trans (List.length_take_le _ _) (by omega);refine fV (P:=λy vs bH=>y=.normal/\g5=bH/\vs=[if fQ r (L.take i)=false then .bool (decide (r.U<=x.lo))else .undef]) ?_ ?_
      ·cases fQ r (L.take i)
       ·simp only[Bool.not_false,cJ,if_true,Obj.get cS (i:=0) rfl,Obj.get sA (i:=1) rfl,ak,fk];exact aJ.pure ⟨rfl,rfl,rfl⟩
       ·simp only[Bool.not_true,cJ,Bool.false_eq_true,Bool.true_eq_false,if_false];exact aJ.pure ⟨rfl,rfl,rfl⟩
      ·rintro _ _ _ ⟨rfl,rfl,rfl⟩
       have aa8:iX (.bool (!fQ r (L.take i))) (if fQ r (L.take i)=false then .bool (decide (r.U<=x.lo))else .undef) (.bool false)=some (.bool (decide (fQ r (L.take i)=false/\r.U<=x.lo))):=by cases fQ r (L.take i)<;>simp
       simp only[bn,bd,aa8,ak];refine fV (P:=λy vs bH=>y=.normal/\vs=[.bool (fQ r (L.take (i+1)))]/\(∃El,kI g2 bH g2.next El (ia r (L.take i)++if fQ r (L.take i)=false/\r.U<=x.lo then[r]else[])/\rj g2.next El h.next)/\a6.Obj bH h.next r.vs/\a6.Obj bH g.next x.vs/\g5.next<=bH.next) ?_ ?_
       ·simp only[a1,decide_eq_true_eq];by_cases c:fQ r (L.take i)=false/\r.U<=x.lo
        ·rw[if_pos c,if_pos c];rw[i' sA (by simp[aH.vs])];rw[ak,uD];refine bS (tQ.put (by omega) mq (tW hm) (Nat.le_trans (by omega:_<=8194) vO)) ?_;rintro _ g6 ⟨rfl,ym,n3,b3,hY,afj⟩;exact aJ.pure ⟨rfl,by rw[xg];simp[c.2],⟨ym,n3,hY _ (by omega) gM⟩,b3 _ _ (by omega) gM sA,b3 _ _ (by omega) th cS,afj⟩
        ·rw[if_neg c,if_neg c];refine aJ.pure ⟨rfl,?_,⟨ec,by simpa using tQ,gM⟩,sA,cS,Nat.le_refl _⟩;rw[xg];congr 3;cases aU:fQ r (L.take i)with
         |true=>rfl
         |false=>simp;apply Classical.byContradiction;intro aC;exact c ⟨aU,by omega⟩
       ·rintro _ _ g6 ⟨rfl,rfl,⟨ym,n3,VE⟩,I1,agF,n6⟩;simp only[bn,bd,hf];rw[i' agF (by simp[aH.vs])];rw[ak,uD]
        have aaD:∀y,y∈(ia r (L.take i)++if fQ r (L.take i)=false/\r.U<=x.lo then[r]else[])->y.lo<y.U->y.may=true:=λy an aB=>by
         rcases List.mem_append.1 an with an|an
         ·exact mq y an aB
         ·split at an
          ·rw[List.mem_singleton]at an;subst an;exact hm
          ·cases an
        refine bS (n3.put (by omega) aaD (tW (en.may x er)) (Nat.le_trans (by
         rw[List.length_append];have:(if fQ r (L.take i)=false/\r.U<=x.lo then[r]else[]).length<=1:=by split<;>simp
         omega:_<=8194) vO)) ?_
        rintro _ g7 ⟨rfl,AU,nf,dM,tg,afk⟩;simp only[cP,aw,ak];refine aJ.pure (.inl ⟨rfl,by omega,rfl,oX,⟨AU,?_⟩,dM _ _ (by omega) VE I1⟩);rw[aal];by_cases c:fQ r (L.take i)=false/\r.U<=x.lo
        ·rw[if_pos c]at nf|-;simpa using nf
        ·rw[if_neg c]at nf|-;simpa using nf
  ·have hp:=aW.trans a_;rintro x vs g (⟨rfl,⟨b,rfl⟩,aI,⟨ec,j⟩,o⟩ |⟨rfl,⟨a,b,rfl⟩,ab,u⟩)
   ·have lu:=j.lt;simp only[bn,bd,fZ,if_true,fA,ak]
    have mq:∀y,y∈ia r L->y.lo<y.U->y.may=true:=λy an _=>by
     rcases HJ an with rfl|an
     ·exact hm
     ·exact en.may y an
    have hlen:=HI r L;refine fV (P:=λy vs bH=>y=.normal/\vs=[]/\∃ec,kI g2 bH g2.next ec (fO r L)) ?_ ?_
    ·rw[Ov];cases aU:fQ r L with
     |true=>
      simp only[Bool.not_true,a1,Bool.false_eq_true,if_false,if_true];exact aJ.pure ⟨rfl,rfl,ec,j⟩
     |false=>
      simp only[Bool.not_false,a1,if_true,Bool.false_eq_true,if_false];rw[i' o (by simp[aH.vs])];rw[ak,uD];refine bS (j.put (by omega) mq (tW hm) (Nat.le_trans (by omega:_<=8194) vO)) ?_;rintro _ g7 ⟨rfl,AU,nf,dM,tg,afk⟩;exact aJ.pure ⟨rfl,rfl,AU,nf⟩
    ·rintro _ _ g7 ⟨rfl,rfl,AU,nf⟩;simp only[bd,hf];obtain⟨df,cR,uq,Iz⟩:=Ss nf.out;rw[cR];simp only[c1];exact aJ.pure ⟨hp.trans nf.ext,.inr (.inr ⟨by simp,aI,df,rfl,uq,λb af=>by have:=Iz b af;have:=hp.next;omega⟩)⟩
   ·simp only[bn,bd,qj];exact aJ.pure ⟨hp.trans u,.inr (.inl ⟨by simp,ab,rfl⟩)⟩
end
section
variable{PV:cw} [db PV]
theorem MT{L:List aH}{i:Nat}{x:aH}(g:aH->List aH)(ab:L[i]? =some x) :(L.take (i+1)).flatMap g=(L.take i).flatMap g++g x:=by rw[Eo ab];simp
theorem Mb{a b:Int}{r x:aH}(ah:r.may=true)(ab:x∈fT a b r)(aB:x.lo<x.U) :x.may=true:=by
 unfold fT at ab;split at ab
 ·rw[List.mem_singleton]at ab;subst ab;exact ah
 ·rename_i aA;simp only[List.mem_cons,List.not_mem_nil,or_false]at ab;rcases ab with rfl|rfl<;>refine Qx ah ?_ ?_ aB<;>omega
theorem Xd(a b:Int)(r:aH) :(fT a b r).length<=2:=by unfold fT;split<;>simp
theorem MR{g:aH->List aH}{k:Nat}(aE:∀r,(g r).length<=k) :∀L:List aH,(L.flatMap g).length<=k*L.length
 |[]=>by simp
 |r::L=>by rw[List.flatMap_cons,List.length_append,List.length_cons];have:=aE r;have:=MR aE L;rw[Nat.mul_add];omega
theorem Qz{r:aH}(ah:r.may=true){a b:Int}(aU:kj a)(af:kj b) :mS (r.part a b):=by
 have k:=lB ah;unfold kj at aU af;unfold mS aH.part;by_cases aj:r.kind=1
 ·simp only[aj,if_true]at k|-;omega
 ·simp only[aj,if_false]at k|-;omega
theorem ahq{h:ag}{v:J}{L:List aH}(rv:jd h v L)(en:je L)(ar:L.length<=8192){a b:Int}(aU:kj a)(af:kj b) :
  bN (call ai PV (.func 299 [] []) [v,.int .i64 a,.int .i64 b] h) λw g=>aX h g/\jd g w ((L.flatMap (fT a b)).foldl c6 [])/\∀b,ch w=some b->h.next<=b:=by
 refine cF ad9 rfl ?_;obtain⟨g3,tt,I7,bw,eH⟩:=Q9 h;rw[tt];have vO:(65536:Nat)<=2^28:=by decide
 simp only[c1,fM,List.getElem?_cons_zero,List.getElem?_cons_succ,ak,(rv.ext bw).len]
 refine gW (I:=λi vs g=>vs=[.int .i64 (i:Nat)]/\∃ec,kI h g h.next ec ((L.take i).flatMap (fT a b))) L.length (by omega)
  (P:=λx vs g=>x=.exit 0/\(∃b,vs=[b])/\∃ec,kI h g h.next ec (L.flatMap (fT a b)))
  ⟨rfl,_,by simpa using I7,bw,by omega⟩ ?_ ?_
 ·rintro i vs g U ⟨rfl,ec,j⟩;have lu:=j.lt;simp only[bn,bd,cQ,ak,a1,decide_eq_true_eq];by_cases he:i=L.length
  ·subst he;rw[if_neg (by omega)];rw[List.take_length]at j;exact aJ.pure (.inr ⟨by simp,rfl,⟨_,rfl⟩,ec,j⟩)
  ·rw[if_pos (by omega)];have bK:i<L.length:=by omega
   have ab:L[i]? =some L[i]:=List.getElem?_eq_getElem bK;have er:L[i]∈L:=List.getElem_mem bK;obtain⟨alC,i1,i2,i3⟩:=(rv.ext j.ext).get ab;rw[i1,ak,i3,ak];generalize L[i]=x at*
   have aw:bF .i64 ((i:Int) +1)=((i+1:Nat) :Int):=by rw[wrap_i64 (by omega) (by omega)];omega
   have hD:=en.may x er;have amx:=lB hD
   have mq:∀y,y∈(L.take i).flatMap (fT a b)->y.lo<y.U->y.may=true:=λy an aB=>by obtain⟨r,ah,an⟩:=List.mem_flatMap.1 an;exact Mb (en.may r (List.mem_of_mem_take ah)) an aB
   have hlen:=MR (Xd a b) (L.take i);have r4:(L.take i).length<=8192:=Nat.le_trans (List.length_take_le _ _) (by omega);refine fV (P:=λy vs bH=>y=.normal/\vs=[]/\∃ec,kI h bH h.next ec ((L.take (i+1)).flatMap (fT a b))) ?_ ?_
   ·refine b1 (h:=g) yn λg4 c5 gb bA=> ?_
    refine cb (wi (cs:=x.vs) c5 rfl (by simp[aH.vs]) rfl) λg5 ⟨cS,bZ,n5⟩=> ?_
    have cS:=dC cS rfl;have yA:aX g g5:=bA.local bZ (λk aj e=>by omega);have afi:=yA.next;have tQ:=j.more yA;have th:rj h.next ec g.next:=j.fresh (Nat.le_refl _)
    have one:fT a b x=[x]->aJ (cd (dJ ai g5 47 (.ptr g.next 0)) λv21=>eM (call ai PV (.func 242 [] [.ptr h.next 0]) [v21] g5) λv22 dR=>some (.normal,[],dR)) λy vs bH=>y=.normal/\vs=[]/\∃ec,kI h bH h.next ec ((L.take (i+1)).flatMap (fT a b)):=λaA=>by rw[i' cS (by simp[aH.vs])];rw[ak,uD];refine bS (tQ.put (Nat.le_refl _) mq (tW hD) (Nat.le_trans (by omega:_<=65536) vO)) ?_;rintro _ g6 ⟨rfl,ym,n3,b3,hY,n6⟩;exact aJ.pure ⟨rfl,rfl,ym,by rw[MT _ ab,aA];exact n3⟩
    simp only[fk];by_cases bc:b<=a
    ·simp only[ak,decide_eq_true bc,cJ,Bool.true_eq_false,if_false,cO,bn,bd,cB,if_true,a1];exact one (by unfold fT;rw[if_pos (.inl bc)])
    ·simp only[ak,decide_eq_false bc,cJ,if_true,uw,sR,Nat.zero_add,b6,Obj.get cS (i:=0) rfl,Obj.get cS (i:=1) rfl,h2,fk,cO,bn,bd,cB,Bool.false_eq_true,if_false];by_cases bW:x.U<=a
     ·simp only[decide_eq_true bW,cJ,Bool.true_eq_false,if_false,cO,bn,bd,cB,if_true,ak,a1];exact one (by unfold fT;rw[if_pos (.inr (.inl bW))])
     ·simp only[decide_eq_false bW,cJ,if_true,ak,cO,bn,bd,cB,Bool.false_eq_true,if_false,Obj.get cS (i:=0) rfl,fk,a1];by_cases dA:b<=x.lo
      ·simp only[decide_eq_true dA,if_true];exact one (by unfold fT;rw[if_pos (.inr (.inr dA))])
      ·simp only[decide_eq_false dA,Bool.false_eq_true,if_false];have aA:fT a b x=[x.part x.lo a,x.part b x.U]:=by unfold fT;rw[if_neg (by omega)]
       rw[i' cS (by simp[aH.vs])];simp only[uD,Obj.get cS (i:=0) rfl,ak];have vw:kj x.lo:=by unfold kj;omega
       have abR:kj x.U:=by unfold kj;omega
       unfold kj at aU af;refine bS (Qy g5 (tW hD) (a:=x.lo) (b:=a) (by omega)) ?_;rintro _ g6 ⟨rfl,b3⟩;have n3:=tQ.more b3;have di:=cS.ext b3 (by omega);have n6:=b3.next;refine bS (n3.put (Nat.le_refl _) mq (Qz hD vw aU) (Nat.le_trans (by omega:_<=65536) vO)) ?_;rintro _ g7 ⟨rfl,AU,nf,dM,tg,n7⟩;have dP:=dM _ _ (by omega) th di;have alw:=tg _ (by omega) th;rw[i' dP (by simp[aH.vs])];simp only[uD,Obj.get dP (i:=1) rfl,ak];refine bS (Qy g7 (tW hD) (a:=b) (b:=x.U) (by omega)) ?_;rintro _ g8 ⟨rfl,u8⟩;have OD:=nf.more u8
       have aaC:∀y,y∈(L.take i).flatMap (fT a b)++[x.part x.lo a]->y.lo<y.U->y.may=true:=λy an aB=>by
        rcases List.mem_append.1 an with an|an
        ·exact mq y an aB
        ·refine Mb (a:=a) (b:=b) hD ?_ aB;rw[aA];simp at an;simp[an]
       refine bS (OD.put (Nat.le_refl _) aaC (Qz hD af abR) (Nat.le_trans (by simp only[List.length_append,List.length_cons,List.length_nil];omega:_<=65536) vO)) ?_;rintro _ g9 ⟨rfl,aiV,acq,_⟩;exact aJ.pure ⟨rfl,rfl,aiV,by rw[MT _ ab,aA];simpa using acq⟩
   ·rintro _ _ g6 ⟨rfl,rfl,ym,n3⟩;simp only[bd,hf,cP,aw,ak];exact aJ.pure (.inl ⟨rfl,by omega,rfl,ym,n3⟩)
 ·rintro _ vs g ⟨rfl,⟨ea,rfl⟩,ec,j⟩;simp only[bn,bd,fZ,if_true];obtain⟨df,cR,uq,Iz⟩:=Ss j.out;rw[cR];simp only[c1];exact aJ.pure ⟨j.ext,uq,λb af=>by have:=Iz b af;omega⟩
theorem ae8(a b:Int) :jH (.int .i64 a) [.int .i64 b]=some (.int .i64 (max a b)):=by
 show some (J.int .i64 (bif mE a b then b else a))=_;by_cases c:a<b
 ·rw[show mE a b=true by rw[oa];simpa using c];show some (J.int .i64 b)=_;rw[show max a b=b by omega]
 ·rw[show mE a b=false by rw[oa];simpa using c];show some (J.int .i64 a)=_;rw[show max a b=a by omega]
theorem afc(a b:Int) :jI (.int .i64 a) [.int .i64 b]=some (.int .i64 (min a b)):=by
 show some (J.int .i64 (bif mE b a then b else a))=_;by_cases c:b<a
 ·rw[show mE b a=true by rw[oa];simpa using c];show some (J.int .i64 b)=_;rw[show min a b=b by omega]
 ·rw[show mE b a=false by rw[oa];simpa using c];show some (J.int .i64 a)=_;rw[show min a b=a by omega]
end
section
variable{PV:cw} [db PV]
def gk(h:ag)(sz:Nat)(v:J)(rows:List (List J)) :Prop:=
 (∀r,r∈rows->r.length=sz)/\((v=.bh/\rows=[])\/∃b cap ex ha,v=.slice b 0 rows.length cap sz ex/\b<h.next/\rows.length<=cap/\a6.Obj h b (rows.flatten++ha)/\ha.length=(cap-rows.length) *sz)
theorem gk.aq{h g:ag}{sz:Nat}{v:J}{rows:List (List J)}(r:gk h sz v rows){S:Nat->Prop}(u:aF S h g)(au:∀b,ch v=some b->¬S b) :gk g sz v rows:=by
 refine⟨r.1,?_⟩;rcases r.2 with h1|⟨b,cap,ex,ha,rfl,aa,av,aO,bb⟩
 ·exact .inl h1
 ·exact .inr ⟨b,cap,ex,ha,rfl,Nat.lt_of_lt_of_le aa u.next,av,aO.aq u aa (au b rfl),bb⟩
theorem gk.ext{h g:ag}{sz:Nat}{v:J}{rows:List (List J)}(r:gk h sz v rows)(u:aX h g) :gk g sz v rows:=r.aq u λ_ _ e=>e
theorem gk.nil(h:ag)(sz:Nat) :gk h sz .bh []:=⟨by simp,.inl ⟨rfl,rfl⟩⟩
theorem gk.len{h:ag}{sz:Nat}{v:J}{rows:List (List J)}(r:gk h sz v rows){T e:TypeId}{si:bm}(aN:ai.ty T=some si)(ao:si.desc=.slice e) :eW ai h T v=some (.int .i64 (rows.length:Nat)):=by
 rcases r.2 with⟨rfl,rfl⟩ |⟨b,cap,ex,ha,rfl,_⟩
 ·exact H7 aN ao h
 ·exact H8 aN ao h _ _ _ _ _ _
theorem gk.at{h:ag}{sz:Nat}{v:J}{rows:List (List J)}(r:gk h sz v rows){i:Nat}{x:List J}(U:rows[i]? =some x) :
  ∃b cap ex l,v=.slice b 0 rows.length cap sz ex/\b<h.next/\a6.Obj h b l/\i<rows.length/\(i+1) *sz<=l.length/\(l.drop (i*sz)).take sz=x/\∀j,j<sz->bE h b (i*sz+j)=x[j]? :=by
 obtain⟨bK,_⟩:=List.getElem?_eq_some_iff.1 U;rcases r.2 with⟨rfl,rfl⟩ |⟨b,cap,ex,ha,rfl,aa,av,o,bb⟩
 ·simp at bK
 ·have lr:=rM r.1;have hm:(i+1) *sz<=rows.length*sz:=Nat.mul_le_mul_right _ bK
  have ao:((rows.flatten++ha).drop (i*sz)).take sz=x:=by
   have au:i*sz+sz=(i+1) *sz:=by rw[Nat.succ_mul]
   rw[List.drop_append,List.take_append_of_le_length (by rw[List.length_drop];omega)];exact Cf r.1 U
  refine⟨b,cap,ex,_,rfl,aa,o,bK,by rw[List.length_append];omega,ao,λj az=> ?_⟩;rw[o.rd,<-ao,List.getElem?_take,if_pos az,List.getElem?_drop]
theorem QB{f:FuncId}{q:List J->ag->Option (J×ag)}(aB:PV f=some q){args:List J}{h:ag}{r:J×ag}(ay:q args h=some r) :call ai PV (.func f [] []) args h=some r:=by
 refine tm.2 ⟨1,?_⟩
 show(match PV f with
  |some q=>match q args h with
   |some r=>some r
   |none=>km ai (fns ai PV 0) (.func f [] []) args h
  |none=>km ai (fns ai PV 0) (.func f [] []) args h)=_
 rw[aB]
 show(match q args h with
  |some r=>some r
  |none=>km ai (fns ai PV 0) (.func f [] []) args h)=_
 rw[ay]
theorem ahJ(l k:Nat) :sG l 0 k=0:=by
 induction k with
 |zero=>rfl
 |succ k bI=>
  show 0+(sG l 0 k) <<< (8*l)=0;rw[bI];simp
theorem ahL(h:ag){k:Nat}(aj:k<=64) :call ai PV (.func 296 [] []) [.str 1 0,.int .i64 k] h=some (.str k 0,h):=by refine QB (q:=DX) ((db.same 296 rfl).trans (by kernel_rfl)) ?_;show(bif Nat.ble (1*k) 140737488355328&&Nat.ble k 9223372036854775807 then some (J.str (1*k) (sG 1 0 k),h)else none)=_;rw[dr.2 (by omega),dr.2 (by omega),ahJ,Nat.one_mul];rfl
theorem aeP(h:ag)(l n:Nat) :eW ai h 9 (.str l n)=some (.int .i64 l):=by kernel_rfl
theorem RA(h:ag){l n r:Nat}(ah:r<=l) :ik ai h 9 (.str l n) none (some (.int .i64 r)) none=some (.str r (n%2^(8*r))):=by
 have aw:ai.ty 9=some uA:=by kernel_rfl
 show jP ai h 9 (.str l n) none (some (r:Int)) none=_;simp only[jP,aw]
 show(match iv l l true none (some (r:Int)) none with
  |some (l,h,_,_)=>some (J.str (h-l) ((n>>> (8*l)) %2^(8*(h-l))))
  |none=>none)=_
 simp only[iv,mY ah];rfl
theorem Qe(h:ag){l n:Nat}(ar:l<=64)(al:n<2^(8*l)) :call ai PV (.func 213 [] []) [.str l n,.int .i64 64] h=some (.str 64 n,h):=by
 refine adC (x:=.ret) (vs:=[.str 64 n]) (first:=[]) (cap:=[]) ?_ rfl;have em:max (64:Int) 0=64:=by decide
 simp only[ae8,em,ak,aeP,fk,a1];by_cases c:(64:Int)<=(l:Nat)
 ·have:l=64:=by omega
  subst this;rw[if_pos (by simp)];have:=RA h (l:=64) (n:=n) (r:=64) (Nat.le_refl _);rw[show(J.int .i64 64)=.int .i64 ((64:Nat) :Int)from rfl,this];rw[Nat.mod_eq_of_lt al];rfl
 ·rw[if_neg (by simpa using c)];have aw:bF .i64 (64-(l:Int))=((64-l:Nat) :Int):=by rw[wrap_i64 (by omega) (by omega)];omega
  simp only[e4,aw,ak,ahL h (show 64-l<=64 by omega),c1,VW,Ei];rw[show Nat.blt (l+(64-l)) 4611686018427387904=true by rw[c4];omega];simp only[cond_true,ak,Nat.zero_shiftLeft,Nat.add_zero,show l+(64-l)=64 by omega]
structure ir where
 nl:Nat
 sq:Nat
 size:Nat
 cm:J
 ext:List (Nat×Nat)
def ir.vs(n:ir) :List J:=[.str n.nl n.sq,.int .i64 n.size,n.cm]
def uY(x:Nat×Nat) :List J:=[.int .i64 x.1,.int .i64 x.2]
def loc:List (Nat×Nat)->Nat->Option Nat
 |[],_=>none
 |x::r,p=>if p<x.2 then some (x.1+p)else loc r (p-x.2)
structure kH where
 f:Nat
 l3:J
 used:Nat
 cx:List ir
structure kg(h:ag)(F:kH)(D:im) :Prop where
 lt:F.f<h.next
 str:∃m,a6.Obj h F.f [.ptr D.d 0,.int .i64 F.used,F.l3,m]
 nodes:gk h 3 F.l3 (F.cx.map ir.vs)
 oK:F.cx.length<=65536
 exts:∀n,n∈F.cx->gk h 2 n.cm (n.ext.map uY)
 JE:∀n,n∈F.cx->dT n.cm=true
 ok:∀n,n∈F.cx->n.size<=1048576/\n.ext.length<=16000/\(∀x,x∈n.ext->x.1<=1048576/\x.2<=1048576)/\∀p,p<(n.size+63) /64->∃s,loc n.ext p=some s/\s<D.n
 apart:(∀b,ch F.l3=some b->b≠D.d)/\(∀n b,n∈F.cx->ch n.cm=some b->b≠D.d)/\F.f≠D.d
def fileAt(cx:List ir)(sec:Nat->Nat)(f p:Int) :Option Nat:=
 if f<0 then none else match cx[f.toNat]? with
  |none=>none
  |some n=>if p<0\/((n.size+63) /64:Nat)<=p then none else match loc n.ext p.toNat with
   |none=>none
   |some s=>some (sec s%2^(8*min 64 (n.size-64*p.toNat)))
section
variable{h g:ag}{F:kH}{D:im}{sec:Nat->Nat}{dH:Nat}
theorem kg.aq{S:Nat->Prop}(k:kg h F D)(u:aF S h g)(au:¬S F.f/\(∀b,ch F.l3=some b->¬S b)/\∀n b,n∈F.cx->ch n.cm=some b->¬S b) :kg g F D where
 lt:=Nat.lt_of_lt_of_le k.lt u.next
 str:=let⟨m,o⟩:=k.str;⟨m,o.aq u k.lt au.1⟩
 nodes:=k.nodes.aq u au.2.1
 oK:=k.oK
 exts:=λn al=>(k.exts n al).aq u λb=>au.2.2 n b al
 JE:=k.JE
 ok:=k.ok
 apart:=k.apart
theorem kg.ext(k:kg h F D)(u:aX h g) :kg g F D:=k.aq u ⟨λe=>e,λ_ _ e=>e,λ_ _ _ _ e=>e⟩
theorem MX(h:ag){n:Nat}(al:n<=1048576) :call ai PV (.func 217 [] []) [.int .i64 n] h=some (.int .i64 ((n+63) /64:Nat),h):=by
 refine adE (x:=.ret) (vs:=[.int .i64 ((n+63) /64:Nat)]) (first:=[]) (cap:=[]) ?_ rfl;have aw:bF .i64 ((n:Int) +64)=((n+64:Nat) :Int):=by rw[wrap_i64 (by omega) (by omega)];omega
 have aL:bF .i64 (((n+64:Nat) :Int) -1)=((n+63:Nat) :Int):=by rw[wrap_i64 (by omega) (by omega)];omega
 have bo:bF .i64 (((n+63:Nat) :Int).tdiv 64)=((((n+63) /64:Nat)) :Int):=by rw[show((n+63:Nat) :Int).tdiv 64=(((n+63) /64:Nat) :Int)from rfl,wrap_i64 (by omega) (by omega)]
 simp only[cP,aw,ak,e4,aL,yP .i64 (show(64:Int)≠0 by decide),bo]
theorem MH(k:kg h F D) :call ai PV (.func 429 [] []) [.ptr F.f 0] h=some (.int .i64 (F.cx.length:Nat),h):=by
 obtain⟨m,o⟩:=k.str;refine aem (x:=.ret) (vs:=[.int .i64 (F.cx.length:Nat)]) (first:=[]) (cap:=[]) ?_ rfl;have ar:=k.nodes.len (T:=197) (si:=Kr) (by kernel_rfl) rfl;rw[List.length_map]at ar;have e:∀a b:Nat,cV ai h .eql 83 (.ptr a b) .nilPtr=some (.bool false):=λa b=>QA (i:=Kv) (by kernel_rfl) rfl h a b
 simp only[e,ak,a1,Bool.false_eq_true,if_false,b2,Eu,Nat.zero_add,EA,Obj.get o (i:=2) rfl,ar]
end
theorem JD{l a:Nat}{s:Int}{w:J}(hw:dT w=true) :([J.str l a,.int .i64 s,w] :List J).all dT=true:=by show(true&&(true&&(dT w&&true)))=true;rw[hw];rfl
theorem ale:dW ai 204 []=some (.agg [.str 0 0,.int .i64 0,.bh]):=by kernel_rfl
theorem VD{h:ag}{v:J}{rows:List (List J)}(r:gk h 2 v rows)(au:∀x,x∈rows->x.all dT=true)(al:rows.length<=2^30) :∃w g,fJ ai h 202 202 .bh v=some (w,g)/\(aX h g/\dT w=true/\w.cells=[w]):=by
 rcases r.2 with⟨rfl,rfl⟩ |⟨b,cap,ex,ha,rfl,aa,av,o,bb⟩
 ·exact⟨_,h,Fq (E:=ai) (T:=202) (si:=yx) (ie:=A7) (by kernel_rfl) rfl (by kernel_rfl) (.inl rfl) rfl,aF.refl _ _,rfl,rfl⟩
 ·cases ah:rows with
  |nil=>
   subst ah;exact⟨_,h,Fq (E:=ai) (T:=202) (si:=yx) (ie:=A7) (by kernel_rfl) rfl (by kernel_rfl) (.inl rfl) rfl,aF.refl _ _,rfl,rfl⟩
  |cons x rs=>
   have lr:=rM r.1
   have ab:jM h b 0 ((rs.length+1) *2)=some rows.flatten:=by have:=o.cells 0 (rows.flatten.length) (by simp);rw[lr,ah]at this;rw[show(rs.length+1) *2=(x::rs).length*2 from rfl,this];simp only[List.drop_zero];rw[List.take_append_of_le_length (by rw[<-ah,lr,ah];exact Nat.le_refl _),List.take_of_length_le (by rw[<-ah,lr,ah];exact Nat.le_refl _),ah]
   obtain⟨g,g1,g2,g3,g4⟩:=BE (E:=ai) (T:=202) (si:=yx) (ie:=A7) (by kernel_rfl) rfl (by kernel_rfl) rfl (by decide) (n:=rs.length) (xid:=b) (xoff:=0) (xcap:=cap) (xex:=ex) ab (by rw[lr,ah];rfl) (by
    have:rs.length+1<=2^30:=by rw[ah]at al;exact al
    show roomy _ 16=true;unfold roomy;rw[Bool.and_eq_true,dr,dr]
    omega)
   exact⟨_,g,g1,g3,rfl,rfl⟩
theorem X9(l:List (Nat×Nat)) :∀x,x∈l.map uY->x.all dT=true:=by intro x ab;obtain⟨y,_,rfl⟩:=List.mem_map.1 ab;rfl
theorem acb{h:ag}{F:kH}{D:im}(k:kg h F D){i:Nat}{n:ir}(U:F.cx[i]? =some n) :bN (call ai PV (.func 375 [] []) [.ptr F.f 0,.int .i64 i] h) λv g=>(∃w,v=.tuple [.agg [.str n.nl n.sq,.int .i64 n.size,w],.int .i64 0]/\dT w=true)/\aX h g:=by
 refine cF Pa rfl ?_;obtain⟨bK,_⟩:=List.getElem?_eq_some_iff.1 U;have er:n∈F.cx:=List.mem_of_getElem? U;have tG:=k.oK;refine b1 AX λg1 bU dF aW=> ?_
 have a':=k.ext aW;obtain⟨m,o⟩:=a'.str;have dI:¬(i:Int) <0:=by omega
 have bc:¬(F.cx.length:Int)<=(i:Int):=by omega
 obtain⟨b,cap,ex,l,ae,af,ol,_,CK,Nq,h_⟩:=a'.nodes.at (i:=i) (x:=n.vs) (by simp[U]);rw[List.length_map]at ae;simp only[cQ,decide_eq_false dI,ak,cJ,if_true,MH a',c1,fk,decide_eq_false bc,cO,bn,bd,cB,Bool.false_eq_true,if_false,a1,b2,Eu,Nat.zero_add,EA,Obj.get o (i:=2) rfl,ae,Ka bK];rw[EB ol (by omega),Nq];simp only[ak];refine b1 AX λg2 cc dS a_=> ?_
 refine cb (A6 (k:=0) (cs:=n.vs) cc rfl (by simp[ir.vs]) (JD (k.JE n er))) λg3 ⟨b8,bw,eH⟩=> ?_
 have b8:=dC b8 rfl;have kb:aX g1 g3:=a_.local bw (λj az e=>by omega);simp only[R7,Nat.zero_add,ak,Sk,Obj.get b8 (i:=2) rfl];obtain⟨w,g4,lj,bA,bV,dV⟩:=VD (((a'.exts n er)).ext kb) (X9 _) (by rw[List.length_map];have:=(k.ok n er).2.1;exact Nat.le_trans this (by decide));rw[lj];simp only[c1];have vN:=b8.ext bA (by omega);refine cb (aj5 (k:=2) (v:=w) vN (by simp[ir.vs]) dV bV) λg5 ⟨cS,bZ,n5⟩=> ?_
 rw[EB cS (by simp[ir.vs])];simp only[ak];have gb:=bA.next;have jr:=((bU.ext kb (by omega)).ext bA (by omega)).aq bZ (by omega) (by omega);refine cb (A6 (k:=0) (cs:=[.str n.nl n.sq,.int .i64 n.size,w]) jr rfl (by simp) (JD bV)) λg6 ⟨di,b3,n6⟩=> ?_
 have di:=dC di rfl;rw[EB di (by simp)];simp only[ak];refine aJ.pure ⟨⟨w,rfl,bV⟩,?_⟩;exact(((aW.trans kb).trans bA).local bZ (λj az e=>by omega)).local b3 (λj az e=>by omega)
theorem aca{h:ag}{F:kH}{D:im}(k:kg h F D){i:Int}(U:i<0\/(F.cx.length:Int)<=i) :bN (call ai PV (.func 375 [] []) [.ptr F.f 0,.int .i64 i] h) λv g=>v=.tuple [.agg [.str 0 0,.int .i64 0,.bh],.int .i64 14]/\aX h g:=by
 refine cF Pa rfl ?_;refine b1 AX λg1 bU dF aW=> ?_
 have a':=k.ext aW
 have fin:aJ (cd (dW ai 204 []) λyD=>cd (dU ai g1 204 (.ptr h.next 0) yD) λaO=>cd (dJ ai aO 204 (.ptr h.next 0)) λpk=>some (cW.ret,[pk,.int .i64 14],aO)) λ_ vs g=>iY vs=.tuple [.agg [.str 0 0,.int .i64 0,.bh],.int .i64 14]/\aX h g:=by
  rw[ale,ak];refine cb (A6 (k:=0) (cs:=[.str 0 0,.int .i64 0,.bh]) bU rfl (by simp) rfl) λg6 ⟨di,b3,n6⟩=> ?_
  have di:=dC di rfl;rw[EB di (by simp)];exact aJ.pure ⟨rfl,aW.local b3 (λj az e=>by omega)⟩
 by_cases dI:i<0
 ·simp only[cQ,decide_eq_true dI,ak,cJ,Bool.true_eq_false,if_false,cO,bn,bd,cB,if_true,a1];exact fin
 ·have bc:(F.cx.length:Int)<=i:=by omega
  simp only[cQ,decide_eq_false dI,ak,cJ,if_true,MH a',c1,fk,decide_eq_true bc,cO,bn,bd,cB,Bool.false_eq_true,if_false,a1];exact fin
theorem MY{h:ag}{F:kH}{D:im}(k:kg h F D){i:Nat}{n:ir}(U:F.cx[i]? =some n) :bN (call ai PV (.func 307 [] []) [.ptr F.f 0,.int .i64 i] h) λv g=>v=.int .i64 ((n.size+63) /64:Nat)/\aX h g:=by
 refine cF O_ rfl ?_;refine bS (acb k U) ?_;rintro _ g1 ⟨⟨w,rfl,hw⟩,aW⟩;simp only[fM,List.getElem?_cons_zero,List.getElem?_cons_succ,ak];refine b1 AX λg2 cc dS a_=> ?_
 refine cb (A6 (k:=0) (cs:=[.str n.nl n.sq,.int .i64 n.size,w]) cc rfl (by simp) (JD hw)) λg3 ⟨b8,bw,eH⟩=> ?_
 have b8:=dC b8 rfl;simp only[J3,Nat.zero_add,ak,b6,Obj.get b8 (i:=1) rfl,MX g3 (k.ok n (List.mem_of_getElem? U)).1,c1];exact aJ.pure ⟨rfl,(aW.trans a_).local bw (λj az e=>by have:=aW.next;omega)⟩
theorem YG{h:ag}{F:kH}{D:im}(k:kg h F D){i:Int}(U:i<0\/(F.cx.length:Int)<=i) :bN (call ai PV (.func 307 [] []) [.ptr F.f 0,.int .i64 i] h) λv g=>v=.int .i64 0/\aX h g:=by
 refine cF O_ rfl ?_;refine bS (aca k U) ?_;rintro _ g1 ⟨rfl,aW⟩;simp only[fM,List.getElem?_cons_zero,List.getElem?_cons_succ,ak];refine b1 AX λg2 cc dS a_=> ?_
 refine cb (A6 (k:=0) (cs:=[.str 0 0,.int .i64 0,.bh]) cc rfl (by simp) rfl) λg3 ⟨b8,bw,eH⟩=> ?_
 have b8:=dC b8 rfl;have:=MX g3 (n:=0) (by decide);simp only[J3,Nat.zero_add,ak,b6,Obj.get b8 (i:=1) rfl];rw[show(J.int .i64 0)=.int .i64 ((0:Nat) :Int)from rfl,this];simp only[c1];exact aJ.pure ⟨rfl,(aW.trans a_).local bw (λj az e=>by have:=aW.next;omega)⟩
theorem aeR{l:List (Nat×Nat)}{i:Nat}{x:Nat×Nat}(U:l[i]? =some x)(p:Nat) :loc (l.drop i) p=if p<x.2 then some (x.1+p)else loc (l.drop (i+1)) (p-x.2):=by obtain⟨bK,he⟩:=List.getElem?_eq_some_iff.1 U;rw[List.drop_eq_getElem_cons bK,he];rfl
theorem kg.node{h:ag}{F:kH}{D:im}(k:kg h F D){i:Nat}{n:ir}(U:F.cx[i]? =some n) :∃m b cap ex,a6.Obj h F.f [.ptr D.d 0,.int .i64 F.used,.slice b 0 F.cx.length cap 3 ex,m]/\i<F.cx.length/\∀j,j<3->bE h b (i*3+j)=n.vs[j]? :=by obtain⟨bK,_⟩:=List.getElem?_eq_some_iff.1 U;obtain⟨m,o⟩:=k.str;obtain⟨b,cap,ex,l,ae,af,ol,_,CK,Nq,h_⟩:=k.nodes.at (i:=i) (x:=n.vs) (by simp[U]);rw[List.length_map]at ae;rw[ae]at o;exact⟨m,b,cap,ex,o,bK,h_⟩
theorem agQ{h:ag}{F:kH}{D:im}{sec:Nat->Nat}{dH:Nat}(k:kg h F D)(kd:eX h D sec dH){i:Nat}{n:ir}(U:F.cx[i]? =some n){p s:Nat}(aD:p<(n.size+63) /64)(au:loc n.ext p=some s) :
  bN (call ai PV (.func 229 [] []) [.ptr F.f 0,.int .i64 i,.int .i64 p] h) λv g=>v=.tuple [.str 64 (sec s%2^(8*min 64 (n.size-64*p))),.int .i64 0]/\eX g D sec dH/\aF (λj=>j=D.d) h g:=by
 refine cF O5 rfl ?_;have er:n∈F.cx:=List.mem_of_getElem? U;obtain⟨E5,z2,z3,z4⟩:=k.ok n er;have abi:s<D.n:=by obtain⟨aS,aw,aL⟩:=z4 p aD;rw[au]at aw;cases aw;exact aL
 have Np:=kd.n;have dI:¬(p:Int) <0:=by omega
 simp only[cQ,decide_eq_false dI,ak,cJ,if_true];refine fV (P:=λx w g=>x=.normal/\w=[.bool false]/\aX h g) ?_ ?_
 ·refine bS (MY k U) ?_;rintro _ g1 ⟨rfl,aW⟩;have bc:¬(((n.size+63) /64:Nat) :Int)<=(p:Int):=by omega
  simp only[fk,decide_eq_false bc,ak];exact aJ.pure ⟨rfl,rfl,aW⟩
 ·rintro _ _ aa ⟨rfl,rfl,a_⟩;have bR:=k.ext a_;have acy:=kd.ext a_;obtain⟨m,b,cap,ex,o,bK,h_⟩:=bR.node U;have cK:=h_ 2 (by decide);simp only[bn,bd,cB,Bool.false_eq_true,if_false,ak,a1,b2,Eu,Nat.zero_add,EA,Obj.get o (i:=2) rfl,Ka bK,R7,Sk,cK,ir.vs,List.getElem?_cons_zero,List.getElem?_cons_succ];have ar:=(bR.exts n er).len (T:=202) (si:=yx) (by kernel_rfl) rfl;rw[List.length_map]at ar;rw[ar];simp only[ak]
  refine gW (n:=14) (I:=λi vs g=>∃r,vs=[.int .i64 (r:Nat),.str 0 0,.int .i64 (i:Nat)]/\loc (n.ext.drop i) r=some s/\r<=p/\aX aa g) (m:=n.ext.length)
   (P:=λx vs g=>∃a c,x=.exit 0/\vs=[a,.str 64 (sec s),c]/\eX g D sec dH/\aF (λj=>j=D.d) aa g) (Nat.lt_of_le_of_lt z2 (by decide)) ⟨p,rfl,au,Nat.le_refl _,aF.refl _ _⟩ ?_ ?_
  ·rintro j _ av az ⟨r,rfl,ah,amt,bw⟩;have amp:p<16385+1048576:=by omega
   have xr:j<n.ext.length:=by
    rcases Nat.lt_or_ge j n.ext.length with h|h
    ·exact h
    ·rw[List.drop_of_length_le h]at ah;cases ah
   have rE:(j:Int) <(n.ext.length:Int):=by omega
   have ab:n.ext[j]? =some n.ext[j]:=List.getElem?_eq_getElem xr;generalize n.ext[j]=x at ab;have hD:x∈n.ext:=List.mem_of_getElem? ab;obtain⟨am8,am9⟩:=z3 x hD;have bY:=bR.ext bw;obtain⟨ea,LY,fC,bz,e9,hi,agc,_,ama,rY,_⟩:=(bY.exts n er).at (i:=j) (x:=uY x) (by simp[ab]);rw[List.length_map]at e9;simp only[bn,bd,cQ,decide_eq_true rE,ak,a1,if_true,e9,ajI xr,Nat.zero_add];rw[ajM agc (by omega),rY];simp only[ak];refine b1 ai1 λg4 c5 gb bA=> ?_
   refine cb (aj6 (k:=0) (cs:=uY x) c5 rfl (by simp[uY]) rfl) λg5 ⟨cS,bZ,n5⟩=> ?_
   have cS:=dC cS rfl;have s4:aX av g5:=bA.local bZ (λj az e=>by omega);have eR:bE g5 av.next 0=some (.int .i64 (x.1:Nat)):=cS.rd 0;have s1:bE g5 av.next 1=some (.int .i64 (x.2:Nat)):=cS.rd 1;simp only[aju,ajt,Nat.zero_add,b6,s1,ak,cQ];rw[aeR ab]at ah;by_cases c:r<x.2
   ·have gz:(r:Int) <(x.2:Int):=by omega
    rw[if_pos c]at ah;have Hs:x.1+r=s:=Option.some.inj ah;have aw:bF .i64 ((x.1:Int) +(r:Int))=((s:Nat) :Int):=by rw[wrap_i64 (by omega) (by omega)];omega
    obtain⟨fE,af1⟩:=(bY.ext s4).str;have f0:bE g5 F.f 0=some (.ptr D.d 0):=af1.rd 0;simp only[decide_eq_true gz,a1,if_true,b2,ajv,ak,wc,b6,cT,f0,eR,cP,aw];have bC:aX g5 (g5.aV 13):=aF.aV _ _ _;have acz:=acy.ext ((bw.trans s4).trans bC);refine bS (Mm acz abi) ?_;rintro _ g6 ⟨rfl,eG,b3⟩;simp only[fM,List.getElem?_cons_zero,List.getElem?_cons_succ,ak,dh];exact aJ.pure (.inr ⟨by simp,_,_,rfl,rfl,eG,(aF.ext ((bw.trans s4).trans bC)).trans b3⟩)
   ·have gz:¬(r:Int) <(x.2:Int):=by omega
    rw[if_neg c]at ah;have aw:bF .i64 ((r:Int) -(x.2:Int))=((r-x.2:Nat) :Int):=by rw[wrap_i64 (by omega) (by omega)];omega
    have aL:bF .i64 ((j:Int) +1)=((j+1:Nat) :Int):=by rw[wrap_i64 (by omega) (by omega)];omega
    simp only[decide_eq_false gz,a1,Bool.false_eq_true,if_false,b6,s1,ak,e4,aw,cP,aL];exact aJ.pure (.inl ⟨rfl,xr,r-x.2,rfl,ah,by omega,bw.trans s4⟩)
  ·rintro _ _ aO ⟨a,c,rfl,rfl,c8,bA⟩;have acw:=bR.aq bA ⟨k.apart.2.2,k.apart.1,k.apart.2.1⟩;obtain⟨fE,ea,LY,fC,bL,kU,aba⟩:=acw.node U;have cg:=aba 1 (by decide);have aw:bF .i64 ((p:Int) *64)=((64*p:Nat) :Int):=by rw[wrap_i64 (by omega) (by omega)];omega
   have aL:bF .i64 ((n.size:Int) -((64*p:Nat) :Int))=((n.size-64*p:Nat) :Int):=by rw[wrap_i64 (by omega) (by omega)];omega
   have bo:min ((n.size-64*p:Nat) :Int) 64=((min 64 (n.size-64*p) :Nat) :Int):=by omega
   have eh:=Qe aO (l:=min 64 (n.size-64*p)) (n:=sec s%2^(8*min 64 (n.size-64*p))) (by omega) (Nat.mod_lt _ (Nat.two_pow_pos _));simp only[bn,bd,fZ,if_true,b2,Eu,Nat.zero_add,ak,EA,Obj.get bL (i:=2) rfl,Ka kU,J3,b6,cg,ir.vs,List.getElem?_cons_zero,List.getElem?_cons_succ,k',aw,e4,aL,afc,bo];rw[RA aO (l:=64) (r:=min 64 (n.size-64*p)) (by omega)];simp only[ak,eh,c1];exact aJ.pure ⟨rfl,c8,(aF.ext a_).trans bA⟩
theorem agP{h:ag}{F:kH}{D:im}{sec:Nat->Nat}(k:kg h F D){i p:Int}(al:fileAt F.cx sec i p=none) :
  bN (call ai PV (.func 229 [] []) [.ptr F.f 0,.int .i64 i,.int .i64 p] h) λv g=>v=.tuple [.str 0 0,.int .i64 14]/\aX h g:=by
 refine cF O5 rfl ?_;by_cases dI:p<0
 ·simp only[cQ,decide_eq_true dI,ak,cJ,Bool.true_eq_false,if_false,cO,bn,bd,cB,if_true,a1];exact aJ.pure ⟨rfl,aF.refl _ _⟩
 ·simp only[cQ,decide_eq_false dI,ak,cJ,if_true];refine fV (P:=λx w g=>x=.normal/\w=[.bool true]/\aX h g) ?_ ?_
  ·by_cases U:i<0\/(F.cx.length:Int)<=i
   ·refine bS (YG k U) ?_;rintro _ g1 ⟨rfl,aW⟩;simp only[fk,decide_eq_true (show(0:Int)<=p by omega),ak];exact aJ.pure ⟨rfl,rfl,aW⟩
   ·have bK:i.toNat<F.cx.length:=by omega
    have ab:F.cx[i.toNat]? =some F.cx[i.toNat]:=List.getElem?_eq_getElem bK;generalize F.cx[i.toNat]=n at ab;have eb:i=(i.toNat:Int):=by omega
    unfold fileAt at al;rw[if_neg (by omega),ab]at al;simp only at al
    have aD:(((n.size+63) /64:Nat) :Int)<=p:=by
     rcases Int.lt_or_le p (((n.size+63) /64:Nat) :Int)with h|h
     ·rw[if_neg (by omega)]at al;obtain⟨s,aw,aL⟩:=(k.ok n (List.mem_of_getElem? ab)).2.2.2 p.toNat (by omega);rw[aw]at al;cases al
     ·exact h
    rw[eb];refine bS (MY k ab) ?_;rintro _ g1 ⟨rfl,aW⟩;simp only[fk,decide_eq_true aD,ak];exact aJ.pure ⟨rfl,rfl,aW⟩
  ·rintro _ _ g ⟨rfl,rfl,u⟩;simp only[bn,bd,cB,Bool.false_eq_true,if_false,if_true,ak,a1];exact aJ.pure ⟨rfl,u⟩
theorem YF{h:ag}{F:kH}{D:im}{sec:Nat->Nat}{dH:Nat}(k:kg h F D)(kd:eX h D sec dH){i p:Int}{m:Nat}(al:fileAt F.cx sec i p=some m) :
  bN (call ai PV (.func 229 [] []) [.ptr F.f 0,.int .i64 i,.int .i64 p] h) λv g=>v=.tuple [.str 64 m,.int .i64 0]/\eX g D sec dH/\aF (λj=>j=D.d) h g:=by
 unfold fileAt at al;by_cases c:i<0
 ·rw[if_pos c]at al;cases al
 rw[if_neg c]at al;cases ab:F.cx[i.toNat]? with
 |none=>rw[ab]at al;cases al
 |some n=>
  rw[ab]at al;simp only at al;by_cases bW:p<0\/(((n.size+63) /64:Nat) :Int)<=p
  ·rw[if_pos bW]at al;cases al
  rw[if_neg bW]at al;cases ar:loc n.ext p.toNat with
  |none=>rw[ar]at al;cases al
  |some s=>
   rw[ar]at al;have:=agQ k kd ab (p:=p.toNat) (by omega) ar;rw[show((i.toNat:Nat) :Int)=i by omega,show((p.toNat:Nat) :Int)=p by omega]at this;rw[Option.some.inj al]at this;exact this
theorem Yi{cx:List ir}{sec:Nat->Nat}{i p:Int}{m:Nat}(al:fileAt cx sec i p=some m) :m<2^512:=by
 unfold fileAt at al;split at al
 ·cases al
 ·split at al
  ·cases al
  ·split at al
   ·cases al
   ·split at al
    ·cases al
    ·rename_i n _ _ _ s _;rw[<-Option.some.inj al];exact Nat.lt_of_lt_of_le (Nat.mod_lt _ (Nat.two_pow_pos _)) (Nat.pow_le_pow_right (by decide) (by omega))
end
section
variable{PV:cw} [db PV]
def ql:J->Bool
 | .slice _ _ _ _ _ ex=> !ex
 |_=>true
theorem wR{T e:TypeId}{si ie:bm}(aN:ai.ty T=some si)(ao:si.desc=.slice e)(he:ai.ty e=some ie)(hu:hF ie.desc=false)(h1:1<=ie.size){h:ag}{b off len cap:Nat}{ex:Bool}{l:List J}(o:a6.Obj h b l)
  {xid xoff n xcap:Nat} {xex:Bool} {new:List J} (ab:jM h xid xoff ((n+1) *ie.size)=some new) (iS:new.length=(n+1) *ie.size) (au:new.all dT=true) (aA:len+(n+1)<=cap) (ar:off+(len+(n+1)) *ie.size<=l.length) :
  ∃g,fJ ai h T T (.slice b off len cap ie.size ex) (.slice xid xoff (n+1) xcap ie.size xex)=some (.slice b off (len+(n+1)) cap ie.size ex,g)/\(a6.Obj g b (l.take (off+len*ie.size)++new++l.drop (off+len*ie.size+new.length))/\aF (λi=>i=b) h g/\g.next=h.next):=by
 have hlen:off+len*ie.size+new.length<=l.length:=by rw[iS];rw[Nat.add_mul]at ar;omega
 obtain⟨bP,bV,dV⟩:=o.writes new (off+len*ie.size) hlen au;refine⟨h.put b bP,?_,dV,aF.put _ rfl,rfl⟩;have rU:Nat.beq ie.size ie.size=true:=beq_true.2 rfl;have jk:Nat.ble 1 ie.size=true:=dr.2 h1;have hle:Nat.ble (len+(n+1)) cap=true:=dr.2 aA;simp only[fJ,aN,ao,he,kv,hu]
 show(bif Nat.beq ie.size ie.size&&Nat.ble 1 ie.size then match jM h xid xoff ((n+1) *ie.size)with
  |none=>none
  |some new=>bif Nat.beq ie.size ie.size&&new.all dT then
   bif Nat.ble (len+(n+1)) cap then match jc h b (off+len*ie.size) new with
    |some h=>some (J.slice b off (len+(n+1)) cap ie.size ex,h)
    |none=>none
   else _ else none else none)=_
 rw[ab];simp only[rU,jk,au,hle,Bool.and_true,cond_true,bV]
theorem gk.push{T e:TypeId}{si ie:bm}(aN:ai.ty T=some si)(ao:si.desc=.slice e)(he:ai.ty e=some ie)(hu:hF ie.desc=false)(h1:1<=ie.size){h:ag}{v:J}{rows:List (List J)}(r:gk h ie.size v rows)(hex:ql v=true)
  {xid xcap:Nat} {xex:Bool} {new:List J} (et:a6.Obj h xid new) (iS:new.length=ie.size) (au:new.all dT=true) (ah:roomy (rows.length+1) ie.bytes=true) :
  ∃w g,fJ ai h T T v (.slice xid 0 1 xcap ie.size xex)=some (w,g)/\(gk g ie.size w (rows++[new])/\ql w=true/\aF (λi=>ch v=some i) h g/\(∃b,ch w=some b/\b<g.next/\(ch v=some b\/h.next<=b))/\w.cells=[w]/\dT w=true):=by
 have ab:jM h xid 0 ((0+1) *ie.size)=some new:=by have:=et.here;rw[iS]at this;simpa using this
 have gn:∀y,y∈rows++[new]->y.length=ie.size:=by
  intro y an;rcases List.mem_append.1 an with an|an
  ·exact r.1 y an
  ·rw[List.mem_singleton]at an;subst an;exact iS
 rcases r.2 with⟨rfl,rfl⟩ |⟨b,cap,ex,ha,rfl,aa,av,o,bb⟩
 ·obtain⟨g,g1,g2,g3,g4⟩:=BE aN ao he hu h1 (n:=0) (xcap:=xcap) (xex:=xex) ab (by omega) (by simpa using ah);refine⟨_,g,g1,⟨gn,.inr ⟨h.next,1,false,[],rfl,by omega,by simp,by simpa using g2,by simp⟩⟩,rfl,aF.ext g3,⟨h.next,rfl,by omega,.inr (Nat.le_refl _)⟩,rfl,rfl⟩
 ·have zp:ex=false:=by simpa [ql]using hex
  subst zp;have lr:=rM r.1;by_cases aA:rows.length+1<=cap
  ·have hm:ie.size<=ha.length:=by
    rw[bb];exact Nat.le_trans (by rw[Nat.one_mul];exact Nat.le_refl _:ie.size<=1*ie.size) (Nat.mul_le_mul_right _ (by omega))
   obtain⟨g,g1,g2,g3,g4⟩:=wR aN ao he hu h1 (n:=0) (off:=0) (len:=rows.length) (cap:=cap) (ex:=false) (xcap:=xcap) (xex:=xex) o ab (by omega) au aA (by rw[List.length_append,lr,Nat.zero_add,Nat.add_mul,Nat.zero_add,Nat.one_mul];omega);refine⟨_,g,g1,⟨gn,.inr ⟨b,cap,false,ha.drop ie.size,by simp,by omega,by simpa using aA,?_,?_⟩⟩,rfl,g3.mono λi _ e=>by subst e;rfl,⟨b,rfl,by omega,.inl rfl⟩,rfl,rfl⟩
   ·rw[Nat.zero_add,<-lr,List.take_left,List.drop_append,List.drop_of_length_le (by omega),List.nil_append]at g2;rw[show rows.flatten.length+new.length-rows.flatten.length=ie.size by omega]at g2;rw[List.flatten_append,List.flatten_singleton];exact g2
   ·rw[List.length_drop,bb,List.length_append,List.length_singleton,<-Nat.sub_sub,Nat.sub_mul (cap-rows.length) 1,Nat.one_mul]
  ·have lq:cap=rows.length:=by omega
   subst lq;have CX:ha=[]:=List.eq_nil_of_length_eq_zero (by rw[bb,Nat.sub_self,Nat.zero_mul]);subst CX;rw[List.append_nil]at o;obtain⟨g,g1,g2,g3,g4⟩:=Fp aN ao he hu h1 (n:=0) (xcap:=xcap) (xex:=xex) (len:=rows.length) o lr ab (by omega) au ah;refine⟨_,g,g1,⟨gn,.inr ⟨h.next,rows.length+1,false,[],by simp,by omega,by simp,by simpa using g2,by simp⟩⟩,rfl,g3.mono λi _ e=>by subst e;rfl,⟨h.next,rfl,by omega,.inr (Nat.le_refl _)⟩,rfl,rfl⟩
theorem Ec{T e:TypeId}{si ie:bm}(aN:ai.ty T=some si)(ao:si.desc=.slice e)(he:ai.ty e=some ie)(h:ag){id off len cap l r m:Nat}{ex fC:Bool}{lo U e':Option Int}(af:iv len cap ex lo U e'=some (l,r,m,fC)) :
  jP ai h T (.slice id off len cap ie.size ex) lo U e'=some (.slice id (off+l*ie.size) (r-l) (m-l) ie.size fC):=by
 have rU:Nat.beq ie.size ie.size=true:=beq_true.2 rfl;simp only[jP,aN,ao,he,af,rU,cond_true]
theorem aiq(h:ag){T:TypeId}{v:J}{a b:Int} :ik ai h T v (some (.int .i64 a)) (some (.int .i64 b)) none=jP ai h T v (some a) (some b) none:=rfl
theorem aio(h:ag){T:TypeId}{v:J}{b:Int} :ik ai h T v none (some (.int .i64 b)) none=jP ai h T v none (some b) none:=rfl
theorem aip(h:ag){T:TypeId}{v:J}{a:Int} :ik ai h T v (some (.int .i64 a)) none none=jP ai h T v (some a) none none:=rfl
theorem air(h:ag){T:TypeId}{v:J}{a b c:Int} :ik ai h T v (some (.int .i64 a)) (some (.int .i64 b)) (some (.int .i64 c))=jP ai h T v (some a) (some b) (some c):=rfl
theorem VP{len cap:Nat}{ex:Bool}{r:Nat}(ah:r<=cap) :iv len cap ex none (some (r:Int)) none=some (0,r,cap,ex):=by simp only[iv,mY ah]
theorem VQ{len cap:Nat}{ex:Bool}{l:Nat}(ar:l<=len) :iv len cap ex (some (l:Int)) none none=some (l,len,cap,ex):=by simp only[iv,mY ar]
theorem VR{len cap:Nat}{ex:Bool}{l r:Nat}(ar:l<=r)(ah:r<=cap) :iv len cap ex (some (l:Int)) (some (r:Int)) none=some (l,r,cap,ex):=by simp only[iv,mY ar,mY ah]
theorem VS{len cap:Nat}{ex:Bool}{l r m:Nat}(ar:l<=r)(ah:r<=m)(hm:m<=cap) :iv len cap ex (some (l:Int)) (some (r:Int)) (some (m:Int))=some (l,r,m,true):=by simp only[iv,mY ar,mY ah,mY hm]
theorem WY{T e:TypeId}{si ie:bm}(aN:ai.ty T=some si)(ao:si.desc=.slice e)(he:ai.ty e=some ie)(hu:hF ie.desc=false)(h1:ie.size=1){z:J}(aI:ie.zero=[z])(ev:dT z=true){h:ag}{id off n cap:Nat}{ex:Bool}{l:List J}(o:a6.Obj h id l)(ar:off+n<=l.length) :
  ∃g,jh ai h T (.slice id off n cap 1 ex)=some g/\(a6.Obj g id (l.take off++List.replicate n z++l.drop (off+n))/\aF (λi=>i=id) h g/\g.next=h.next):=by
 cases n with
 |zero=>
  refine⟨h,by simp only[jh,aN],?_,aF.refl _ _,rfl⟩;simpa using o
 |succ n=>
  have abc:∀k,iH k [z]=List.replicate k z:=λk=>by
   induction k with
   |zero=>rfl
   |succ k bI=>show[z]++iH k [z]=_;rw[bI];rfl
  obtain⟨bP,bV,dV⟩:=o.writes (List.replicate (n+1) z) off (by simpa using ar) (by simp[ev]);refine⟨h.put id bP,?_,by simpa using dV,aF.put _ rfl,rfl⟩;have rU:Nat.beq 1 ie.size=true:=by rw[h1];rfl
  have jk:Nat.ble 1 ie.size=true:=by rw[h1];rfl
  simp only[jh,aN,ao,he,rU,cond_true,hu,aI,jk,abc,bV]
def one(x:J) :List J:=[x]
theorem MS(xs:List J) :(xs.map one).flatten=xs:=by
 induction xs with
 |nil=>rfl
 |cons x xs bI=>rw[List.map_cons,List.flatten_cons,bI];rfl
theorem Xv{h:ag}{v:J}{a b:List J}{x:J}(r:gk h 1 v ((a++x::b).map one))(hex:ql v=true)(au:∀y,y∈b->dT y=true)(al:(a++x::b).length<=65536) :
  bN (call ai PV (.func 317 [] []) [v,.int .i64 (a.length:Nat),.int .i64 ((a.length+1:Nat) :Int)] h) λw g=>gk g 1 w ((a++b).map one)/\ql w=true/\aF (λi=>ch v=some i) h g/\ch w=ch v/\w.cells=[w]/\dT w=true:=by
 refine cF aed rfl ?_;have uV:ai.ty 293=some wo:=by kernel_rfl
 have uW:ai.ty 296=some sZ:=by kernel_rfl
 have CI:(a++x::b).length=a.length+b.length+1:=by simp;omega
 rcases r.2 with⟨_,h0⟩ |⟨id,cap,ex,ha,rfl,aa,av,o,bb⟩
 ·simp at h0
 rw[List.length_map]at av bb;rw[List.length_map]at hex;rw[MS]at o;rw[List.length_map];have GW:ex=false:=by simpa [ql]using hex
 subst GW;rw[CI]at av bb al;rw[CI];have bc:¬((a.length:Nat) :Int)=((a.length+1:Nat) :Int):=by omega
 have s1:=Ec uV rfl uW h (id:=id) (off:=0) (len:=a.length+b.length+1) (cap:=cap) (ex:=false) (VS (len:=a.length+b.length+1) (cap:=cap) (ex:=false) (l:=a.length) (r:=a.length+1) (m:=a.length+b.length+1) (by omega) (by omega) (by omega));have s2:=Ec uV rfl uW (h.aV 8) (id:=id) (off:=0) (len:=a.length+b.length+1) (cap:=cap) (ex:=false) (VP (len:=a.length+b.length+1) (cap:=cap) (ex:=false) (r:=a.length) (by omega));have du:=Ec uV rfl uW (h.aV 8) (id:=id) (off:=0) (len:=a.length+b.length+1) (cap:=cap) (ex:=false) (VQ (len:=a.length+b.length+1) (cap:=cap) (ex:=false) (l:=a.length+1) (by omega));have aI:sZ.size=1:=rfl;rw[aI]at s1 s2 du;simp only[Sq,ak,air,s1,c2,decide_eq_false bc,a1,Bool.false_eq_true,if_false,aio,s2,aip,du];have bC:aX h (h.aV 8):=aF.aV _ _ _;have hG:=o.ext bC aa
 have key:∃g,fJ ai (h.aV 8) 293 293 (.slice id (0+0*1) (a.length-0) (cap-0) 1 false) (.slice id (0+(a.length+1) *1) (a.length+b.length+1-(a.length+1)) (cap-(a.length+1)) 1 false)=some (.slice id 0 (a.length+b.length) cap 1 false,g)/\(∃z,a6.Obj g id (a++b++z::ha))/\aF (λi=>i=id) (h.aV 8) g/\g.next=(h.aV 8).next:=by
  rw[show a.length+b.length+1-(a.length+1)=b.length by omega];cases af:b with
  |nil=>
   subst af;refine⟨h.aV 8,?_,⟨x,by simpa using hG⟩,aF.refl _ _,rfl⟩;rw[Fq uV rfl uW (.inr ⟨_,_,_,_,_,_,rfl⟩) rfl];simp
  |cons y ea=>
   have hA:b.length=ea.length+1:=by rw[af];rfl
   have ab:jM (h.aV 8) id (0+(a.length+1) *1) ((ea.length+1) *sZ.size)=some b:=by have:=hG.cells (a.length+1) b.length (by simp;omega);rw[aI,<-hA,Nat.zero_add,Nat.mul_one,Nat.mul_one,this];congr 1;rw[List.append_assoc,List.drop_append,List.drop_of_length_le (by omega),List.nil_append,show a.length+1-a.length=1 by omega];simp
   obtain⟨g,g1,g2,g3,g4⟩:=wR (T:=293) uV rfl uW rfl (by decide) (off:=0) (len:=a.length) (cap:=cap) (ex:=false) (xcap:=cap-(a.length+1)) (xex:=false) hG (n:=ea.length) (new:=b) ab (by rw[aI,Nat.mul_one];exact hA) (List.all_eq_true.2 au) (by omega) (by rw[aI];simp;omega);rw[aI,<-hA]at g1;refine⟨g,?_,?_,g3,g4⟩
   ·rw[show(y::ea).length=b.length by rw[af]];simpa using g1
   ·have ao:∃z,(x::b).drop b.length=[z]:=by
     have:((x::b).drop b.length).length=1:=by simp
     obtain⟨z,oX⟩:=List.length_eq_one_iff.1 this;exact⟨z,oX⟩
    obtain⟨z,ab2⟩:=ao;refine⟨z,?_⟩;rw[<-af];rw[aI,Nat.zero_add,Nat.mul_one]at g2
    have e:(a++x::b++ha).take a.length++b++(a++x::b++ha).drop (a.length+b.length)=a++b++z::ha:=by
     have t1:(a++x::b++ha).take a.length=a:=by rw[List.append_assoc,List.take_left]
     have t2:(a++x::b++ha).drop (a.length+b.length)=z::ha:=by rw[List.append_assoc,List.drop_append,List.drop_of_length_le (by omega),List.nil_append,show a.length+b.length-a.length=b.length by omega,List.drop_append,ab2,show b.length-(x::b).length=0 by simp];rfl
     rw[t1,t2]
    rw[e]at g2;exact g2
 obtain⟨g,lj,⟨z,IU⟩,ja,xX⟩:=key;rw[lj];have lC:=Ec uV rfl uW g (id:=id) (off:=0) (len:=a.length+b.length) (cap:=cap) (ex:=false) (VR (len:=a.length+b.length) (cap:=cap) (ex:=false) (l:=a.length+b.length) (r:=a.length+b.length+1) (by omega) (by omega));rw[aI]at lC;simp only[c1,Sq,ak,aiq,lC];obtain⟨bH,Wv,IQ,KC,nc⟩:=WY (T:=293) uV rfl uW rfl rfl (z:=.nilPtr) rfl rfl (id:=id) (off:=0+(a.length+b.length) *1) (n:=a.length+b.length+1-(a.length+b.length)) (cap:=cap-(a.length+b.length)) (ex:=false) IU (by simp;omega);rw[Wv];simp only[ak];have aw:a.length+b.length+1-(a.length+b.length)=1:=by omega
 rw[aw,Nat.zero_add,Nat.mul_one]at IQ
 have aL:(a++b++z::ha).take (a.length+b.length)++List.replicate 1 J.nilPtr++(a++b++z::ha).drop (a.length+b.length+1)=a++b++J.nilPtr::ha:=by
  have t1:(a++b++z::ha).take (a.length+b.length)=a++b:=by rw[<-List.length_append,List.take_left]
  have t2:(a++b++z::ha).drop (a.length+b.length+1)=ha:=by rw[<-List.drop_drop,<-List.length_append,List.drop_left];rfl
  rw[t1,t2,List.append_assoc (a++b)];rfl
 rw[aL]at IQ;have j6:(h.aV 8).next=h.next+8:=rfl
 refine aJ.pure ⟨⟨?_,.inr ⟨id,cap,false,.nilPtr::ha,by show J.slice _ _ _ _ _ _=_;simp,by omega,by simp;omega,by rw[MS];exact IQ,by simp;omega⟩⟩,rfl,?_,rfl,rfl,rfl⟩
 ·intro y an;obtain⟨Br,_,rfl⟩:=List.mem_map.1 an;rfl
 ·exact(((aF.ext bC).trans (ja.mono λi _ e=>e▸rfl)).trans (KC.mono λi _ e=>e▸rfl))
end
section
variable{PV:cw} [db PV]
def ey(T:c0)(p:Nat) :List J:=.int .i64 (p:Nat)::(T.ent p).vs
theorem V4(n:Int)(a b c d:Bool)(m:Int) :dW ai 178 [(0,.int .i64 n),(1,.agg [.bool a,.bool b,.bool c,.bool d,.int .i64 m])]=some (.agg [.int .i64 n,.bool a,.bool b,.bool c,.bool d,.int .i64 m]):=by kernel_rfl
def fp(fr:Int)(l:List Nat) :List Nat:=l.filter λp=>decide (fr<=(p:Int))
theorem YK(fr:Int)(ent:Nat->ba)(m:Nat) :(fp fr (dm ent 0 m)).length<=m:=by refine Nat.le_trans (List.length_filter_le _ _) ?_;rw[JP];exact m0 _ _
theorem tw(fr:Int)(a b:List Nat) :fp fr (a++b)=fp fr a++fp fr b:=by simp[fp]
section
variable{A:fB}{mem held:Nat->Nat}{free:Nat}{t nn:Nat}{T:c0}{tb ib fb yb:Nat}{fr:Int}{yv:J}
structure BB(A:fB)(mem held:Nat->Nat)(free t nn:Nat)(T:c0)(tb ib fb yb:Nat)(fr:Int)(yv:J)(h:ag) :Prop where
 ps:fh h A mem held free
 o9:oC h A mem held t nn T
 lt:tb<h.next/\ib<h.next/\fb<h.next/\yb<h.next
 fU:a6.Obj h tb [.ptr t 0]
 tZ:a6.Obj h ib [.func 258 [] [.ptr tb 0,.ptr ib 0,.ptr fb 0,.ptr yb 0]]
 of:a6.Obj h fb [.int .i64 fr]
 hW:a6.Obj h yb [yv]
theorem BB.ext{h g:ag}(w:BB A mem held free t nn T tb ib fb yb fr yv h)(u:aX h g) :BB A mem held free t nn T tb ib fb yb fr yv g:=by have:=u.next;exact⟨w.ps.ext u,w.o9.ext u,⟨by have:=w.lt.1;omega,by have:=w.lt.2.1;omega,by have:=w.lt.2.2.1;omega,by have:=w.lt.2.2.2;omega⟩,w.fU.ext u w.lt.1,w.tZ.ext u w.lt.2.1,w.of.ext u w.lt.2.2.1,w.hW.ext u w.lt.2.2.2⟩
theorem aiU(hz:gx (eZ mem) A.n T){l q i:Nat}(ar:l<3)(U:i<8)(al:T.aZ (l+1) (8*q+i)=none) :dm T.ent (q*8^(4-l) +i*8^(3-l)) (8^(3-l))=[]:=by
 refine RI λj az=> ?_
 refine PE hz (k:=l+1) (by omega) ?_
 have:pre (q*8^(4-l) +i*8^(3-l) +j) (l+1)=8*q+i:=by
  unfold pre;have e:8^(4-l)=8*8^(3-l):=by rw[<-Nat.pow_succ'];congr 1;omega
  rw[show 4-(l+1)=3-l by omega,e,show q*(8*8^(3-l)) +i*8^(3-l) +j=j+8^(3-l) *(8*q+i)by
   generalize 8^(3-l)=X;rw[Nat.mul_add,Nat.mul_comm X i,show q*(8*X)=X*(8*q)by rw[<-Nat.mul_assoc,Nat.mul_comm (q*8) X,Nat.mul_comm q 8]]
   omega]
  rw[Nat.add_mul_div_left _ _ (Nat.pos_of_neZero _),Nat.div_eq_of_lt az,Nat.zero_add]
 rw[this];exact al
theorem ab8{I:List Nat->ag->Prop}{F:List Nat->ag->Prop}
  (jD:∀d h,I d h->BB A mem held free t nn T tb ib fb yb fr yv h) (tA:∀d h g,I d h->aX h g->I d g)
  (zj:∀d p h,I d h->d.length<=4096->T.ent p≠.zero->fr<=(p:Int)->bN (call ai PV yv [.agg (ey T p)] h) λv g=>(v=.bool true/\I (d++[p]) g)\/(v=.bool false/\F (d++[p]) g)) :
  ∀(k l q f:Nat) (d:List Nat) (h:ag),l+k=3->T.aZ l q=some f->d=fp fr (dm T.ent 0 (q*8^(4-l)))->I d h->
   bN (call ai PV (.func 258 [] [.ptr tb 0,.ptr ib 0,.ptr fb 0,.ptr yb 0]) [.int .i64 f,.int .i64 l,.int .i64 q] h) λv g=>
    (v=.bool true/\I (d++fp fr (dm T.ent (q*8^(4-l)) (8^(4-l)))) g)\/(v=.bool false/\∃a p b,fp fr (dm T.ent (q*8^(4-l)) (8^(4-l)))=a++p::b/\F (d++(a++[p])) g):=by
 intro k;induction k with
 |zero=>
  intro l q f d h ar aB ao zi;obtain rfl:l=3:=by omega
  refine cF O8 rfl ?_;have vt:=jD d h zi;have lW:=vt.o9.ok.lvl _ _ _ aB
  refine gW (I:=λi vs g=>vs=[.bool false,.int .i64 (i:Nat)]/\I (d++fp fr (dm T.ent (q*8) i)) g) 8 (by omega)
   (P:=λx vs g=>(x=.exit 0/\(∃a b,vs=[a,b])/\I (d++fp fr (dm T.ent (q*8) 8)) g)\/(x=.ret/\(∃b,vs=[.bool false,b])/\∃a p b,fp fr (dm T.ent (q*8) 8)=a++p::b/\F (d++(a++[p])) g))
   ⟨rfl,by simpa [dm,fp]using zi⟩ ?_ ?_
  ·rintro i vs g U ⟨rfl,aE⟩;simp only[bn,bd,cQ,ak,a1,decide_eq_true_eq];by_cases dR:i=8
   ·subst dR;rw[if_neg (by omega)];exact aJ.pure (.inr ⟨by simp,.inl ⟨rfl,⟨_,_,rfl⟩,aE⟩⟩)
   ·rw[if_pos (by omega)];have hw:=jD _ g aE;have aw:bF .i64 ((i:Int) +1)=((i+1:Nat) :Int):=by rw[wrap_i64 (by omega) (by omega)];simp
    have vm:=lW.2.1;have aL:bF .i64 ((q:Int) *8)=((q*8:Nat) :Int):=by rw[wrap_i64 (by omega) (by omega)];simp
    have bo:bF .i64 (((q*8:Nat) :Int) +(i:Int))=((q*8+i:Nat) :Int):=by rw[wrap_i64 (by omega) (by omega)];simp
    refine fV (P:=λx vs bH=>(x=.normal/\vs=[.bool false]/\I (d++fp fr (dm T.ent (q*8) (i+1))) bH)\/(x=.ret/\vs=[.bool false]/\∃a p b,fp fr (dm T.ent (q*8) 8)=a++p::b/\F (d++(a++[p])) bH)) ?_ ?_
    ·simp only[k',cP,aL,bo,ak,ov,Obj.get hw.fU (i:=0) rfl];refine bS (y3 hw.ps hw.o9.obj hw.o9.lt lW.2.2 (hw.o9.held _ ⟨_,_,aB⟩) (show i<8 by omega)) ?_;rintro _ g1 ⟨rfl,aW⟩;have j3:eZ mem f i=T.ent (q*8+i):=by rw[hw.o9.ok.leaf q f i aB (by omega),Nat.mul_comm]
     rw[j3];refine b1 (h:=g1) sN λg2 cc dS a_=> ?_
     refine cb (pe (cs:=(T.ent (q*8+i)).vs) cc rfl (by simp[ba.vs]) rfl) λg3 ⟨b8,bw,eH⟩=> ?_
     have b8:=dC b8 rfl;have ej:aX g g3:=(aW.trans a_).local bw (λj az e=>by have:=aW.next;omega);have qC:=tA _ _ _ aE ej;have C1:=jD _ g3 qC;rw[jG b8];simp only[ak,px,Ga,a1,decide_eq_true_eq];have dO:dm T.ent (q*8) (i+1)=dm T.ent (q*8) i++if T.ent (q*8+i)=.zero then[]else[q*8+i]:=rfl
     by_cases aI:T.ent (q*8+i)=.zero
     ·rw[if_pos aI];refine aJ.pure (.inl ⟨rfl,rfl,?_⟩);rw[dO,if_pos aI,List.append_nil];exact qC
     ·rw[if_neg aI,dO,if_neg aI];rw[if_neg (by decide)];simp only[ak,a1,Bool.false_eq_true,if_false,b6,Obj.get C1.of (i:=0) rfl,fk,cJ];by_cases qD:fr<=((q*8+i:Nat) :Int)
      ·have xm:fp fr (dm T.ent (q*8) i++[q*8+i])=fp fr (dm T.ent (q*8) i)++[q*8+i]:=by rw[tw];simp[fp];omega
       rw[decide_eq_true qD,if_pos rfl,xm];refine fV (P:=λx vs bH=>x=.normal/\∃b,vs=[.bool b]/\((b=false/\I (d++(fp fr (dm T.ent (q*8) i)++[q*8+i])) bH)\/(b=true/\F (d++(fp fr (dm T.ent (q*8) i)++[q*8+i])) bH))) ?_ ?_
       ·simp only[ajO,Obj.get C1.hW (i:=0) rfl,ak,jG b8];have af:dW ai 178 [(0,.int .i64 ((q*8+i:Nat) :Int)),(1,(T.ent (q*8+i)).dz)]=some (.agg (ey T (q*8+i))):=V4 _ _ _ _ _ _;rw[af];simp only[ak]
        have hlen:(d++fp fr (dm T.ent (q*8) i)).length<=4096:=by have:=yi T.ent 0 (q*8) i;rw[Nat.zero_add]at this;rw[ao,show q*8^(4-3)=q*8 by simp,<-tw,<-this];exact Nat.le_trans (YK _ _ _) (by omega)
        refine bS (zj _ _ _ qC hlen aI qD) ?_;rintro v g4 (⟨rfl,aO⟩ |⟨rfl,aO⟩)
        ·simp only[fA,ak];exact aJ.pure ⟨rfl,_,rfl,.inl ⟨rfl,by rw[<-List.append_assoc];exact aO⟩⟩
        ·simp only[fA,ak];exact aJ.pure ⟨rfl,_,rfl,.inr ⟨rfl,by rw[<-List.append_assoc];exact aO⟩⟩
       ·rintro _ _ g4 ⟨rfl,b,rfl,af⟩;simp only[bn,bd,cB,if_true,ak,a1];rcases af with⟨rfl,aO⟩ |⟨rfl,aO⟩
        ·simp only[Bool.false_eq_true,if_false];exact aJ.pure (.inl ⟨rfl,rfl,aO⟩)
        ·simp only[if_true];refine aJ.pure (.inr ⟨rfl,rfl,fp fr (dm T.ent (q*8) i),q*8+i,fp fr (dm T.ent (q*8+(i+1)) (8-(i+1))),?_,aO⟩);have:=yi T.ent (q*8) (i+1) (8-(i+1));rw[show i+1+(8-(i+1))=8 by omega]at this;rw[this,dO,if_neg aI,tw,xm,List.append_assoc];rfl
      ·have xm:fp fr (dm T.ent (q*8) i++[q*8+i])=fp fr (dm T.ent (q*8) i):=by rw[tw];simp[fp];omega
       rw[decide_eq_false qD,xm];simp only[Bool.false_eq_true,if_false,cO,bn,bd,cB,ak,a1];exact aJ.pure (.inl ⟨rfl,rfl,qC⟩)
    ·rintro x vs g1 (⟨rfl,rfl,h1⟩ |⟨rfl,rfl,h1⟩)
     ·simp only[bn,bd,hf,cP,aw,ak];exact aJ.pure (.inl ⟨rfl,by omega,rfl,h1⟩)
     ·simp only[bn,bd,B8];exact aJ.pure (.inr ⟨by simp,.inr ⟨rfl,⟨_,rfl⟩,h1⟩⟩)
  ·have nL:q*8^(4-3)=q*8:=by simp
   have y0:8^(4-3)=8:=by simp
   rintro x vs g (⟨rfl,⟨a,b,rfl⟩,h1⟩ |⟨rfl,⟨b,rfl⟩,h1⟩)
   ·simp only[bn,bd,fZ,if_true];exact aJ.pure (.inl ⟨rfl,by rw[nL,y0];exact h1⟩)
   ·simp only[bn,bd,qj];exact aJ.pure (.inr ⟨rfl,by rw[nL,y0];exact h1⟩)
 |succ k bI=>
  intro l q f d h ar aB ao zi;refine cF O8 rfl ?_;have vt:=jD d h zi;have lW:=vt.o9.ok.lvl _ _ _ aB;have zz:l<3:=by omega
  have B6:8^(4-l)=8*8^(3-l):=by rw[<-Nat.pow_succ'];congr 1;omega
  refine gW (I:=λi vs g=>vs=[.bool false,.int .i64 (i:Nat)]/\I (d++fp fr (dm T.ent (q*8^(4-l)) (i*8^(3-l)))) g) 8 (by omega)
   (P:=λx vs g=>(x=.exit 0/\(∃a b,vs=[a,b])/\I (d++fp fr (dm T.ent (q*8^(4-l)) (8^(4-l)))) g)\/(x=.ret/\(∃b,vs=[.bool false,b])/\∃a p b,fp fr (dm T.ent (q*8^(4-l)) (8^(4-l)))=a++p::b/\F (d++(a++[p])) g))
   ⟨rfl,by simpa [dm,fp]using zi⟩ ?_ ?_
  ·rintro i vs g U ⟨rfl,aE⟩;simp only[bn,bd,cQ,ak,a1,decide_eq_true_eq];by_cases dR:i=8
   ·subst dR;rw[if_neg (by omega)];exact aJ.pure (.inr ⟨by simp,.inl ⟨rfl,⟨_,_,rfl⟩,by rw[B6];rw[B6]at aE;exact aE⟩⟩)
   ·rw[if_pos (by omega)];have hw:=jD _ g aE;have aw:bF .i64 ((i:Int) +1)=((i+1:Nat) :Int):=by rw[wrap_i64 (by omega) (by omega)];simp
    have vm:q<512:=Nat.lt_of_lt_of_le lW.2.1 (Nat.pow_le_pow_right (by omega) (by omega:l<=3));have aL:bF .i64 ((q:Int) *8)=((q*8:Nat) :Int):=by rw[wrap_i64 (by omega) (by omega)];simp
    have bo:bF .i64 (((q*8:Nat) :Int) +(i:Int))=((8*q+i:Nat) :Int):=by rw[wrap_i64 (by omega) (by omega)];omega
    have eh:bF .i64 ((l:Int) +1)=((l+1:Nat) :Int):=by rw[wrap_i64 (by omega) (by omega)];simp
    have dO:dm T.ent (q*8^(4-l)) ((i+1) *8^(3-l))=dm T.ent (q*8^(4-l)) (i*8^(3-l))++dm T.ent (q*8^(4-l) +i*8^(3-l)) (8^(3-l)):=by rw[Nat.succ_mul,yi]
    have abe:dm T.ent (q*8^(4-l)) (8^(4-l))=dm T.ent (q*8^(4-l)) ((i+1) *8^(3-l))++dm T.ent (q*8^(4-l) +(i+1) *8^(3-l)) ((7-i) *8^(3-l)):=by rw[<-yi,<-Nat.add_mul,show i+1+(7-i)=8 by omega,B6]
    refine fV (P:=λx vs bH=>(x=.normal/\vs=[.bool false]/\I (d++fp fr (dm T.ent (q*8^(4-l)) ((i+1) *8^(3-l)))) bH)\/(x=.ret/\vs=[.bool false]/\∃a p b,fp fr (dm T.ent (q*8^(4-l)) (8^(4-l)))=a++p::b/\F (d++(a++[p])) bH)) ?_ ?_
    ·simp only[k',cP,aL,bo,ak,ov,Obj.get hw.fU (i:=0) rfl];refine bS (y3 hw.ps hw.o9.obj hw.o9.lt lW.2.2 (hw.o9.held _ ⟨_,_,aB⟩) (show i<8 by omega)) ?_;rintro _ g1 ⟨rfl,aW⟩;have oO:=hw.o9.ok.kt l q f i zz aB (by omega);refine b1 (h:=g1) sN λg2 cc dS a_=> ?_
     refine cb (pe (cs:=(eZ mem f i).vs) cc rfl (by simp[ba.vs]) rfl) λg3 ⟨b8,bw,eH⟩=> ?_
     have b8:=dC b8 rfl;have ej:aX g g3:=(aW.trans a_).local bw (λj az e=>by have:=aW.next;omega);have qC:=tA _ _ _ aE ej;have C1:=jD _ g3 qC;rw[jG b8];simp only[ak,px,Ga,a1,decide_eq_true_eq];cases j6:T.aZ (l+1) (8*q+i)with
     |none=>
      rw[j6]at oO;rw[if_pos oO];refine aJ.pure (.inl ⟨rfl,rfl,?_⟩);rw[dO,aiU hw.o9.ok zz (by omega) j6,List.append_nil];exact qC
     |some fo=>
      rw[j6]at oO;rw[if_neg (by rw[oO];exact Pz fo)];have dA:((l:Nat) :Int) <3:=by omega
      have eu:bE g3 g1.next 4=some (.int .i64 (fo:Nat)):=by rw[Obj.get b8 (i:=4) rfl,oO];rfl
      simp only[cQ,ak,a1,decide_eq_true_eq,if_pos dA,Sl,Obj.get C1.tZ (i:=0) rfl,lG,Nat.zero_add,b6,eu,cP,eh]
      have Mw:(8*q+i) *8^(4-(l+1))=q*8^(4-l) +i*8^(3-l):=by rw[show 4-(l+1)=3-l by omega,B6,Nat.add_mul,Nat.mul_comm 8 q,Nat.mul_assoc]
      have Om:=bI (l+1) (8*q+i) fo _ g3 (by omega) j6 (by
       have:=yi T.ent 0 (q*8^(4-l)) (i*8^(3-l));rw[Nat.zero_add]at this
       rw[Mw,this,tw,<-ao]) qC
      rw[Mw,show 4-(l+1)=3-l by omega]at Om;refine bS Om ?_;rintro v g4 (⟨rfl,aO⟩ |⟨rfl,a,p,b,ix,aO⟩)
      ·simp only[fA,Bool.not_true,ak,a1,Bool.false_eq_true,if_false];refine aJ.pure (.inl ⟨rfl,rfl,?_⟩);rw[dO,tw,<-List.append_assoc];exact aO
      ·simp only[fA,Bool.not_false,ak,a1,if_true];refine aJ.pure (.inr ⟨rfl,rfl,fp fr (dm T.ent (q*8^(4-l)) (i*8^(3-l)))++a,p,b++fp fr (dm T.ent (q*8^(4-l) +(i+1) *8^(3-l)) ((7-i) *8^(3-l))),?_,?_⟩)
       ·rw[abe,tw,dO,tw,ix];simp
       ·rw[List.append_assoc]at aO;simpa using aO
    ·rintro x vs g1 (⟨rfl,rfl,h1⟩ |⟨rfl,rfl,h1⟩)
     ·simp only[bn,bd,hf,cP,aw,ak];exact aJ.pure (.inl ⟨rfl,by omega,rfl,h1⟩)
     ·simp only[bn,bd,B8];exact aJ.pure (.inr ⟨by simp,.inr ⟨rfl,⟨_,rfl⟩,h1⟩⟩)
  ·rintro x vs g (⟨rfl,⟨a,b,rfl⟩,h1⟩ |⟨rfl,⟨b,rfl⟩,h1⟩)
   ·simp only[bn,bd,fZ,if_true];exact aJ.pure (.inl ⟨rfl,h1⟩)
   ·simp only[bn,bd,qj];exact aJ.pure (.inr ⟨rfl,h1⟩)
end
end
section
set_option maxRecDepth 100000
variable{PV:cw} [db PV]
section
variable{A:fB}{mem held:Nat->Nat}{free:Nat}{t nn:Nat}{T:c0}{tb fb:Nat}{fr:Int}{yv:J}
theorem aiF{I F:List Nat->ag->Prop}{S:Nat->Prop}{h:ag}(an:yv.cells=[yv])(eT:fr<=4096)
  (jD:∀d g,I d g->fh g A mem held free/\oC g A mem held t nn T/\tb<g.next/\fb<g.next/\a6.Obj g tb [.ptr t 0]/\a6.Obj g fb [.int .i64 fr])
  (tA:∀d g bH,I d g->aX g bH->I d bH) (cz:∀i,S i->i<h.next)
  (zj:∀d p g,I d g->h.next+2<=g.next->d.length<=4096->T.ent p≠.zero->fr<=(p:Int)->bN (call ai PV yv [.agg (ey T p)] g) λv bH=>aF (λi=>S i\/h.next+2<=i) g bH/\((v=.bool true/\I (d++[p]) bH)\/(v=.bool false/\F (d++[p]) bH)))
  (h0:I [] h) :
  bN (call ai PV (.func 257 [] [.ptr tb 0,.ptr fb 0]) [yv] h) λv g=>v=.undef/\(I (fp fr (dm T.ent 0 4096)) g\/∃a p b,fp fr (dm T.ent 0 4096)=a++p::b/\F (a++[p]) g):=by
 refine cF ad3 rfl ?_;refine b1 (aji (cs:=[yv]) an) λg1 bU dF aW=> ?_
 have i1:=tA _ _ _ h0 aW;obtain⟨s1,bB,e_,gF,fU,of⟩:=jD _ _ i1;have rt:=Obj.get fU (i:=0) rfl;have r0:=Obj.get bB.obj (i:=0) rfl;simp only[ov,rt,ak,St,cJ,if_true,b2,A0,gK,r0,ajY,cO,bn,bd,cB,Bool.false_eq_true,if_false,a1];refine b1 (h:=g1) ai3 λg2 cc dS a_=> ?_
 refine cb (aj7 (v:=.func 258 [] [.ptr tb 0,.ptr g1.next 0,.ptr fb 0,.ptr h.next 0]) cc (by simp) rfl rfl) λg3 ⟨b8,bw,eH⟩=> ?_
 have b8:a6.Obj g3 g1.next [.func 258 [] [.ptr tb 0,.ptr g1.next 0,.ptr fb 0,.ptr h.next 0]]:=b8;have jk:h.next<=g1.next:=aW.next;have bC:aX g3 (g3.aV 6):=aF.aV _ _ _;have kb:aX g1 g3:=a_.local bw (λi U e=>by omega);have i4:=tA _ _ _ i1 (kb.trans bC);have gb:(g3.aV 6).next=g3.next+6:=rfl
 have agH:=bU.ext (kb.trans bC) (by omega);have Qf:=b8.ext bC (by omega);obtain⟨lC,p4,amE,amF,agB,amS⟩:=jD _ _ i4
 have root:T.aZ 0 0=some (nodeAt T 0 0):=by have:=vJ (T:=T) (p:=0) (l:=0) (by rw[DS (by omega)];exact p4.ok.root);rwa[DS (by omega)]at this
 have H:=ab8 (A:=A) (mem:=mem) (held:=held) (free:=free) (t:=t) (nn:=nn) (T:=T) (tb:=tb) (ib:=g1.next) (fb:=fb) (yb:=h.next) (fr:=fr) (yv:=yv)
  (I:=λd g=>I d g/\h.next+2<=g.next/\a6.Obj g h.next [yv]/\a6.Obj g g1.next [.func 258 [] [.ptr tb 0,.ptr g1.next 0,.ptr fb 0,.ptr h.next 0]]) (F:=F)
  (λd g ⟨ao,al,hW,tZ⟩=>by
    obtain⟨aQ,a2,a3,a4,a5,hY⟩:=jD _ _ ao
    exact⟨aQ,a2,⟨a3,by omega,a4,by omega⟩,a5,tZ,hY,hW⟩)
  (λd g bH ⟨ao,al,hW,tZ⟩ u=>⟨tA _ _ _ ao u,Nat.le_trans al u.next,hW.ext u (by omega),tZ.ext u (by omega)⟩)
  (λd p g ⟨ao,al,hW,tZ⟩ hlen aI qD=>(zj d p g ao al hlen aI qD).mono λv bH ⟨u,ae⟩=>by
    rcases ae with⟨rfl,ae⟩ |⟨rfl,ae⟩
    ·refine .inl ⟨rfl,ae,Nat.le_trans al u.next,hW.aq u (by omega) ?_,tZ.aq u (by omega) ?_⟩
     ·rintro(e|e)
      ·have:=cz _ e;omega
      ·omega
     ·rintro(e|e)
      ·have:=cz _ e;omega
      ·omega
    ·exact .inr ⟨rfl,ae⟩)
  3 0 0 (nodeAt T 0 0) [] (g3.aV 6) rfl root (by simp[dm,fp]) ⟨i4,by omega,agH,Qf⟩
 simp only[Sl,Obj.get Qf (i:=0) rfl,ov,Obj.get agB (i:=0) rfl,b2,ak,R9,Nat.zero_add,b6,Obj.get p4.obj (i:=1) rfl];refine bS H ?_;rintro v g5 ae;simp only[dh];have aw:0*8^(4-0)=0:=by omega
 have aL:8^(4-0)=4096:=by decide
 rw[aw,aL]at ae;simp only[List.nil_append]at ae;rcases ae with⟨_,ae,_⟩ |⟨_,ae⟩
 ·exact aJ.pure ⟨rfl,.inl ae⟩
 ·exact aJ.pure ⟨rfl,.inr ae⟩
theorem aiG(h:ag)(t:Nat)(fr:Int) :bN (call ai PV (.func 171 [] []) [.ptr t 0,.int .i64 fr] h) λv g=>v=.func 257 [] [.ptr h.next 0,.ptr (h.next+1) 0]/\aX h g/\g.next=h.next+2/\a6.Obj g h.next [.ptr t 0]/\a6.Obj g (h.next+1) [.int .i64 fr]:=by
 refine cF adn rfl ?_;refine b1 (ai' (cs:=[.ptr t 0]) rfl) λg1 bU dF aW=> ?_
 refine b1 (AY (cs:=[.int .i64 fr]) rfl) λg2 cc dS a_=> ?_
 rw[dF]at cc|-;exact aJ.pure ⟨rfl,aW.trans a_,by omega,bU.ext a_ (by omega),cc⟩
end
noncomputable def nK:Code:=We Tryz.f95
noncomputable def gH:Code:=gA (fL (gA (fL (fL nK))))
theorem WD:Tryz.f95.body=some (.seq (gA nK) (.seq (gA (fL nK)) (.seq (.seq (gA (gA (fL (fL nK)))) (.block 0 gH)) (.seq (gA (fL (fL (fL nK)))) .ret)))):=by kernel_rfl
theorem ahk:gH=.rangeFunc (.tmp 6) #[7] (gA gH) (fL gH):=by kernel_rfl
def Fa(x:J)(v3:J)(h:ag) :Option br:=
 gy (hN ai 178) h λv4 h1=>
 cd (dU ai h1 178 v4 x) λaa=>
 some (.normal,[v3,v4],aa)
def Fb(v3 v4:J)(h:ag) :Option br:=
 cd (dJ ai h 175 v3) λpk=>
 cd (dJ ai h 178 v4) λv9=>
 gy (gY ai 175 1 [(0,v9)]) h λv10 h1=>
 eM (fJ ai h1 175 175 pk v10) λv11 aa=>
 cd (dU ai aa 175 v3 v11) λav=>
 some (.normal,[],av)
theorem Xk(C:iL)(a0:J)(h:ag) :den ai ai C 13 (.sF []) (gA nK) (nj [0]) (tX [(0,a0)]) h=some (.normal,[a0],h):=by kernel_rfl
theorem Xl(C:iL)(a0:J)(h:ag) :den ai ai C 13 (.sF []) (gA (fL nK)) (nj [0,3]) (tX [(0,a0)]) h=gy (hN ai 175) h λv h1=>some (.normal,[a0,v],h1):=by kernel_rfl
theorem Xm(C:iL)(a0 v3:J)(h:ag) :den ai ai C 13 (.sF []) (gA (gA (fL (fL nK)))) (nj [3,6]) (tX [(0,a0),(3,v3)]) h=eM (C (.func 171 [] []) [a0,.int .i64 0] h) λv6 h1=>some (.normal,[v3,v6],h1):=by kernel_rfl
theorem Xn(C:iL)(v3 x:J)(h:ag) :den ai ai C 13 (.sF []) (gA gH) (nj [3,4]) (tX [(3,v3),(7,x)]) h=Fa x v3 h:=by kernel_rfl
theorem Xo(C:iL)(v3 v4:J)(h:ag) :den ai ai C 13 (.jY (.sF [])) (fL gH) (nj []) (tX [(3,v3),(4,v4)]) h=Fb v3 v4 h:=by kernel_rfl
theorem Xp(C:iL)(v3:J)(h:ag) :den ai ai C 13 (.sF []) (gA (fL (fL (fL nK)))) (nj [2]) (tX [(3,v3)]) h=cd (dJ ai h 175 v3) λv=>some (.normal,[v],h):=by kernel_rfl
theorem ag1{h:ag}{lo:Nat}{v:J}{rows:List (List J)}(r:Row h 6 lo v rows){xid xcap:Nat}{xex:Bool}{new:List J}(et:a6.Obj h xid new)(iS:new.length=6)(au:new.all dT=true)(ah:rows.length<=2^30)(eU:lo<=h.next) :
  ∃w g,fJ ai h 175 175 v (.slice xid 0 1 xcap 6 xex)=some (w,g)/\(Row g 6 lo w (rows++[new])/\aF (λi=>lo<=i) h g/\g.next=h.next+1):=
 Row.push (si:=wm) (ie:=Kq) (by kernel_rfl) rfl (by kernel_rfl) rfl (by decide) r et iS au (by
  unfold roomy;rw[Bool.and_eq_true,dr,dr];show(2*(rows.length+1) +200) *24<=140737488355328/\1<=24
  omega) eU
theorem Wl{cs:List J}(aA:cs.length=6) :gY ai 175 1 [(0,.agg cs)]=some (λid=>J.slice id 0 1 1 6 true,.cells cs.length false [] (bj.ofList cs)):=by
 have k:∀a b c d e f:J,gY ai 175 1 [(0,.agg [a,b,c,d,e,f])]=some (λid=>J.slice id 0 1 1 6 true,.cells 6 false [] (bj.ofList [a,b,c,d,e,f])):=λa b c d e f=>by kernel_rfl
 match cs,aA with
 |[a,b,c,d,e,f],_=>exact k a b c d e f
theorem ak9{g:ag}{l v3 d lo:Nat}{r:bl}{hX:J}{rows:List (List J)}{cs:List J}(ar:g.get l=.loop .ready none 13 r #[7] (gA gH) (fL gH) d)(av:bl.get r 3=.ptr v3 0)(b8:a6.Obj g v3 [hX])(AJ:Row g 6 lo hX rows)
  (h1:v3<lo) (aa:l<lo) (cE:v3≠l) (eU:lo<=g.next) (hlen:rows.length<=4096) (f_:cs.length=6) (vo:cs.all dT=true) :
  ∃bH,call ai PV (.yield l) [.agg cs] g=some (.bool true,bH)/\bH.get l=.loop .ready none 13 r #[7] (gA gH) (fL gH) d/\(∃sL,a6.Obj bH v3 [sL]/\Row bH 6 lo sL (rows++[cs]))/\aF (λi=>i=l\/i=v3\/lo<=i) g bH:=by
 have aD:vZ (#[7] :Array Tmp).toList [.agg cs] 13 r=some (r.set 7 (.agg cs)):=rfl
 obtain⟨_,_,g2,lj,rfl,rfl,c5,a_,dS⟩ :aJ (Fa (.agg cs) (.ptr v3 0) g) λx vs g2=>x=.normal/\vs=[.ptr v3 0,.ptr g.next 0]/\a6.Obj g2 g.next cs/\aX g g2/\g2.next=g.next+1:=by
  unfold Fa;refine b1 sO λg1 bU dF aW=> ?_
  refine cb (q6 bU f_ (by simp[f_]) vo) λg2 ⟨cc,a_,dS⟩=> ?_
  exact aJ.pure ⟨rfl,rfl,dC cc (by simp[f_]),aW.local a_ (λi U e=>by omega),by omega⟩
 obtain⟨s1,YS,xn,mr,ZW,Oa⟩:=piece (p:=PV) (E:=ai) (ro:=some l) (s:={r:=r.set 7 (.agg cs),n:=13,ds:=[],h:=g}) ((Xn (call ai PV) (.ptr v3 0) (.agg cs) g).trans lj) (vD (by
  intro q ay;simp only[List.mem_cons,List.not_mem_nil,or_false]at ay;rcases ay with rfl|rfl
  ·show bl.get (bj.set r 7 _) 3=_;rw[YZ _ _ (by decide)];exact av
  ·exact Y0 _ _ _)) rfl
 simp only[List.map_cons,List.map_nil,List.cons.injEq,and_true]at Oa;obtain⟨bY,c8⟩:=Oa;have oP:g2.get l=.loop .ready none 13 r #[7] (gA gH) (fL gH) d:=by rw[a_.get l (by omega) (λe=>e)];exact ar
 let rO:=g2.put l (.loop .busy none 13 r #[7] (gA gH) (fL gH) d);have nv:aF (λi=>i=l) g2 rO:=aF.put _ rfl;have P4:a6.Obj rO v3 [hX]:=(b8.ext a_ (by omega)).aq nv (by omega) cE;have af6:a6.Obj rO g.next cs:=c5.aq nv (by omega) (by omega);have dL:Row rO 6 lo hX rows:=(AJ.ext a_).aq nv (λi rQ Co e=>by omega);have xV:rO.next=g.next+1:=dS
 obtain⟨_,_,g3,w5,rfl,rfl,⟨sL,cS,gS⟩,bw⟩ :aJ (Fb (.ptr v3 0) (.ptr g.next 0) rO) λx vs g3=>x=.normal/\vs=[]/\(∃sL,a6.Obj g3 v3 [sL]/\Row g3 6 lo sL (rows++[cs]))/\aF (λi=>i=v3\/lo<=i) rO g3:=by
  unfold Fb;simp only[Sj,Obj.get P4 (i:=0) rfl,ak];rw[ux af6 (by omega)];rw[show(List.drop 0 cs).take 6=cs by rw[List.drop_zero,List.take_of_length_le (by omega)]];simp only[ak];refine b1 (Wl f_) λg4 afW gb bA=> ?_
  have ahp:=dL.ext bA;obtain⟨w,g5,e6,gS,bZ,n5⟩:=ag1 ahp (xcap:=1) (xex:=true) afW f_ vo (by omega) (by omega);refine bS (P:=λv g=>v=w/\g=g5) ⟨w,g5,e6,rfl,rfl⟩ ?_;rintro aM YP ⟨Gf,F_⟩;rw[Gf,F_];have An:=(P4.ext bA (by omega)).aq bZ (by omega) (by omega)
  have hw:w.cells=[w]/\dT w=true:=by rcases gS.2 with⟨rfl,_⟩ |⟨b,rfl,_⟩<;>exact⟨rfl,rfl⟩
  refine cb (aj4 An (by simp) hw.1 hw.2) λg6 ⟨di,b3,n6⟩=> ?_
  have:=bA.next;refine aJ.pure ⟨rfl,rfl,⟨w,di,gS.aq b3 (λi rQ Co e=>by omega)⟩,?_⟩;exact((aF.ext bA).trans (bZ.mono λi _ e=>.inr e)).trans (b3.mono λi _ e=>.inl e)
 obtain⟨s2,YX,xo,tI,ZX,amv⟩:=piece (p:=PV) (E:=ai) (ro:=some l) (s:={s1 with h:=rO}) ((Xo (call ai PV) (.ptr v3 0) (.ptr g.next 0) rO).trans w5) (vD (by
  intro q ay;simp only[List.mem_cons,List.not_mem_nil,or_false]at ay;rcases ay with rfl|rfl
  ·exact bY.symm
  ·exact c8.symm)) mr
 have zz:g3.get l=.loop .busy none 13 r #[7] (gA gH) (fL gH) d:=by rw[bw.get l (by omega) (by omega)];exact kR _ _ _
 have an:=WR (E:=ai) (p:=PV) (l:=l) (g:=g) ar aD YS (by rw[xn];exact oP) (by rw[xn];exact YX) (by rw[ZX];exact ZW) (by rw[xo];exact zz);refine⟨_,an,kR _ _ _,⟨sL,?_,?_⟩,?_⟩
 ·rw[xo];exact cS.o6 (nM cE)
 ·rw[xo];exact gS.aq (aF.put (S:=λi=>i=l) _ rfl) (λi rQ Co e=>by omega)
 ·rw[xo];refine((aF.ext a_).trans (nv.mono λi _ e=>.inl e)).trans ((bw.mono λi _ e=>.inr e).trans (aF.put _ (.inl rfl)))
theorem YL{fr:Int}(h:fr<=0)(l:List Nat) :fp fr l=l:=List.filter_eq_self.2 λp _=>by simp;omega
section
variable{A:fB}{mem held:Nat->Nat}{free:Nat}{t nn:Nat}{T:c0}
theorem Fl{h:ag}(s:fh h A mem held free)(x:oC h A mem held t nn T) :
  bN (call ai PV (.func 95 [] []) [.ptr t 0] h) λv g=>Row g 6 h.next v ((dm T.ent 0 4096).map (ey T))/\aX h g:=by
 have af:=s.p.lt;have z0:=s.w.lt;have aN:=x.lt;let eR:cl:={r:=qX [.ptr t 0] 0 .nil,n:=13,ds:=[],h}
 obtain⟨s1,YT,xn,mr,GP,iC⟩:=piece (p:=PV) (E:=ai) (ro:=none) (s:=eR) (Xk (call ai PV) (.ptr t 0) h) (vD (by
  intro q ay;simp only[List.mem_cons,List.not_mem_nil,or_false]at ay;subst ay;rfl)) rfl
 simp only[List.map_cons,List.map_nil,List.cons.injEq,and_true]at iC;let h1:=h.new (.cells 1 false [] (bj.ofList [J.bh]));have bU:a6.Obj h1 h.next [.bh]:=Obj.new h [.bh] false [];have aW:aX h h1:=aF.new _ _ _;have XI:hN ai 175=some (λid=>J.ptr id 0,.cells 1 false [] (bj.ofList [J.bh])):=Fk (i:=wm) (by kernel_rfl) rfl
 obtain⟨s2,YU,xo,tI,GQ,n0⟩:=piece (p:=PV) (E:=ai) (ro:=none) (s:=s1) (g:=h1) (vs:=[.ptr t 0,.ptr h.next 0]) (x:=.normal) (by
  rw[xn]
  exact(Xl (call ai PV) (.ptr t 0) h).trans (by rw[XI];rfl)) (vD (by
  intro q ay;simp only[List.mem_cons,List.not_mem_nil,or_false]at ay;subst ay;exact iC.symm)) mr
 simp only[List.map_cons,List.map_nil,List.cons.injEq,and_true]at n0;obtain⟨fD,bY⟩:=n0;obtain⟨_,g2,w6,rfl,a_,dS,fU,of⟩:=aiG h1 t 0;have amN:h1.next=h.next+1:=rfl
 obtain⟨du,YV,G3,r5,GR,N'⟩:=piece (p:=PV) (E:=ai) (ro:=none) (s:=s2) (g:=g2) (vs:=[.ptr h.next 0,.func 257 [] [.ptr h1.next 0,.ptr (h1.next+1) 0]]) (x:=.normal) (by
  rw[xo]
  exact(Xm (call ai PV) (.ptr t 0) (.ptr h.next 0) h1).trans (by rw[w6];rfl)) (vD (by
  intro q ay;simp only[List.mem_cons,List.not_mem_nil,or_false]at ay;rcases ay with rfl|rfl
  ·exact fD.symm
  ·exact bY.symm)) (tI.trans mr)
 simp only[List.map_cons,List.map_nil,List.cons.injEq,and_true]at N';obtain⟨HR,n3⟩:=N';let Pp:bp:=.loop .ready none du.n du.r #[7] (gA gH) (fL gH) g2.next;have N7:du.n=13:=(r5.trans tI).trans mr;let ar:=(g2.new .deferred).new Pp;have amO:ar.next=g2.next+2:=rfl;have ul:aX g2 ar:=(aF.new _ _ _).trans (aF.new _ _ _);have UD:aX h ar:=(aW.trans a_).trans ul;have Y2:ar.get (g2.next+1)=.loop .ready none 13 du.r #[7] (gA gH) (fL gH) g2.next:=by rw[<-N7];exact mf _ _
 have afN:a6.Obj ar h.next [.bh]:=(bU.ext a_ (by omega)).ext ul (by omega)
 have W:=aiF (A:=A) (mem:=mem) (held:=held) (free:=free) (t:=t) (nn:=nn) (T:=T) (tb:=h1.next) (fb:=h1.next+1) (fr:=0) (yv:=.yield (g2.next+1)) (h:=ar)
  (I:=λd g=>aF (λi=>i=g2.next+1\/i=h.next\/ar.next+2<=i) ar g/\g.get (g2.next+1)=.loop .ready none 13 du.r #[7] (gA gH) (fL gH) g2.next/\∃hX,a6.Obj g h.next [hX]/\Row g 6 (ar.next+2) hX (d.map (ey T)))
  (F:=λ_ _=>False) (S:=λi=>i=g2.next+1\/i=h.next) rfl (by omega)
  (λd g ⟨u,_,_⟩=>by
    have hu:=u.next;have us:aF (λi=>i=g2.next+1\/i=h.next\/ar.next+2<=i) h g:=(aF.ext UD).trans u
    exact⟨s.ca us ⟨by omega,by omega,by omega,by omega⟩,⟨Obj.aq x.obj us aN (by omega),by omega,x.ok,x.held⟩,by omega,by omega,
     (fU.ext ul (by omega)).aq u (by omega) (by omega),(of.ext ul (by omega)).aq u (by omega) (by omega)⟩)
  (λd g bH ⟨u,aE,hX,o,r⟩ ER=>⟨u.trans (aF.ext ER),by rw[ER.get _ (by have:=u.next;omega) (λe=>e)];exact aE,hX,o.ext ER (by have:=u.next;omega),r.ext ER⟩)
  (λi U=>by omega)
  (λd p g ⟨u,aE,hX,o,r⟩ al hlen aI qD=>by
    obtain⟨bH,aw,aL,⟨sL,bL,b9⟩,dD⟩:=ak9 (cs:=ey T p) aE HR.symm o r (by omega) (by omega) (by omega) al (by simpa using hlen) rfl rfl
    exact⟨_,bH,aw,dD.mono λi _ e=>by omega,Or.inl ⟨rfl,u.trans dD,aL,sL,bL,by simpa using b9⟩⟩)
  ⟨aF.refl _ _,Y2,.bh,afN,Row.nil _ _ _⟩
 obtain⟨_,g3,rK,rfl,hw⟩:=W;rcases hw with⟨bw,qC,hX,b8,dG⟩ |⟨_,_,_,_,aB⟩
 ·rw[YL (by omega)]at dG;have CY:=bw.next
  have G:=Y5 (E:=ai) (p:=PV) (s:=du) (f:=.tmp 6) (params:= #[7]) (assign:=gA gH) (body:=fL gH) (fv:=.func 257 [] [.ptr h1.next 0,.ptr (h1.next+1) 0]) (by show some (bl.get du.r 6)=_;rw[<-n3]) (v:=.undef) (h1:=g3)
   (by rw[G3];exact rK) (st:=.ready) (pend:=none) (n:=13) (r:=du.r) (ps:= #[7]) (a:=gA gH) (b:=fL gH) (d:=g2.next) (by rw[G3];exact qC) (by simp) (x:=.normal) (s2:={du with h:=g3.put (g2.next+1) (.loop .exhausted none 13 du.r #[7] (gA gH) (fL gH) g2.next),ds:=[g2.next]}) ⟨rfl,by rw[G3,GR,GQ,GP]⟩
  let g4:=g3.put (g2.next+1) (.loop .exhausted none 13 du.r #[7] (gA gH) (fL gH) g2.next);have bA:aF (λi=>i=g2.next+1) g3 g4:=aF.put _ rfl;have c5:a6.Obj g4 h.next [hX]:=b8.aq bA (by omega) (by omega);have eu:=dG.aq bA (λi a b e=>by omega)
  obtain⟨jO,YW,aaf,tJ,ZO,tO⟩:=piece (p:=PV) (E:=ai) (ro:=none) (s:={du with h:=g4,ds:=[g2.next]}) (g:=g4) (vs:=[hX]) (x:=.normal) ((Xp (call ai PV) (.ptr h.next 0) g4).trans (by rw[Sj,Obj.get c5 (i:=0) rfl];rfl)) (vD (by
   intro q ay;simp only[List.mem_cons,List.not_mem_nil,or_false]at ay;subst ay;exact HR.symm)) N7
  simp only[List.map_cons,List.map_nil,List.cons.injEq,and_true]at tO
  have xh:iM ai PV none (.seq (gA nK) (.seq (gA (fL nK)) (.seq (.seq (gA (gA (fL (fL nK)))) (.block 0 gH)) (.seq (gA (fL (fL (fL nK)))) .ret)))) eR .ret jO:=by refine zh YT (zh YU (zh (zh YV (Y3 ?_ (.inl rfl))) (zh YW ⟨1,rfl⟩)));rw[ahk];exact G
  have Cu:g4.get g2.next=.deferred:=by show(g3.put (g2.next+1) _).get g2.next=_;rw[nM (by omega),bw.get _ (by omega) (by omega)];show((g2.new .deferred).new Pp).get g2.next=_;rw[u4 (by show g2.next<g2.next+1;omega),mf]
  let g5:=g4.put g2.next .dead
  have ZU:qg jO.ds jO.h=some g5:=by rw[ZO,aaf];show qg [g2.next] g4=_;unfold qg;rw[Cu];rfl
  refine⟨hX,g5,WO (vs:=[hX]) (show ai.fn 95=some Tryz.f95 by kernel_rfl) (show PV 95=none from QG rfl (by kernel_rfl)) WD (args:=[.ptr t 0]) xh (.inr rfl) ZU ?_ rfl,?_,?_⟩
  ·show k2 ai jO.r g5 [.tmp 2]=_;unfold k2 k2;rw[<-tO]
  ·have:Row g5 6 (ar.next+2) hX ((dm T.ent 0 4096).map (ey T)):=eu.aq (aF.put (S:=λi=>i=g2.next) _ rfl) (λi a b e=>by omega);exact⟨this.1,this.2.imp id λ⟨b,rQ,Co,rR,u7⟩=>⟨b,rQ,by omega,rR,u7⟩⟩
  ·refine aF.local (T:=λi=>i=g2.next+1\/i=h.next\/ar.next+2<=i\/i=g2.next) UD ((bw.mono λi _ e=>by omega).trans ((bA.mono λi _ e=>.inl e).trans (aF.put _ (.inr (.inr (.inr rfl)))))) (λi U e=>by omega)
 ·exact aB.elim
end
end
section
set_option maxRecDepth 100000
variable{PV:cw} [db PV]
def s8:List J:=[.int .i64 0,.bool false,.bool false,.bool false,.bool false,.int .i64 0]
theorem V5:dW ai 178 []=some (.agg s8):=by kernel_rfl
end
theorem Xb{h:ag}{id off len cap xid xoff xcap size N:Nat}{ex xex st:Bool}(aE:h.get id=.bytes size st N)(ab:xid=id)(h0:0<len)(au:off+len<=size)(iV:xoff+len<=size) :
  jB ai h 135 (.slice id off len cap 1 ex) (.slice xid xoff len xcap 1 xex)=some (.int .i64 len,h.put id (.bytes size st (dq N off len (bT N xoff len)))):=by
 subst ab;have aw:ai.ty 135=some pg:=by kernel_rfl
 have bo:ai.ty 5=some ow:=by kernel_rfl
 obtain⟨n,rfl⟩ :∃n,len=n+1:=⟨len-1,by omega⟩;have pL:min (n+1) (n+1)=n+1:=Nat.min_self _
 have ah:mK h xid xoff (n+1)=some (bT N xoff (n+1)):=by unfold mK;rw[aE];show(bif Nat.ble (xoff+(n+1)) size then some (N>>> (8*xoff) %2^(8*(n+1)))else none)=_;rw[dr.2 iV,Nat.shiftRight_eq_div_pow];rfl
 have hw:=wG (m:=bT N xoff (n+1)) aE au;unfold jB;rw[aw]
 show(match ai.ty 5 with
  |none=>none
  |some ie=>
  match min (n+1) (n+1)with
  |0=>some (J.int .i64 (.ofNat 0),h)
  |k+1=>bif Nat.beq 1 ie.size then
   match hF ie.desc with
   |true=>bif Nat.beq ie.size 1 then match mK h xid xoff (k+1)with
    |some new=>match ox h xid off (k+1) new with
     |some h=>some (J.int .i64 (.ofNat (k+1)),h)
     |none=>none
    |none=>none else none
   |false=>bif Nat.beq 1 ie.size&&Nat.ble 1 ie.size then match jM h xid xoff ((k+1) *1)with
    |some cs=>match jc h xid off cs with
     |some h=>some (J.int .i64 (.ofNat (k+1)),h)
     |none=>none
    |none=>none else none
   else none)=_
 rw[bo,pL]
 show(match mK h xid xoff (n+1)with
  |some new=>match ox h xid off (n+1) new with
   |some h=>some (J.int .i64 (.ofNat (n+1)),h)
   |none=>none
  |none=>none)=_
 rw[ah]
 show(match ox h xid off (n+1) (bT N xoff (n+1))with
  |some h=>some (J.int .i64 (.ofNat (n+1)),h)
  |none=>none)=_
 rw[hw];rfl
section
variable{PV:cw} [db PV]
theorem KE{α:Type}(f:Nat->α)(i:Nat)(a b:α) :aq (aq f i a) i b=aq f i b:=by funext j;unfold aq;by_cases h:j=i<;>simp[h]
theorem ag5{N m:Nat}(gD:N<2^(8*64))(hm:m<2^(8*64)) :dq N 0 64 m=m:=by have h1:=vL (N:=N) (o:=0) (w:=64) (m:=m) hm;have aa:=DT (N:=N) (w:=64) (a:=0) (m:=m) (K:=64) gD hm (by omega);unfold bT at h1;rw[Nat.mul_zero,Nat.pow_zero,Nat.div_one,Nat.mod_eq_of_lt aa]at h1;exact h1
section
variable{h:ag}{A:fB}{mem held:Nat->Nat}{free:Nat}
theorem En(aD:dw h A mem held free)(mj:free=b' (λf=>held f==0) A.n)(aB:0<free) :∃f,f<A.n/\held f=0/\∃g,call ai PV (.func 159 [] []) [.ptr A.p 0] h=some (.tuple [.int .i64 f,.int .i64 0],g)/\dw g A (aq mem f 0) (aq held f 1) (free-1)/\aF (λi=>i=A.b\/i=A.q\/i=A.p) h g:=by
 obtain⟨f,f1,f2,f3⟩:=least (by rw[<-mj];exact aB:0<b' (λf=>held f==0) A.n);have qB:free<=4096:=by rw[mj];exact Nat.le_trans (m0 _ _) aD.n
 exact⟨f,f1,by simpa using f2,R3 aD (by omega) (by omega) f1 (by simpa using f2) (λj az=>by simpa using f3 j az)⟩
theorem agT(aD:dw h A mem held free)(mj:free=b' (λf=>held f==0) A.n)(eT:0<free){f:Nat}(aB:f<A.n)(aC:held f≠0) :
  bN (call ai PV (.func 248 [] []) [.ptr A.p 0,.int .i64 f] h) λv g=>∃fo,fo<A.n/\held fo=0/\v=.tuple [.int .i64 (fo:Nat),.int .i64 0]/\dw g A (aq mem fo (mem f)) (aq held fo 1) (free-1)/\aF (hn A) h g:=by
 refine cF adU rfl ?_;refine b1 (ai9 (cs:=[.ptr A.p 0]) rfl) λg1 bU dF aW=> ?_
 refine b1 ai2 λg2 cc dS a_=> ?_
 refine cb (kC (v:=.int .i64 0) cc (by simp) rfl rfl) λg3 ⟨b8,bw,eH⟩=> ?_
 have bK:=aD.lt;have hl:=(bU.ext a_ (by omega)).aq bw (by omega) (by omega);have ej:aX h g3:=(aW.trans a_).local bw (λj az e=>by omega);have nV:dw g3 A mem held free:=aD.aq ej ⟨λe=>e,λe=>e,λe=>e⟩;simp only[gK,Obj.get hl (i:=0) rfl,ak];obtain⟨fo,f1,f2,g4,eh,zJ,bA⟩:=En nV mj eT;have cE:f≠fo:=λe=>aC (e▸f2)
 obtain⟨X6,Z8⟩:=Gv zJ f1;obtain⟨st,N,af,gD⟩:=zJ.bytes;have hm:mem f<2^(8*64):=aD.Dw aB;have aaE:bT N (64*f) 64=mem f:=by rw[gD f aB,ed _ _ cE]
 have nY:=D9 zJ (f:=fo) (a:=0) (w:=64) (m:=mem f) f1 (by omega) hm af gD;rw[e3,ag5 (Nat.two_pow_pos _) hm,Nat.add_zero,KE]at nY;have abA:=bA.next;have tJ:(g4.put A.b (.bytes (64*A.n) st (dq N (64*fo) 64 (mem f)))).next=g4.next:=rfl
 have vN:=b8.aq bA (by omega) (by omega);let g5:=g4.put A.b (.bytes (64*A.n) st (dq N (64*fo) 64 (mem f)));have bZ:aF (λi=>i=A.b) g4 g5:=aF.put _ rfl;have An:=vN.aq bZ (by omega) (by omega);obtain⟨g6,jC,di,b3,n6⟩:=kC (k:=0) (v:=.int .i64 (fo:Nat)) An (by simp) rfl rfl;have F6:dU ai (g4.put A.b (.bytes (64*A.n) st (dq N (64*fo) 64 (mem f)))) 3 (.ptr g1.next 0) (.int .i64 (fo:Nat))=some g6:=jC
 have aA:∀fC,call ai PV (.func 320 [] [.ptr h.next 0,.ptr g1.next 0]) [.slice A.b (64*f) 64 (64*A.n-64*f) 1 fC] g3=some (.int .i64 0,g6):=λfC=>by refine aef (x:=.ret) (vs:=[.int .i64 0]) (first:=[]) (mid:=[_]) (cap:=[_,_]) ?_ rfl;have gR:=hl.aq bA (by omega) (by omega);have qw:=Xb (id:=A.b) (off:=64*fo) (len:=64) (cap:=64*A.n-64*fo) (ex:=X6) (xid:=A.b) (xoff:=64*f) (xcap:=64*A.n-64*f) (xex:=fC) af rfl (by omega) (by omega) (by omega);rw[aaE]at qw;simp only[gK,Obj.get hl (i:=0) rfl,ak,eh,c1,fM,List.getElem?_cons_zero,List.getElem?_cons_succ,c2,a1,decide_true,if_true,Obj.get gR (i:=0) rfl,Z8,qw,F6,cO,bd,hf]
 have hw:=uE nV aB aC aA;rw[hw];simp only[c1,b6,Obj.get di (i:=0) rfl,ak];refine aJ.pure ⟨fo,f1,f2,rfl,dw.aq nY b3 ⟨by omega,by omega,by omega⟩,?_⟩;exact(((aF.ext (S:=hn A) ej).trans (bA.mono λi _ e=>e)).trans (bZ.mono λi _ e=>.inl e)).local b3 (λi U e=>by omega)
theorem Py(n:Nat)(al:n<=1099511627776) :kW ai 64 (.int .i64 (n:Nat)) (.int .i64 (n:Nat))=some (λid=>J.slice id 0 n n 1 true,.cells (n*1) false [.int .i64 0] .nil):=by
 have aw:ai.ty 64=some yz:=by kernel_rfl
 have aL:ai.ty 3=some q_:=by kernel_rfl
 unfold kW xR;rw[aw]
 show(match(match ai.ty 3 with
  |some ie=>
   bif Nat.ble n n&&Nat.ble (ie.bytes*n) 140737488355328&&Nat.ble 1 ie.bytes then
    match hF ie.desc,ie.zero with
    |true,[.int .u8 (.ofNat 0)]=>some (n,n,ie.size,bp.bytes n false 0)
    |_,_=>some (n,n,ie.size,.cells (n*ie.size) false ie.zero .nil)
   else none
  |none=>none)with|some (l,c,sz,o)=>some ((λid=>J.slice id 0 l c sz true),o) |none=>none)=_
 rw[aL];have h1:Nat.ble n n=true:=dr.2 (Nat.le_refl _);have aa:Nat.ble (q_.bytes*n) 140737488355328=true:=dr.2 (by show 8*n<=_;omega);simp only[h1,aa,Bool.true_and];rfl
theorem P6{h:ag}{id n:Nat}(aE:h.get id=.cells (n*1) false [.int .i64 0] .nil) :a6.Obj h id ((List.range n).map λ_=>J.int .i64 ((0:Nat) :Int)):=by
 refine⟨⟨[.int .i64 0],.nil,by rw[aE];simp⟩,λi=> ?_⟩;unfold bE;rw[aE];show(bif Nat.blt i (n*1)then _ else none)=_;by_cases U:i<n
 ·rw[c4.2 (by omega)];simp only[cond_true];rw[List.getElem?_map,List.getElem?_range U];show([J.int .i64 0] :List J)[i%1]? =_;rw[Nat.mod_one];rfl
 ·rw[show Nat.blt i (n*1)=false by rw[<-Bool.not_eq_true,c4];omega];simp[U]
theorem W4(n:Nat) :b' (λ_=>true) n=n:=by
 have:=FT (λ_:Nat=>true) n;have aa:b' (λ_:Nat=> !true) n=0:=m1.2 λ_ _=>rfl
 omega
theorem afA{t r nn:Nat}(fU:fP h A t r nn) :call ai PV (.func 94 [] []) [.ptr t 0] h=some (.int .i64 (nn:Nat),h):=by refine aeG (x:=.ret) (vs:=[.int .i64 (nn:Nat)]) (first:=[]) (cap:=[]) ?_ rfl;simp only[St,ak,a1,Bool.false_eq_true,if_false,b2,J4,Nat.zero_add,b6,Obj.get fU (i:=2) rfl]
theorem V8(a b:Nat)(f n:Int) :dW ai 272 [(0,.ptr a b),(1,.int .i64 f),(2,.int .i64 n)]=some (.agg [.ptr a b,.int .i64 f,.int .i64 n]):=by kernel_rfl
theorem ajW(s:fh h A mem held free)(mj:free=b' (λf=>held f==0) A.n)(eT:0<free) :
  bN (call ai PV (.func 82 [] []) [.ptr A.p 0] h) λv g=>∃f t,f<A.n/\held f=0/\v=.tuple [.ptr t 0,.int .i64 0]/\h.next<=t/\t<g.next/\fh g A (aq mem f 0) (aq held f 1) (free-1)/\fP g A t f 1/\aF (hn A) h g:=by
 refine cF aew rfl ?_;obtain⟨f,f1,f2,g1,aw,gG,aW⟩:=En s.p mj eT;have s1:fh g1 A (aq mem f 0) (aq held f 1) (free-1):=⟨s.wid aW s.I_,gG,s.j_⟩;rw[aw];simp only[c1,fM,List.getElem?_cons_zero,List.getElem?_cons_succ,ak,dc,a1];rw[if_neg (by decide),V8,ak];refine b1 (ajf (cs:=[.ptr A.p 0,.int .i64 (f:Nat),.int .i64 1]) rfl) λg2 cc dS a_=> ?_
 have:=aW.next;exact aJ.pure ⟨f,g1.next,f1,f2,rfl,this,by omega,s1.ext a_,cc,(aW.mono λi _ e=>e).trans (aF.ext a_)⟩
end
end
section
variable{PV:cw} [db PV]
theorem QL{n f:Nat}(aB:f<n)(fn:Nat->Nat)(v:Nat) :((List.range n).map λj=>J.int .i64 (fn j:Nat)).set f (.int .i64 (v:Nat))=(List.range n).map λj=>J.int .i64 (aq fn f v j:Nat):=by
 apply List.ext_getElem?;intro j;rw[List.getElem?_set];by_cases az:f=j
 ·subst az;simp[aB,aq]
 ·have nT:¬j=f:=λe=>az e.symm
  rw[if_neg az];by_cases zy:j<n
  ·simp[zy,aq,nT]
  ·simp[zy]
structure ri where
 a:Nat
 q:Nat
 first:Nat
 cG:Nat
structure hc(h:ag)(R:ri)(D:im)(bQ:Nat->Nat)(used:Nat) :Prop where
 s:R.cG<=4096
 f:R.first+R.cG<=D.n
 lt:R.a<h.next/\R.q<h.next
 ne:R.a≠R.q/\R.a≠D.d/\R.a≠D.b/\R.q≠D.d/\R.q≠D.b
 str:∃ex,a6.Obj h R.a [.ptr D.d 0,.int .i64 R.first,.slice R.q 0 R.cG R.cG 1 ex,.int .i64 used]
 arr:a6.Obj h R.q ((List.range R.cG).map λi=>J.int .i64 (bQ i:Nat))
section
variable{h g:ag}{R:ri}{D:im}{bQ:Nat->Nat}{used:Nat}{sec:Nat->Nat}{dH:Nat}
theorem hc.aq{S:Nat->Prop}(k:hc h R D bQ used)(u:aF S h g)(au:¬S R.a/\¬S R.q) :hc g R D bQ used where
 s:=k.s
 f:=k.f
 lt:=⟨Nat.lt_of_lt_of_le k.lt.1 u.next,Nat.lt_of_lt_of_le k.lt.2 u.next⟩
 ne:=k.ne
 str:=let⟨ex,o⟩:=k.str;⟨ex,o.aq u k.lt.1 au.1⟩
 arr:=k.arr.aq u k.lt.2 au.2
theorem hc.ext(k:hc h R D bQ used)(u:aX h g) :hc g R D bQ used:=k.aq u ⟨λe=>e,λe=>e⟩
theorem hc.AD(k:hc h R D bQ used){i:Nat}(U:i<R.cG) :bE h R.q i=some (.int .i64 (bQ i:Nat)):=by rw[k.arr.rd i];simp[U]
theorem Rw(k:hc h R D bQ used){i:Nat}(U:i<R.cG)(v:Nat) :∃g,dU ai h 3 (.ptr R.q i) (.int .i64 v)=some g/\(hc g R D (aq bQ i v) used/\aF (λj=>j=R.q) h g/\g.next=h.next):=by
 obtain⟨g,e,o,u,n⟩:=kC (k:=i) (v:=.int .i64 v) k.arr (by simpa using U) rfl rfl;refine⟨g,e,⟨k.s,k.f,by rw[n];exact k.lt,k.ne,?_,?_⟩,u,n⟩
 ·obtain⟨ex,bL⟩:=k.str;exact⟨ex,bL.aq u k.lt.1 k.ne.1⟩
 ·rw[QL U]at o;exact o
theorem Rx(k:hc h R D bQ used)(v:Nat) :∃g,dU ai h 3 (.ptr R.a 3) (.int .i64 v)=some g/\(hc g R D bQ v/\aF (λj=>j=R.a) h g/\g.next=h.next):=by obtain⟨ex,bL⟩:=k.str;obtain⟨g,e,o,u,n⟩:=kC (k:=3) (v:=.int .i64 v) bL (by simp) rfl rfl;exact⟨g,e,⟨k.s,k.f,by rw[n];exact k.lt,k.ne,⟨ex,o⟩,k.arr.aq u k.lt.2 (λe=>k.ne.1 e.symm)⟩,u,n⟩
theorem aiw(k:hc h R D bQ used) :call ai PV (.func 93 [] []) [.ptr R.a 0] h=some (.int .i64 (R.cG:Nat),h):=by obtain⟨ex,o⟩:=k.str;refine aeF (x:=.ret) (vs:=[.int .i64 (R.cG:Nat)]) (first:=[]) (cap:=[]) ?_ rfl;simp only[EH,ak,a1,Bool.false_eq_true,if_false,b2,sQ,Nat.zero_add,sU,Obj.get o (i:=2) rfl,q5]
theorem Rz(k:hc h R D bQ used){i:Nat}(U:i<R.cG) :call ai PV (.func 99 [] []) [.ptr R.a 0,.int .i64 i] h=some (.int .i64 (bQ i:Nat),h):=by
 obtain⟨ex,o⟩:=k.str;refine aeK (x:=.ret) (vs:=[.int .i64 (bQ i:Nat)]) (first:=[]) (cap:=[]) ?_ rfl;have dI:¬(i:Int) <0:=by omega
 have bc:¬(R.cG:Int)<=(i:Int):=by omega
 simp only[EH,ak,cJ,if_true,cQ,decide_eq_false dI,cO,bn,bd,cB,Bool.false_eq_true,if_false,a1,b2,sQ,Nat.zero_add,sU,Obj.get o (i:=2) rfl,q5,fk,decide_eq_false bc,pb U,b6,k.AD U]
theorem R0(k:hc h R D bQ used){i:Nat}(U:i<R.cG)(aC:bQ i≠0){qb:J}{Q:J->ag->Prop}(aA:bN (call ai PV qb [] h) Q) :bN (call ai PV (.func 185 [] []) [.ptr R.a 0,.int .i64 i,qb] h) Q:=by
 obtain⟨ex,o⟩:=k.str;refine cF adx rfl ?_;have dI:¬(i:Int) <0:=by omega
 have bc:¬(R.cG:Int)<=(i:Int):=by omega
 have bW:¬(bQ i:Int)=0:=by omega
 simp only[EH,ak,a1,Bool.false_eq_true,if_false,cQ,decide_eq_false dI,cJ,if_true,b2,sQ,Nat.zero_add,sU,Obj.get o (i:=2) rfl,q5,fk,decide_eq_false bc,cO,bn,bd,cB,pb U,b6,k.AD U,c2,decide_eq_false bW];exact bS aA λv g ay=>aJ.pure ay
theorem aij(k:hc h R D bQ used){i:Nat}(U:i<R.cG)(aC:bQ i≠0)(af:bQ i<2^60)(hu:1<=used/\used<=4096) :
  bN (call ai PV (.func 176 [] []) [.ptr R.a 0,.int .i64 i] h) λv g=>v=.int .i64 0/\hc g R D (aq bQ i (bQ i-1)) (if bQ i=1 then used-1 else used)/\aF (λj=>j=R.q\/j=R.a) h g:=by
 refine cF adp rfl ?_;refine b1 (R4 (cs:=[.ptr R.a 0]) rfl) λg1 bU dF aW=> ?_
 refine b1 (AY (cs:=[.int .i64 (i:Nat)]) rfl) λg2 cc dS a_=> ?_
 have bK:=k.lt;have cE:=k.ne;have eA:=bU.ext a_ (by omega);have bR:=k.ext (aW.trans a_);simp only[pc,b6,Obj.get eA (i:=0) rfl,Obj.get cc (i:=0) rfl,ak];refine bS (R0 bR U aC (Q:=λv g=>v=.int .i64 0/\hc g R D (aq bQ i (bQ i-1)) (if bQ i=1 then used-1 else used)/\aF (λj=>j=R.q\/j=R.a) g2 g) ?_) ?_
 ·refine cF ad5 rfl ?_;have bC:aX g2 (g2.aV 10):=aF.aV _ _ _;have HU:=bR.ext bC;obtain⟨ex,o⟩:=HU.str;have ah:=HU.AD U;have au:=Obj.get o (i:=2) rfl;rw[cT]at ah au;have aw:bF .i64 ((bQ i:Int) -1)=((bQ i-1:Nat) :Int):=by rw[wrap_i64 (by omega) (by omega)];omega
  simp only[pc,sU,b6,cT,Obj.get eA (i:=0) rfl,Obj.get cc (i:=0) rfl,ak,b2,sQ,J5,Nat.zero_add,au,pb U,ah,e4,aw];refine cb (Rw HU U _) λg3 ⟨bY,bw,eH⟩=> ?_
  have IF:(g2.aV 10).next=g2.next+10:=rfl
  have Be:aX g3 (g3.aV 8):=aF.aV _ _ _;have tR:=bY.ext Be;obtain⟨alK,b8⟩:=tR.str;have zP:=tR.AD U;have xB:=Obj.get b8 (i:=2) rfl;have CY:=Obj.get b8 (i:=3) rfl;rw[cT]at zP xB CY;rw[e3]at zP;have hl:=(eA.ext bC (by omega)).aq bw (by omega) (by omega);have DF:=(cc.ext bC (by omega)).aq bw (by omega) (by omega);simp only[dh,pc,sU,b6,cT,Obj.get hl (i:=0) rfl,Obj.get DF (i:=0) rfl,ak,b2,sQ,J5,Nat.zero_add,xB,pb U,zP,c2,CY,e4,a1,decide_eq_true_eq];have nv:aF (λj=>j=R.q\/j=R.a) g2 (g3.aV 8):=((aF.ext bC).trans (bw.mono λj _ e=>.inl e)).trans (aF.ext Be);by_cases c:bQ i=1
  ·have gz:((bQ i-1:Nat) :Int)=0:=by omega
   have aL:bF .i64 ((used:Int) -1)=((used-1:Nat) :Int):=by rw[wrap_i64 (by omega) (by omega)];omega
   rw[if_pos gz,if_pos c,aL];refine fV (P:=λx vs g=>x=.normal/\vs=[]/\hc g R D (aq bQ i (bQ i-1)) (used-1)/\aF (λj=>j=R.a) (g3.aV 8) g) (cb (Rx tR _) λg4 ⟨c8,bA,gb⟩=>aJ.pure ⟨rfl,rfl,c8,bA⟩) ?_;rintro _ _ g4 ⟨rfl,rfl,c8,bA⟩;simp only[bd,hf];exact aJ.pure ⟨rfl,c8,nv.trans (bA.mono λj _ e=>.inr e)⟩
  ·have gz:¬((bQ i-1:Nat) :Int)=0:=by omega
   rw[if_neg gz,if_neg c];simp only[cO,bd,hf];exact aJ.pure ⟨rfl,tR,nv⟩
 ·rintro _ g3 ⟨rfl,bY,bw⟩;exact aJ.pure ⟨rfl,bY,(aF.ext (aW.trans a_)).trans bw⟩
theorem aik(k:hc h R D bQ used)(d:eX h D sec dH){i:Nat}(U:i<R.cG)(aC:bQ i≠0) :
  bN (call ai PV (.func 228 [] []) [.ptr R.a 0,.int .i64 i] h) λv g=>v=.tuple [.str 64 (sec (R.first+i)),.int .i64 0]/\hc g R D bQ used/\eX g D sec dH/\aF (λj=>j=D.d) h g:=by
 refine cF adJ rfl ?_;refine b1 (R4 (cs:=[.ptr R.a 0]) rfl) λg1 bU dF aW=> ?_
 refine b1 (AY (cs:=[.int .i64 (i:Nat)]) rfl) λg2 cc dS a_=> ?_
 refine b1 R1 λg3 b8 eH bw=> ?_
 refine cb (EI (v:=.str 0 0) b8 (by simp) rfl rfl) λg4 ⟨c5,bA,gb⟩=> ?_
 have bK:=k.lt;have cE:=k.ne;have aB:=k.f;have ZT:=d.lt;have Np:=d.n;have gR:=(bU.ext (a_.trans bw) (by omega)).aq bA (by omega) (by omega);have sr:=(cc.ext bw (by omega)).aq bA (by omega) (by omega);have jS:aX h g4:=((aW.trans a_).trans bw).local bA (λj az e=>by omega);have c8:=k.ext jS;have d4:=d.ext jS;simp only[pc,b6,Obj.get gR (i:=0) rfl,Obj.get sr (i:=0) rfl,ak];refine bS (R0 c8 U aC (Q:=λv g=>v=.int .i64 0/\eX g D sec dH/\aF (λj=>j=D.d\/j=g2.next) g4 g/\a6.Obj g g2.next [.str 64 (sec (R.first+i))]) ?_) ?_
 ·refine cF aea rfl ?_;have bC:aX g4 (g4.aV 16):=aF.aV _ _ _;have Dg:=c8.ext bC;have Xj:=d4.ext bC;obtain⟨ex,o⟩:=Dg.str;have hk:=Obj.get o (i:=0) rfl;have hB:=Obj.get o (i:=1) rfl;rw[cT]at hk hB;have aw:bF .i64 ((R.first:Int) +(i:Int))=((R.first+i:Nat) :Int):=by rw[wrap_i64 (by omega) (by omega)];omega
  simp only[pc,wc,b6,cT,Obj.get gR (i:=0) rfl,Obj.get sr (i:=0) rfl,ak,b2,R_,R',Nat.zero_add,hk,hB,cP,aw];refine bS (Mm Xj (i:=R.first+i) (by omega)) ?_;rintro _ g5 ⟨rfl,d5,bZ⟩;have IF:(g4.aV 16).next=g4.next+16:=rfl
  have:=bZ.next;have afX:=(c5.ext bC (by omega)).aq bZ (by omega) (by omega);simp only[fM,List.getElem?_cons_zero,List.getElem?_cons_succ,ak];refine cb (EI (v:=.str 64 (sec (R.first+i))) afX (by simp) rfl rfl) λg6 ⟨di,b3,n6⟩=> ?_
  simp only[dh];exact aJ.pure ⟨rfl,d5.aq b3 ⟨by omega,by omega⟩,((aF.ext bC).trans (bZ.mono λj _ e=>.inl e)).trans (b3.mono λj _ e=>.inr e),di⟩
 ·rintro _ g5 ⟨rfl,d5,bZ,cS⟩;simp only[EE,Obj.get cS (i:=0) rfl,ak];exact aJ.pure ⟨rfl,c8.aq bZ ⟨by omega,by omega⟩,d5,(aF.ext (S:=λj=>j=D.d) jS).local bZ (λj az e=>by omega)⟩
theorem aiI(k:hc h R D bQ used)(d:eX h D sec dH)(xC:dH<=R.first){m:Nat}(hm:m<2^512)(hu:used<=4096) :
  bN (call ai PV (.func 240 [] []) [.ptr R.a 0,.str 64 m] h) λv g=>
   (∃i,i<R.cG/\bQ i=0/\v=.tuple [.int .i64 (i:Nat),.int .i64 0]/\hc g R D (aq bQ i 1) (used+1)/\eX g D (aq sec (R.first+i) m) dH/\aF (λj=>j=D.d\/j=D.b\/j=R.q\/j=R.a) h g)\/
   ((∀i,i<R.cG->bQ i≠0)/\v=.tuple [.int .i64 0,.int .i64 15]/\g=h):=by
 refine cF adO rfl ?_;obtain⟨ex,o⟩:=k.str;have bK:=k.lt;have cE:=k.ne;have aB:=k.f;have au:=k.s;have ZT:=d.lt;have Np:=d.n;simp only[EH,ak,cJ,if_true,xO,dc,cO,bn,bd,cB,Bool.false_eq_true,if_false,a1];rw[if_neg (by decide)];simp only[b2,ak,sQ,Nat.zero_add,sU,Obj.get o (i:=2) rfl,q5]
 refine gW (I:=λi vs g=>g=h/\vs=[.int .i64 (R.cG:Nat),.int .i64 (i:Nat)]/\∀j,j<i->bQ j≠0) R.cG (by omega)
  (P:=λx vs g=>g=h/\x=.exit 0/\((∃i b,i<R.cG/\bQ i=0/\vs=[.int .i64 (i:Nat),b])\/((∃b,vs=[.int .i64 (R.cG:Nat),b])/\∀i,i<R.cG->bQ i≠0))) ⟨rfl,rfl,by omega⟩ ?_ ?_
 ·rintro i vs _ U ⟨rfl,rfl,aI⟩;simp only[bn,bd,cQ,ak,a1,decide_eq_true_eq];by_cases eo:i=R.cG
  ·subst eo;rw[if_neg (by omega)];exact aJ.pure (.inr ⟨by simp,rfl,rfl,.inr ⟨⟨_,rfl⟩,aI⟩⟩)
  ·have G5:i<R.cG:=by omega
   have aw:bF .i64 ((i:Int) +1)=((i+1:Nat) :Int):=by rw[wrap_i64 (by omega) (by omega)];omega
   rw[if_pos (by omega)];simp only[pb G5,Nat.zero_add,b6,k.AD G5,ak,c2,a1,decide_eq_true_eq];by_cases oX:bQ i=0
   ·rw[if_pos (by omega)];exact aJ.pure (.inr ⟨by simp,rfl,rfl,.inl ⟨i,_,G5,oX,rfl⟩⟩)
   ·rw[if_neg (by omega)];simp only[cP,aw,ak];refine aJ.pure (.inl ⟨rfl,by omega,rfl,rfl,λj az=> ?_⟩);by_cases e:j=i
    ·subst e;exact oX
    ·exact aI j (by omega)
 ·rintro _ vs g ⟨aE,rfl,ae⟩;rcases ae with⟨i,b,U,aI,rfl⟩ |⟨⟨b,rfl⟩,aI⟩
  ·subst aE;simp only[bn,bd,fZ,if_true,b2,ak,sQ,Nat.zero_add,sU,Obj.get o (i:=2) rfl,q5,c2,a1,decide_eq_true_eq];rw[if_neg (by omega)];have bC:aX g (g.aV 13):=aF.aV _ _ _;have rG:=d.ext bC;have Dq:=k.ext bC;have aw:bF .i64 ((R.first:Int) +(i:Int))=((R.first+i:Nat) :Int):=by rw[wrap_i64 (by omega) (by omega)];omega
   simp only[wc,b6,cT,b2,ak,R_,R',Nat.zero_add,Obj.get o (i:=0) rfl,Obj.get o (i:=1) rfl,cP,aw];refine bS (XF rG (i:=R.first+i) (by omega) (by omega) hm) ?_;rintro _ g1 ⟨rfl,d1,aW⟩;have a':=Dq.aq aW ⟨by omega,by omega⟩;obtain⟨alJ,bU⟩:=a'.str;simp only[dh,dc,ak,a1];rw[if_neg (by decide)];simp only[b2,ak,sQ,Nat.zero_add,sU,Obj.get bU (i:=2) rfl,pb U];refine cb (show∃g,dU ai g1 3 (.ptr R.q i) (.int .i64 1)=some g/\_ from Rw a' U 1) λg2 ⟨bR,a_,dS⟩=> ?_
   obtain⟨hg,cc⟩:=bR.str;have aL:bF .i64 ((used:Int) +1)=((used+1:Nat) :Int):=by rw[wrap_i64 (by omega) (by omega)];omega
   simp only[b2,ak,J5,Nat.zero_add,b6,Obj.get cc (i:=3) rfl,cP,aL];refine cb (Rx bR (used+1)) λg3 ⟨bY,bw,eH⟩=> ?_
   refine aJ.pure (.inl ⟨i,U,aI,rfl,bY,(d1.aq a_ ⟨by omega,by omega⟩).aq bw ⟨by omega,by omega⟩,?_⟩);exact(((aF.ext bC).trans (aW.mono λj _ e=>by omega)).trans (a_.mono λj _ e=>by omega)).trans (bw.mono λj _ e=>by omega)
  ·subst aE;simp only[bn,bd,fZ,if_true,b2,ak,sQ,Nat.zero_add,sU,Obj.get o (i:=2) rfl,q5,c2,a1,decide_true];exact aJ.pure (.inr ⟨aI,rfl,rfl⟩)
end
end
def gr(a b:Int) :J:=.agg [.int .i64 a,.int .i64 b]
theorem B'(h:ag)(a b c d:Int) :fm ai h 5 182 (gr a b) (gr c d)=some (decide (a=c/\b=d)):=by
 have e:fm ai h 5 182 (gr a b) (gr c d)=bif h5 a c then(bif h5 b d then some true else some false)else some false:=by kernel_rfl
 have jD:∀n ga,h5 n ga=decide (n=ga):=λn ga=>by rw[oJ,Bool.eq_iff_iff];simp
 rw[e,jD,jD];by_cases h1:a=c<;>by_cases aa:b=d<;>simp[h1,aa]
theorem Dj(h:ag)(a b:Int) :lz ai h 182 (gr a b)=true:=by
 have aw:sf ai 182=true:=by kernel_rfl
 have aL:ai.ty 182=some yw:=by kernel_rfl
 unfold lz;rw[aw,B',aL];simp[gr,yw]
def k8(h:ag)(m:Nat)(l:List cH) :Prop:=∃es clock,h.get m=.map es clock/\es.map (λe=>(e.1,e.2.1))=l.map λy=>(gr y.file y.bq,J.ptr y.id 0)
theorem k8.aq{h g:ag}{m:Nat}{l:List cH}(k:k8 h m l){S:Nat->Prop}(u:aF S h g)(hm:m<h.next)(au:¬S m) :k8 g m l:=by obtain⟨es,clock,e,q⟩:=k;exact⟨es,clock,by rw[u.get _ hm au];exact e,q⟩
theorem Gn{h:ag}{a b:Int} :∀{es:List (J×J×Nat)} {l:List cH} {i:Nat},es.map (λe=>(e.1,e.2.1))=l.map (λy=>(gr y.file y.bq,J.ptr y.id 0))->(∀y,y∈l->¬(y.file=a/\y.bq=b))->h6 ai h 182 (gr a b) es i=some none
 |[],_,_,_,_=>rfl
 |(k,v,t)::es,[],_,e,_=>by simp at e
 |(k,v,t)::es,y::l,i,e,al=>by
  simp only[List.map_cons,List.cons.injEq,Prod.mk.injEq]at e;obtain⟨⟨rfl,rfl⟩,e⟩:=e;have h1:¬(a=y.file/\b=y.bq):=λaC=>al y (by simp) ⟨aC.1.symm,aC.2.symm⟩
  unfold h6;rw[B',decide_eq_false h1];show h6 ai h 182 (gr a b) es (i+1)=_;exact Gn e λz aI=>al z (by simp[aI])
theorem Gp{h:ag}{x:cH} :∀{es:List (J×J×Nat)} {p q:List cH} {i:Nat},es.map (λe=>(e.1,e.2.1))=(p++x::q).map (λy=>(gr y.file y.bq,J.ptr y.id 0))->(∀y,y∈p->¬(y.file=x.file/\y.bq=x.bq))->∃t,h6 ai h 182 (gr x.file x.bq) es i=some (some (i+p.length,.ptr x.id 0,t))
 |[],p,q,_,e,_=>by simp at e
 |(k,v,t)::es,[],q,i,e,al=>by simp only[List.nil_append,List.map_cons,List.cons.injEq,Prod.mk.injEq]at e;obtain⟨⟨rfl,rfl⟩,e⟩:=e;refine⟨t,?_⟩;unfold h6;rw[B',decide_eq_true ⟨rfl,rfl⟩];rfl
 |(k,v,t)::es,y::p,q,i,e,al=>by
  simp only[List.cons_append,List.map_cons,List.cons.injEq,Prod.mk.injEq]at e;obtain⟨⟨rfl,rfl⟩,e⟩:=e;have h1:¬(x.file=y.file/\x.bq=y.bq):=λaC=>al y (by simp) ⟨aC.1.symm,aC.2.symm⟩
  obtain⟨ot,cR⟩:=Gp (h:=h) (i:=i+1) e λz aI=>al z (by simp[aI])
  refine⟨ot,?_⟩;unfold h6;rw[B',decide_eq_false h1];show h6 ai h 182 (gr x.file x.bq) es (i+1)=_;rw[cR,List.length_cons,show i+1+p.length=i+(p.length+1)by omega]
theorem Im{α β:Type}(f:α->β) :∀(l:List α) (i:Nat),(l.eraseIdx i).map f=(l.map f).eraseIdx i
 |[],_=>rfl
 |_::_,0=>rfl
 |x::l,i+1=>by show f x::(l.eraseIdx i).map f=f x::(l.map f).eraseIdx i;rw[Im f l i]
section
variable{h:ag}{m:Nat}{l p q:List cH}{x:cH}
theorem aeO(k:k8 h m l){a b:Int}(al:∀y,y∈l->¬(y.file=a/\y.bq=b)) :iD ai h 292 (.map m) (gr a b) true=some (.tuple [.nilPtr,.bool false]):=by
 obtain⟨es,clock,e,q⟩:=k;have aw:ai.ty 292=some q9:=by kernel_rfl
 have aL:ai.ty 296=some sZ:=by kernel_rfl
 have bo:q9.desc=.map 182 296:=rfl;simp only[iD,aw,aL,bo,Dj,cond_true,e,Gn (h:=h) q al];rfl
theorem Pd(k:k8 h m (p++x::q))(al:∀y,y∈p->¬(y.file=x.file/\y.bq=x.bq)) :iD ai h 292 (.map m) (gr x.file x.bq) true=some (.tuple [.ptr x.id 0,.bool true]):=by
 obtain⟨es,clock,e,q⟩:=k;have aw:ai.ty 292=some q9:=by kernel_rfl
 have aL:ai.ty 296=some sZ:=by kernel_rfl
 have bo:q9.desc=.map 182 296:=rfl;obtain⟨t,eh⟩:=Gp (h:=h) (i:=0) q al;simp only[iD,aw,aL,bo,Dj,cond_true,e,eh]
theorem akm(k:k8 h m l){y:cH}(al:∀z,z∈l->¬(z.file=y.file/\z.bq=y.bq)) :∃g,iE ai h 292 (.map m) (gr y.file y.bq) (.ptr y.id 0)=some g/\(k8 g m (l++[y])/\aF (λi=>i=m) h g/\g.next=h.next):=by
 obtain⟨es,clock,e,q⟩:=k;have aw:ai.ty 292=some q9:=by kernel_rfl
 have bo:q9.desc=.map 182 296:=rfl;refine⟨_,?_,⟨es++[(gr y.file y.bq,.ptr y.id 0,clock)],clock+1,kR _ _ _,by simp[q]⟩,aF.put _ rfl,rfl⟩;simp only[iE,aw,bo,e,Dj,cond_true,Gn (h:=h) q al]
theorem Xz(k:k8 h m (p++x::q))(al:∀y,y∈p->¬(y.file=x.file/\y.bq=x.bq)) :∃g,kn ai h 292 (.map m) (gr x.file x.bq)=some g/\(k8 g m (p++q)/\aF (λi=>i=m) h g/\g.next=h.next):=by
 obtain⟨es,clock,e,ay⟩:=k;have aw:ai.ty 292=some q9:=by kernel_rfl
 have bo:q9.desc=.map 182 296:=rfl;obtain⟨t,eh⟩:=Gp (h:=h) (i:=0) ay al;rw[Nat.zero_add]at eh;refine⟨h.put m (.map (es.eraseIdx p.length) clock),by simp only[kn,aw,bo,e,Dj,cond_true,eh],⟨_,clock,kR _ _ _,?_⟩,aF.put _ rfl,rfl⟩;rw[Im,ay,<-Im,List.eraseIdx_append_of_length_le (Nat.le_refl _),Nat.sub_self];rfl
end
def cH.vs(y:cH) :List J:=[.int .i64 y.file,.int .i64 y.bq,.int .i64 y.fr,.bool y.fresh]
structure dQ where
 A:fB
 D:im
 R:ri
 F:kH
 k:Nat
 m:Nat
 M:Nat
 dH:Nat
 D7:Nat->Nat
structure jw(h:ag)(X:dQ)(ρ:Nat->Nat)(ring:List cH)(hand:Nat) :Prop where
 str:∃rv hits fills,a6.Obj h X.k [.ptr X.A.p 0,.ptr X.F.f 0,.map X.m,rv,.int .i64 hand,.int .i64 hits,.int .i64 fills]/\gk h 1 rv ((ring.map λy=>J.ptr y.id 0).map one)/\ql rv=true/\∀b,ch rv=some b->ρ b=10
 map:k8 h X.m ring
 cy:∀y,y∈ring->a6.Obj h y.id y.vs/\ρ y.id=11
 keys:ring.Pairwise λa b=>¬(a.file=b.file/\a.bq=b.bq)
 oK:ring.length<=4096
 cL:hand<=4096
structure Core(h:ag)(X:dQ)(ρ:Nat->Nat)(σ:b0) :Prop where
 ps:fh h X.A σ.mem σ.held σ.free
 ji:eX h X.D σ.sec X.dH
 gM:hc h X.R X.D σ.bQ σ.used
 gm:kg h X.F X.D
 dd:jw h X ρ σ.ring σ.hand
 eL:ρ X.A.b=1/\ρ X.A.q=2/\ρ X.A.p=3
 fa:ρ X.D.d=4/\ρ X.D.b=5
 fG:ρ X.R.a=6/\ρ X.R.q=7
 fF:ρ X.k=8/\ρ X.m=9
 r0:ρ 0=12
 d':ρ X.F.f=12/\(∀b,ch X.F.l3=some b->ρ b=12)/\∀n b,n∈X.F.cx->ch n.cm=some b->ρ b=12
 lt:∀i,ρ i≠0->i<h.next
section
variable{h g:ag}{X:dQ}{ρ a8:Nat->Nat}{σ:b0}{ring:List cH}{hand:Nat}
theorem jw.ca(k:jw h X ρ ring hand){S:Nat->Prop}(u:aF S h g)(au:∀i,S i->i<h.next->ρ i<8\/11<ρ i)(ah:∀i,i<h.next->a8 i=ρ i)(ar:∀i,ρ i≠0->i<h.next)(aj:ρ X.k=8/\ρ X.m=9) :jw g X a8 ring hand:=by
 have no:∀i,8<=ρ i->ρ i<=11->i<h.next/\¬S i:=λi h1 aa=>by have jl:=ar i (by omega);refine⟨jl,λe=> ?_⟩;have:=au i e jl;omega
 obtain⟨rv,hits,fills,o,v,ex,dL⟩:=k.str;have a':=no X.k (by omega) (by omega);have bR:=no X.m (by omega) (by omega);refine⟨⟨rv,hits,fills,o.aq u a'.1 a'.2,v.aq u (λb af=>(no b (by rw[dL b af];decide) (by rw[dL b af];decide)).2),ex,λb af=> ?_⟩,k.map.aq u bR.1 bR.2,λy an=> ?_,k.keys,k.oK,k.cL⟩
 ·rw[ah b (no b (by rw[dL b af];decide) (by rw[dL b af];decide)).1];exact dL b af
 ·obtain⟨gG,fz⟩:=k.cy y an;have bY:=no y.id (by omega) (by omega);exact⟨gG.aq u bY.1 bY.2,by rw[ah _ bY.1];exact fz⟩
theorem Core.ca(k:Core h X ρ σ){S:Nat->Prop}(u:aF S h g)(au:∀i,S i->i<h.next->ρ i=0\/12<ρ i)(ah:∀i,i<h.next->a8 i=ρ i)(ar:∀i,a8 i≠0->i<g.next) :Core g X a8 σ:=by
 have no:∀i,i<h.next->(1<=ρ i/\ρ i<=12)->¬S i:=λi h1 aa e=>by have:=au i e h1;omega
 have eL:=k.eL;have fa:=k.fa;have fG:=k.fG;have fF:=k.fF;have d':=k.d';have pl:=k.ps.p.lt;have dl:=k.ji.lt;have ru:=k.gM.lt;have xU:(0:Nat) <h.next:=by omega
 have ku:=k.lt X.k (by omega);have oc:=k.lt X.m (by omega);have gm:=k.gm.lt
 have zG:∀b,ch X.F.l3=some b->b<h.next:=λb af=>by
  rcases k.gm.nodes.2 with⟨e,_⟩ |⟨ea,_,_,_,e,aa,_⟩
  ·rw[e]at af;cases af
  ·rw[e]at af;cases af;exact aa
 have r1:∀n b,n∈X.F.cx->ch n.cm=some b->b<h.next:=λn b al af=>by
  rcases(k.gm.exts n al).2 with⟨e,_⟩ |⟨ea,_,_,_,e,aa,_⟩
  ·rw[e]at af;cases af
  ·rw[e]at af;cases af;exact aa
 refine⟨k.ps.ca u ⟨no _ pl.1 (by omega),no _ pl.2.1 (by omega),no _ pl.2.2 (by omega),no 0 xU (by have:=k.r0;omega)⟩,
  k.ji.aq u ⟨no _ dl.1 (by omega),no _ dl.2 (by omega)⟩,k.gM.aq u ⟨no _ ru.1 (by omega),no _ ru.2 (by omega)⟩,
  k.gm.aq u ⟨no _ gm (by omega),λb af=>no b (zG b af) (by have:=d'.2.1 b af;omega),λn b al af=>no b (r1 n b al af) (by have:=d'.2.2 n b al af;omega)⟩,
  k.dd.ca u (λi U ar=>by have:=au i U ar;omega) ah k.lt fF,?_,?_,?_,?_,?_,?_,ar⟩
 ·rw[ah _ pl.1,ah _ pl.2.1,ah _ pl.2.2];exact eL
 ·rw[ah _ dl.1,ah _ dl.2];exact fa
 ·rw[ah _ ru.1,ah _ ru.2];exact fG
 ·rw[ah _ ku,ah _ oc];exact fF
 ·rw[ah _ xU];exact k.r0
 ·exact⟨by rw[ah _ gm];exact d'.1,λb af=>by rw[ah _ (zG b af)];exact d'.2.1 b af,λn b al af=>by rw[ah _ (r1 n b al af)];exact d'.2.2 n b al af⟩
theorem Core.ext(k:Core h X ρ σ)(u:aX h g) :Core g X ρ σ:=k.ca u (λ_ e _=>e.elim) (λ_ _=>rfl) (λi U=>Nat.lt_of_lt_of_le (k.lt i U) u.next)
end
def pq(h:ag)(m:Nat)(l:List (Int×J)) :Prop:=∃es clock,h.get m=.map es clock/\es.map (λe=>(e.1,e.2.1))=l.map (λy=>(J.int .i64 y.1,y.2))/\nr es 0 clock=true
theorem pq.aq{h g:ag}{m:Nat}{l:List (Int×J)}(k:pq h m l){S:Nat->Prop}(u:aF S h g)(hm:m<h.next)(au:¬S m) :pq g m l:=by obtain⟨es,clock,e,q⟩:=k;exact⟨es,clock,by rw[u.get _ hm au];exact e,q⟩
def oZ:List (Int×J)->Int->Option J
 |[],_=>none
 |(j,v)::l,k=>if j=k then some v else oZ l k
theorem Gb(h:ag)(a b:Int) :fm ai h 5 3 (.int .i64 a) (.int .i64 b)=some (decide (a=b)):=by
 have:fm ai h 5 3 (.int .i64 a) (.int .i64 b)=some (h5 a b):=by kernel_rfl
 rw[this,oJ];congr 1
theorem Dk(h:ag)(a:Int) :lz ai h 3 (.int .i64 a)=true:=by
 unfold lz;have aw:sf ai 3=true:=by kernel_rfl
 rw[aw,Gb,decide_eq_true rfl];rfl
def ua:List (Int×J)->Int->J->List (Int×J)
 |[],k,v=>[(k,v)]
 |(j,w)::l,k,v=>if j=k then(j,v)::l else(j,w)::ua l k v
def uR:List (Int×J)->Int->List (Int×J)
 |[],_=>[]
 |(j,w)::l,k=>if j=k then l else(j,w)::uR l k
theorem Gm{h:ag}{k:Int} :∀{es:List (J×J×Nat)} {l:List (Int×J)} {i:Nat},es.map (λe=>(e.1,e.2.1))=l.map (λy=>(J.int .i64 y.1,y.2))->
  (oZ l k=none/\h6 ai h 3 (.int .i64 k) es i=some none/\∀v t,(es++[(J.int .i64 k,v,t)]).map (λe:J×J×Nat=>(e.1,e.2.1))=(ua l k v).map (λy=>(J.int .i64 y.1,y.2))/\uR l k=l)\/
  ∃n v t,oZ l k=some v/\h6 ai h 3 (.int .i64 k) es i=some (some (i+n,v,t))/\(∀w,(tV es n w).map (λe=>(e.1,e.2.1))=(ua l k w).map (λy=>(J.int .i64 y.1,y.2)))/\(es.eraseIdx n).map (λe=>(e.1,e.2.1))=(uR l k).map (λy=>(J.int .i64 y.1,y.2))
 |[],[],i,_=>.inl ⟨rfl,rfl,λv t=>⟨rfl,rfl⟩⟩
 |[],_::_,_,e=>by simp at e
 |_::_,[],_,e=>by simp at e
 |(dg,df,b)::es,(j,w)::l,i,e=>by
  simp only[List.map_cons,List.cons.injEq,Prod.mk.injEq]at e;obtain⟨⟨rfl,rfl⟩,e⟩:=e;by_cases az:j=k
  ·refine .inr ⟨0,df,b,?_,?_,λw=> ?_,?_⟩
   ·unfold oZ;rw[if_pos az]
   ·unfold h6;rw[Gb,decide_eq_true az.symm];rfl
   ·unfold ua;rw[if_pos az];show((J.int .i64 j,w)::es.map _)=_;rw[e];rfl
   ·unfold uR;rw[if_pos az];exact e
  ·have aB:h6 ai h 3 (.int .i64 k) ((J.int .i64 j,df,b)::es) i=h6 ai h 3 (.int .i64 k) es (i+1):=by
    conv=>lhs;unfold h6
    rw[Gb,decide_eq_false λe=>az e.symm];rfl
   have ar:oZ ((j,df)::l) k=oZ l k:=by conv=>lhs;unfold oZ;rw[if_neg az]
   have aD:∀w,ua ((j,df)::l) k w=(j,df)::ua l k w:=λw=>by conv=>lhs;unfold ua;rw[if_neg az]
   have ao:uR ((j,df)::l) k=(j,df)::uR l k:=by conv=>lhs;unfold uR;rw[if_neg az]
   rw[aB,ar];rcases Gm (h:=h) (k:=k) (i:=i+1) e with⟨h1,aa,av⟩ |⟨n,v,t,h1,aa,av,aO⟩
   ·refine .inl ⟨h1,aa,λv t=>⟨?_,by rw[ao,(av v t).2]⟩⟩;rw[aD,List.map_cons,<-(av v t).1];rfl
   ·refine .inr ⟨n+1,v,t,h1,by rw[aa,show i+1+n=i+(n+1)by omega],λw=> ?_,?_⟩
    ·rw[aD,List.map_cons,<-av w];rfl
    ·rw[ao,List.map_cons,<-aO];rfl
theorem RS:∀{es:List (J×J×Nat)} {lo c:Nat} (k v:J),nr es lo c=true->lo<=c->nr (es++[(k,v,c)]) lo (c+1)=true
 |[],lo,c,k,v,_,h=>by show(Nat.ble lo c&&Nat.blt c (c+1) &&true)=true;rw[dr.2 h,c4.2 (Nat.lt_succ_self c)];rfl
 |(dg,df,b)::es,lo,c,k,v,h,ar=>by simp only[nr,Bool.and_eq_true,dr,c4]at h;show(Nat.ble lo b&&Nat.blt b (c+1) &&nr (es++[(k,v,c)]) (b+1) (c+1))=true;rw[dr.2 h.1.1,c4.2 (by omega),RS k v h.2 (by omega)];rfl
theorem RT:∀{es:List (J×J×Nat)} {lo c n:Nat} (w:J),nr es lo c=true->nr (tV es n w) lo c=true
 |[],_,_,_,_,h=>h
 |(dg,df,b)::es,lo,c,0,w,h=>h
 |(dg,df,b)::es,lo,c,n+1,w,h=>by simp only[nr,Bool.and_eq_true]at h;show(Nat.ble lo b&&Nat.blt b c&&nr (tV es n w) (b+1) c)=true;rw[h.1.1,h.1.2,RT w h.2];rfl
section
variable{h:ag}{m:Nat}{l:List (Int×J)}
def C_(t:Nat)(z:J) :Bool:=match ai.ty t with
 |some i=>match i.desc with
  | .map dv e=>Nat.beq dv 3&&(match ai.ty e with
   |some ie=>J.beq ie.zeroV z
   |none=>false)
  |_=>false
 |none=>false
theorem OA{t:Nat}{z:J}(c:C_ t z=true) :∃i e ie,ai.ty t=some i/\i.desc=.map 3 e/\ai.ty e=some ie/\ie.zeroV=z:=by
 unfold C_ at c;split at c
 ·rename_i i U;split at c
  ·rename_i dv e ao;rw[Bool.and_eq_true]at c;have h1:=a6.beq_true.1 c.1;obtain⟨_,c⟩:=c;split at c
   ·rename_i ie he;exact⟨i,e,ie,U,by rw[ao,h1],he,J.BK _ _ c⟩
   ·cases c
  ·cases c
 ·cases c
theorem Pe(t:Nat){z:J}(k:pq h m l)(a:Int)(ok:Bool)(c:C_ t z=true:=by kernel_rfl) :iD ai h t (.map m) (.int .i64 a) ok=some (bif ok then .tuple [(oZ l a).getD z,.bool (oZ l a).isSome]else(oZ l a).getD z):=by
 obtain⟨es,clock,e,q,st⟩:=k;obtain⟨i,el,ie,h1,aa,av,aO⟩:=OA c;rcases Gm (h:=h) (k:=a) (i:=0) q with⟨f1,f2,_⟩ |⟨n,v,ot,f1,f2,_⟩
 ·simp only[iD,h1,aa,av,Dk,cond_true,e,f2,f1,aO];rfl
 ·simp only[iD,h1,aa,av,Dk,cond_true,e,f2,f1];rfl
theorem UG(t:Nat){z:J}(k:pq h m l)(a:Int)(v:J)(c:C_ t z=true:=by kernel_rfl) :∃g,iE ai h t (.map m) (.int .i64 a) v=some g/\(pq g m (ua l a v)/\aF (λi=>i=m) h g/\g.next=h.next):=by
 obtain⟨es,clock,e,q,st⟩:=k;obtain⟨i,el,ie,h1,aa,av,aO⟩:=OA c;rcases Gm (h:=h) (k:=a) (i:=0) q with⟨f1,f2,f3⟩ |⟨n,df,ot,f1,f2,f3,_⟩
 ·refine⟨h.put m (.map (es++[(.int .i64 a,v,clock)]) (clock+1)),by simp only[iE,h1,aa,Dk,cond_true,e,f2],⟨_,clock+1,kR _ _ _,(f3 v clock).1,RS _ _ st (Nat.zero_le _)⟩,aF.put _ rfl,rfl⟩
 ·refine⟨h.put m (.map (tV es n v) clock),by simp only[iE,h1,aa,Dk,cond_true,e,f2,Nat.zero_add],⟨_,clock,kR _ _ _,f3 v,RT _ st⟩,aF.put _ rfl,rfl⟩
end
section
variable{PV:cw} [db PV]
section
variable{h g:ag}{X:dQ}{ρ a8:Nat->Nat}{σ:b0}{ring:List cH}{hand:Nat}
def ct(ρ:Nat->Nat)(h g:ag) :Prop:=aF (λi=>ρ i≠0/\ρ i<=12) h g
theorem ct.ext(u:aX h g) :ct ρ h g:=aF.ext u
theorem ct.of{S:Nat->Prop}(u:aF S h g)(au:∀i,i<h.next->S i->ρ i≠0/\ρ i<=12) :ct ρ h g:=u.mono au
theorem ct.trans{a b c:ag}(x:ct ρ a b)(y:ct a8 b c)(ah:∀i,i<a.next->a8 i=ρ i) :ct ρ a c:=
 aF.local x y λi U e=>by rw[<-ah i U];exact e
theorem ct.ca{id:Nat}{l:List J}(u:ct ρ h g)(o:a6.Obj h id l)(U:id<h.next)(ah:ρ id=0) :a6.Obj g id l:=o.aq u U (λe=>e.1 ah)
theorem Core.oi(k:Core h X ρ σ){i:Nat}(U:hn X.A i) :1<=ρ i/\ρ i<=3:=by have:=k.eL;rcases U with rfl|rfl|rfl<;>omega
theorem Core.mJ(k:Core h X ρ σ){mem held:Nat->Nat}{free:Nat}(p:dw g X.A mem held free)(u:aF (hn X.A) h g) :Core g X ρ {σ with mem:=mem,held:=held,free:=free}:=by
 have cz:∀i,hn X.A i->1<=ρ i/\ρ i<=3:=λi U=>k.oi U
 have fa:=k.fa;have fG:=k.fG;have d':=k.d'
 exact{
  ps:=⟨k.ps.w.aq u k.ps.I_,p,k.ps.j_⟩
  ji:=k.ji.aq u ⟨λe=>by have:=cz _ e;omega,λe=>by have:=cz _ e;omega⟩
  gM:=k.gM.aq u ⟨λe=>by have:=cz _ e;omega,λe=>by have:=cz _ e;omega⟩
  gm:=k.gm.aq u ⟨λe=>by have:=cz _ e;omega,λb af e=>by have:=cz _ e;have:=d'.2.1 b af;omega,λn b al af e=>by have:=cz _ e;have:=d'.2.2 n b al af;omega⟩
  dd:=k.dd.ca u (λi U _=>.inl (by have:=cz i U;omega)) (λ_ _=>rfl) k.lt k.fF
  eL:=k.eL,fa:=k.fa,fG:=k.fG,fF:=k.fF,r0:=k.r0,d':=k.d'
  lt:=λi U=>Nat.lt_of_lt_of_le (k.lt i U) u.next}
theorem Core.w0(k:Core h X ρ σ){sec:Nat->Nat}(d:eX g X.D sec X.dH)(u:aF (λi=>i=X.D.d\/i=X.D.b) h g) :Core g X ρ {σ with sec:=sec}:=by
 have eL:=k.eL;have fa:=k.fa;have fG:=k.fG;have d':=k.d';have cz:∀i,(i=X.D.d\/i=X.D.b)->4<=ρ i/\ρ i<=5:=by rintro i (rfl|rfl)<;>omega
 exact{
  ps:=k.ps.ca u ⟨λe=>by have:=cz _ e;omega,λe=>by have:=cz _ e;omega,λe=>by have:=cz _ e;omega,λe=>by have:=cz _ e;have:=k.r0;omega⟩
  ji:=d
  gM:=k.gM.aq u ⟨λe=>by have:=cz _ e;omega,λe=>by have:=cz _ e;omega⟩
  gm:=k.gm.aq u ⟨λe=>by have:=cz _ e;omega,λb af e=>by have:=cz _ e;have:=d'.2.1 b af;omega,λn b al af e=>by have:=cz _ e;have:=d'.2.2 n b al af;omega⟩
  dd:=k.dd.ca u (λi U _=>.inl (by have:=cz i U;omega)) (λ_ _=>rfl) k.lt k.fF
  eL:=k.eL,fa:=k.fa,fG:=k.fG,fF:=k.fF,r0:=k.r0,d':=k.d'
  lt:=λi U=>Nat.lt_of_lt_of_le (k.lt i U) u.next}
theorem Core.BF(k:Core h X ρ σ){bQ:Nat->Nat}{used:Nat}(d:hc g X.R X.D bQ used)(u:aF (λi=>i=X.R.q\/i=X.R.a) h g) :Core g X ρ {σ with bQ:=bQ,used:=used}:=by
 have eL:=k.eL;have fa:=k.fa;have fG:=k.fG;have d':=k.d';have cz:∀i,(i=X.R.q\/i=X.R.a)->6<=ρ i/\ρ i<=7:=by rintro i (rfl|rfl)<;>omega
 exact{
  ps:=k.ps.ca u ⟨λe=>by have:=cz _ e;omega,λe=>by have:=cz _ e;omega,λe=>by have:=cz _ e;omega,λe=>by have:=cz _ e;have:=k.r0;omega⟩
  ji:=k.ji.aq u ⟨λe=>by have:=cz _ e;omega,λe=>by have:=cz _ e;omega⟩
  gM:=d
  gm:=k.gm.aq u ⟨λe=>by have:=cz _ e;omega,λb af e=>by have:=cz _ e;have:=d'.2.1 b af;omega,λn b al af e=>by have:=cz _ e;have:=d'.2.2 n b al af;omega⟩
  dd:=k.dd.ca u (λi U _=>.inl (by have:=cz i U;omega)) (λ_ _=>rfl) k.lt k.fF
  eL:=k.eL,fa:=k.fa,fG:=k.fG,fF:=k.fF,r0:=k.r0,d':=k.d'
  lt:=λi U=>Nat.lt_of_lt_of_le (k.lt i U) u.next}
theorem Core.cache(k:Core h X ρ σ)(c:jw g X a8 ring hand){S:Nat->Prop}(u:aF S h g)(cz:∀i,i<h.next->S i->8<=ρ i/\ρ i<=11)(ah:∀i,i<h.next->a8 i=ρ i)(ar:∀i,a8 i≠0->i<g.next) :Core g X a8 {σ with ring:=ring,hand:=hand}:=by
 have eL:=k.eL;have fa:=k.fa;have fG:=k.fG;have fF:=k.fF;have d':=k.d';have pl:=k.ps.p.lt;have dl:=k.ji.lt;have ru:=k.gM.lt;have xU:(0:Nat) <h.next:=by omega
 have ku:=k.lt X.k (by omega);have oc:=k.lt X.m (by omega);have gm:=k.gm.lt;have no:∀i,i<h.next->(ρ i<8\/11<ρ i)->¬S i:=λi h1 aa e=>by have:=cz i h1 e;omega
 have zG:∀b,ch X.F.l3=some b->b<h.next:=λb af=>by
  rcases k.gm.nodes.2 with⟨e,_⟩ |⟨ea,_,_,_,e,aa,_⟩
  ·rw[e]at af;cases af
  ·rw[e]at af;cases af;exact aa
 have r1:∀n b,n∈X.F.cx->ch n.cm=some b->b<h.next:=λn b al af=>by
  rcases(k.gm.exts n al).2 with⟨e,_⟩ |⟨ea,_,_,_,e,aa,_⟩
  ·rw[e]at af;cases af
  ·rw[e]at af;cases af;exact aa
 exact{
  ps:=k.ps.ca u ⟨no _ pl.1 (by omega),no _ pl.2.1 (by omega),no _ pl.2.2 (by omega),no 0 xU (by have:=k.r0;omega)⟩
  ji:=k.ji.aq u ⟨no _ dl.1 (by omega),no _ dl.2 (by omega)⟩
  gM:=k.gM.aq u ⟨no _ ru.1 (by omega),no _ ru.2 (by omega)⟩
  gm:=k.gm.aq u ⟨no _ gm (by omega),λb af=>no b (zG b af) (by have:=d'.2.1 b af;omega),λn b al af=>no b (r1 n b al af) (by have:=d'.2.2 n b al af;omega)⟩
  dd:=c
  eL:=by rw[ah _ pl.1,ah _ pl.2.1,ah _ pl.2.2];exact eL
  fa:=by rw[ah _ dl.1,ah _ dl.2];exact fa
  fG:=by rw[ah _ ru.1,ah _ ru.2];exact fG
  fF:=by rw[ah _ ku,ah _ oc];exact fF
  r0:=by rw[ah _ xU];exact k.r0
  d':=⟨by rw[ah _ gm];exact d'.1,λb af=>by rw[ah _ (zG b af)];exact d'.2.1 b af,λn b al af=>by rw[ah _ (r1 n b al af)];exact d'.2.2 n b al af⟩
  lt:=ar}
theorem Zl(k:Core h X ρ σ){y:cH}(an:y∈σ.ring) :bN (call ai PV (.func 97 [] []) [.ptr X.k 0,gr y.file y.bq] h) λv g=>v=.tuple [.int .i64 y.fr,.bool true]/\aX h g:=by
 refine cF aeI rfl ?_;refine b1 (J0 (cs:=[.int .i64 y.file,.int .i64 y.bq]) rfl) λg1 bU dF aW=> ?_
 have bC:aX g1 (g1.aV 11):=aF.aV _ _ _;have a':=(k.ext aW).ext bC;have or:=bU.ext bC (by omega);obtain⟨rv,hits,fills,os,hL,ex,dL⟩:=a'.dd.str;have s2:=Obj.get os (i:=2) rfl;have fz:=Obj.get (a'.dd.cy y an).1 (i:=2) rfl;rw[cT]at s2 fz;obtain⟨pre,post,ah⟩:=List.append_of_mem an;have vh:=a'.dd.keys
 have vk:∀z,z∈pre->¬(z.file=y.file/\z.bq=y.bq):=λz aI=>by rw[ah]at vh;exact(List.pairwise_append.1 vh).2.2 z aI y (by simp)
 simp only[A5,ak,a1,Bool.false_eq_true,if_false,b2,A1,Nat.zero_add,A4,cT,s2];rw[nu or (by simp)];simp only[ak];have ar:=Pd (ah▸a'.dd.map) vk;unfold gr at ar;simp only[List.drop_zero,List.take_succ_cons,List.take_zero];rw[ar];simp only[ak,fM,List.getElem?_cons_zero,List.getElem?_cons_succ,dh,fA,a1,Bool.not_true,Bool.false_eq_true,if_false,b2,Ev,Nat.zero_add,b6,cT,fz];exact aJ.pure ⟨rfl,aW.trans bC⟩
end
end
section
variable{PV:cw} [db PV]
theorem V9(f p fr:Int) :dW ai 298 [(0,gr f p),(1,.int .i64 fr)]=some (.agg [.int .i64 f,.int .i64 p,.int .i64 fr,.bool false]):=by kernel_rfl
theorem Wn(a b:Nat) :gY ai 293 1 [(0,.ptr a b)]=some (λid=>J.slice id 0 1 1 1 true,.cells ([J.ptr a b] :List J).length false [] (bj.ofList [.ptr a b])):=by kernel_rfl
section
variable{h g:ag}{X:dQ}{ρ a8:Nat->Nat}{σ:b0}{ring:List cH}{hand:Nat}
theorem jw.ab5(k:jw h X ρ ring hand){pre post:List cH}{y:cH}(ah:ring=pre++y::post){z:cH}(aI:z∈pre++post) :z.id≠y.id:=λe=>by have aj:=k.keys;rw[ah]at aj;have h1:=((k0 (R:=λa b:cH=>¬(a.file=b.file/\a.bq=b.bq)) (λa b al aC=>al ⟨aC.1.symm,aC.2.symm⟩)).1 aj).1 z aI;have hW:=(k.cy y (by rw[ah];simp)).1;have jK:=(k.cy z (by rw[ah];exact gu.2 (.inr aI))).1;rw[e]at jK;have a0:=Obj.get hW (i:=0) rfl;have aQ:=Obj.get hW (i:=1) rfl;have k_:=Obj.get jK (i:=0) rfl;have fj:=Obj.get jK (i:=1) rfl;rw[a0]at k_;rw[aQ]at fj;simp only[Option.some.injEq,J.int.injEq,true_and]at k_ fj;exact h1 ⟨k_,fj⟩
theorem jw.mark(k:jw h X ρ ring hand)(ar:∀i,ρ i≠0->i<h.next)(aj:ρ X.k=8/\ρ X.m=9){pre post:List cH}{y:cH}(ah:ring=pre++y::post){b:Bool}(o:a6.Obj g y.id ({y with fresh:=b} :cH).vs)(u:aF (λi=>i=y.id) h g) :
  jw g X ρ (pre++{y with fresh:=b}::post) hand:=by
 obtain⟨rv,hits,fills,os,hL,ex,dL⟩:=k.str;have i_:=(k.cy y (by rw[ah];simp)).2;have ne:∀i,ρ i≠11->i≠y.id:=λi U e=>U (e▸i_)
 have vi:=ar X.k (by omega);have He:=ar X.m (by omega);have CN:∀{β:Type} (f:cH->β),(∀z b,f {z with fresh:=b}=f z)->(pre++{y with fresh:=b}::post).map f=ring.map f:=λf aB=>by rw[ah];simp[aB]
 refine⟨⟨rv,hits,fills,os.aq u vi (ne _ (by omega)),?_,ex,dL⟩,?_,?_,?_,?_,k.cL⟩
 ·rw[CN (λy=>J.ptr y.id 0) (λ_ _=>rfl)];exact hL.aq u λb af=>ne _ (by rw[dL b af];decide)
 ·obtain⟨es,b5,aw,aL⟩:=k.map;refine⟨es,b5,by rw[u.get _ He (ne _ (by omega))];exact aw,?_⟩;rw[CN (λy=>(gr y.file y.bq,J.ptr y.id 0)) (λ_ _=>rfl)];exact aL
 ·intro z aI;rcases gu.1 aI with rfl|aI
  ·exact⟨o,i_⟩
  ·obtain⟨jK,hJ⟩:=k.cy z (by rw[ah];exact gu.2 (.inr aI));exact⟨jK.aq u (ar _ (by omega)) (k.ab5 ah aI),hJ⟩
 ·have aj:=k.keys;rw[ah]at aj;have g':∀a b:cH,¬(a.file=b.file/\a.bq=b.bq)->¬(b.file=a.file/\b.bq=a.bq):=λa b al aC=>al ⟨aC.1.symm,aC.2.symm⟩
  have h1:=(k0 (R:=λa b:cH=>¬(a.file=b.file/\a.bq=b.bq)) g').1 aj;exact(k0 (R:=λa b:cH=>¬(a.file=b.file/\a.bq=b.bq)) g').2 ⟨λz aI=>h1.1 z aI,h1.2⟩
 ·have:=k.oK;rw[ah]at this;simpa using this
theorem jw.num(k:jw h X ρ ring hand)(ar:∀i,ρ i≠0->i<h.next)(aj:ρ X.k=8/\ρ X.m=9){j:Nat}(az:j=5\/j=6)(v:Int) :∃g,dU ai h 3 (.ptr X.k j) (.int .i64 v)=some g/\(jw g X ρ ring hand/\aF (λi=>i=X.k) h g/\g.next=h.next):=by
 obtain⟨rv,hits,fills,os,hL,ex,dL⟩:=k.str;obtain⟨g,e,o,u,n⟩:=kC (k:=j) (v:=.int .i64 v) os (by simp;omega) rfl rfl;have ne:∀i,ρ i≠8->i≠X.k:=λi U e=>U (e▸aj.1)
 refine⟨g,e,⟨?_,k.map.aq u (ar _ (by omega)) (ne _ (by omega)),λy an=> ?_,k.keys,k.oK,k.cL⟩,u,n⟩
 ·rcases az with rfl|rfl
  ·exact⟨rv,v,fills,o,hL.aq u (λb af=>ne b (by rw[dL b af];decide)),ex,dL⟩
  ·exact⟨rv,hits,v,o,hL.aq u (λb af=>ne b (by rw[dL b af];decide)),ex,dL⟩
 ·obtain⟨gG,fz⟩:=k.cy y an;exact⟨gG.aq u (ar _ (by omega)) (ne _ (by omega)),fz⟩
theorem jw.field(k:jw h X ρ ring hand) :(∃v,bE h X.k 5=some (.int .i64 v))/\(∃v,bE h X.k 6=some (.int .i64 v))/\bE h X.k 0=some (.ptr X.A.p 0)/\bE h X.k 1=some (.ptr X.F.f 0)/\bE h X.k 2=some (.map X.m)/\bE h X.k 4=some (.int .i64 hand):=by obtain⟨rv,hits,fills,os,hL,ex,dL⟩:=k.str;exact⟨⟨hits,os.rd 5⟩,⟨fills,os.rd 6⟩,os.rd 0,os.rd 1,os.rd 2,os.rd 4⟩
theorem WV(k:Core h X ρ σ){pre post:List cH}{y:cH}(ah:σ.ring=pre++y::post)(aB:y.fr<X.A.n)(aC:σ.held y.fr≠0)(af:σ.held y.fr<2^60) :
  bN (call ai PV (.func 246 [] []) [.ptr X.k 0,gr y.file y.bq] h) λv g=>v=.tuple [.int .i64 y.fr,.int .i64 0]/\Core g X ρ {σ with ring:=pre++{y with fresh:=true}::post,held:=aq σ.held y.fr (σ.held y.fr+1)}/\ct ρ h g:=by
 refine cF O7 rfl ?_;refine b1 (J0 (cs:=[.int .i64 y.file,.int .i64 y.bq]) rfl) λg1 bU dF aW=> ?_
 have bC:aX g1 (g1.aV 11):=aF.aV _ _ _;have a':=(k.ext aW).ext bC;have or:=bU.ext bC (by omega);have an:y∈σ.ring:=by rw[ah];simp
 obtain⟨_,_,_,_,s2,_⟩:=a'.dd.field;have vh:=a'.dd.keys
 have vk:∀z,z∈pre->¬(z.file=y.file/\z.bq=y.bq):=λz aI=>by rw[ah]at vh;exact(List.pairwise_append.1 vh).2.2 z aI y (by simp)
 have ar:=Pd (ah▸a'.dd.map) vk;unfold gr at ar;rw[cT]at s2;obtain⟨ub,i_⟩:=a'.dd.cy y an;simp only[A5,ak,a1,Bool.false_eq_true,if_false,b2,A1,Nat.zero_add,A4,cT,s2];rw[nu or (by simp)];simp only[ak,List.drop_zero,List.take_succ_cons,List.take_zero];rw[ar];simp only[ak,fM,List.getElem?_cons_zero,List.getElem?_cons_succ,dh,a1,if_true,b2,Sa,Nat.zero_add];refine cb (Sy (k:=3) (v:=.bool true) ub (by simp[cH.vs]) rfl rfl) λg2 ⟨cc,a_,dS⟩=> ?_
 have bW:=a'.dd.mark a'.lt a'.fF ah (b:=true) cc a_;have bR:=a'.cache bW a_ (λi U e=>by subst e;omega) (λ_ _=>rfl) (λi U=>by rw[dS];exact a'.lt i U);obtain⟨⟨ae,bb⟩,_⟩:=bR.dd.field;simp only[ajB,Nat.zero_add,ak,b6,bb,cP];refine cb (bR.dd.num bR.lt bR.fF (.inl rfl) _) λg3 ⟨dA,bw,eH⟩=> ?_
 have bY:=bR.cache dA bw (λi U e=>by subst e;have:=k.fF;omega) (λ_ _=>rfl) (λi U=>by rw[eH];exact bR.lt i U);have Be:aX g3 (g3.aV 15):=aF.aV _ _ _;have c8:=bY.ext Be;obtain⟨_,_,eR,_⟩:=c8.dd.field;have fz:=Obj.get (c8.dd.cy {y with fresh:=true} (gu.2 (.inl rfl))).1 (i:=2) rfl;simp only[cT]at fz eR;simp only[Ev,Nat.zero_add,b6,cT,fz,ak,yp,gK,eR];obtain⟨g5,e6,jt,bZ⟩:=NW c8.ps.p aB aC af;rw[e6];have d_:=c8.mJ jt (bZ.mono λi _ e=>.inr (.inl e));have Jb:=Obj.get (d_.dd.cy {y with fresh:=true} (gu.2 (.inl rfl))).1 (i:=2) rfl;have agL:bE g5 y.id 2=some (.int .i64 y.fr):=Jb;simp only[c1,dh];rw[wT agL,dh];refine aJ.pure ⟨rfl,d_,?_⟩;have bV:ct ρ h (g1.aV 11):=ct.ext (aW.trans bC);have dV:ct ρ (g1.aV 11) g2:=ct.of a_ λi _ e=>by subst e;omega
 have ny:ct ρ g2 g3:=ct.of bw λi _ e=>by subst e;have:=k.fF;omega
 have fI:ct ρ (g3.aV 15) g5:=ct.of bZ λi _ e=>by subst e;have:=k.eL;omega
 have same:∀{a:ag},∀i,i<a.next->ρ i=ρ i:=λ_ _=>rfl
 exact(((bV.trans dV (λ_ _=>rfl)).trans ny (λ_ _=>rfl)).trans (ct.ext Be) (λ_ _=>rfl) (a8:=ρ)).trans fI (λ_ _=>rfl)
theorem jw.more(k:jw h X ρ ring hand)(ar:∀i,ρ i≠0->i<h.next)(aj:ρ X.k=8/\ρ X.m=9){y:cH}(hW:a6.Obj h y.id y.vs)(an:ρ y.id=0/\y.id<h.next)(al:∀z,z∈ring->¬(z.file=y.file/\z.bq=y.bq))(aB:ring.length<4096)
  {g:ag} {rv:J} {hits fills:Int} (os:a6.Obj g X.k [.ptr X.A.p 0,.ptr X.F.f 0,.map X.m,rv,.int .i64 hand,.int .i64 hits,.int .i64 fills]) (hL:gk g 1 rv (((ring++[y]).map λy=>J.ptr y.id 0).map one)) (ex:ql rv=true)
  (tN:∀b,ch rv=some b->(ρ b=10\/h.next<=b)) (mp:k8 g X.m (ring++[y])) {S:Nat->Prop} (u:aF S h g) (cz:∀i,i<h.next->S i->ρ i≠11/\i≠y.id) :
  jw g X (λi=>if i=y.id then 11 else if ch rv=some i then 10 else ρ i) (ring++[y]) hand:=by
 refine⟨⟨rv,hits,fills,os,hL,ex,λb af=> ?_⟩,mp,λz aI=> ?_,?_,?_,k.cL⟩
 ·rw[if_neg,if_pos af];rintro rfl;rcases tN _ af with h1|h1
  ·omega
  ·omega
 ·rcases List.mem_append.1 aI with aI|aI
  ·obtain⟨jK,hJ⟩:=k.cy z aI;have gP:=ar z.id (by omega);refine⟨jK.aq u gP (λe=>(cz _ gP e).1 hJ),?_⟩;rw[if_neg (λe=>by rw[e]at hJ;omega),if_neg,hJ];intro af;rcases tN _ af with h1|h1<;>omega
  ·rw[List.mem_singleton]at aI;subst aI;exact⟨hW.aq u an.2 (λe=>(cz _ an.2 e).2 rfl),if_pos rfl⟩
 ·refine List.pairwise_append.2 ⟨k.keys,List.pairwise_singleton _ _,λa aU b af=> ?_⟩;rw[List.mem_singleton]at af;subst af;exact al a aU
 ·rw[List.length_append,List.length_singleton];omega
theorem WU(k:Core h X ρ σ){f p:Int}(al:∀y,y∈σ.ring->¬(y.file=f/\y.bq=p))(mj:σ.free=b' (λf=>σ.held f==0) X.A.n)(tG:0<σ.free->σ.ring.length<4096) :
  bN (call ai PV (.func 246 [] []) [.ptr X.k 0,gr f p] h) λv g=>ct ρ h g/\
   ((fileAt X.F.cx σ.sec f p=none/\v=.tuple [.int .i64 0,.int .i64 14]/\Core g X ρ σ)\/
    (fileAt X.F.cx σ.sec f p≠none/\σ.free=0/\v=.tuple [.int .i64 0,.int .i64 18]/\Core g X ρ σ)\/
    ∃m fr id a8,fileAt X.F.cx σ.sec f p=some m/\fr<X.A.n/\σ.held fr=0/\v=.tuple [.int .i64 (fr:Nat),.int .i64 0]/\(∀i,i<h.next->a8 i=ρ i)/\
     Core g X a8 {σ with mem:=aq σ.mem fr m,held:=aq σ.held fr 2,free:=σ.free-1,ring:=σ.ring++[⟨id,f,p,fr,false⟩]}):=by
 refine cF O7 rfl ?_;refine b1 (J0 (cs:=[.int .i64 f,.int .i64 p]) rfl) λg1 bU dF aW=> ?_
 have bC:aX g1 (g1.aV 11):=aF.aV _ _ _;have a':=(k.ext aW).ext bC;have or:=bU.ext bC (by omega);obtain⟨_,_,_,s1,s2,_⟩:=a'.dd.field;have ar:=aeO a'.dd.map al;unfold gr at ar;rw[cT]at s2 s1;have agp:=Obj.get bU (i:=0) rfl;have agq:=Obj.get bU (i:=1) rfl;simp only[A5,ak,a1,Bool.false_eq_true,if_false,b2,A1,Nat.zero_add,A4,cT,s2];rw[nu or (by simp)];simp only[ak,List.drop_zero,List.take_succ_cons,List.take_zero];rw[ar];simp only[ak,fM,List.getElem?_cons_zero,List.getElem?_cons_succ,dh,a1,Bool.false_eq_true,if_false,b2,ajA,Nat.zero_add,ajR,cT,s1,ajr,ajs,b6,agp,agq];have KF:aX (g1.aV 11) ((g1.aV 11).aV 14):=aF.aV _ _ _;have bR:=a'.ext KF;have agr:=or.ext KF (by have:(g1.aV 11).next=g1.next+11:=rfl;omega);have j6:((g1.aV 11).aV 14).next=h.next+26:=by show g1.next+11+14=_;omega
 have dV:ct ρ h ((g1.aV 11).aV 14):=ct.ext ((aW.trans bC).trans KF);cases GY:fileAt X.F.cx σ.sec f p with
 |none=>
  refine bS (agP (sec:=σ.sec) bR.gm GY) ?_;rintro _ g3 ⟨rfl,bw⟩;simp only[ak,fM,List.getElem?_cons_zero,List.getElem?_cons_succ,dc,a1];rw[if_pos (by decide)];exact aJ.pure ⟨dV.trans (ct.ext (ρ:=ρ) bw) (λ_ _=>rfl),.inl ⟨by simp,rfl,bR.ext bw⟩⟩
 |some m=>
  refine bS (YF bR.gm bR.ji GY) ?_;rintro _ g3 ⟨rfl,d3,bw⟩;have bY:Core g3 X ρ σ:=bR.w0 d3 (bw.mono λi _ e=>.inl e);have ny:ct ρ h g3:=dV.trans (ct.of (ρ:=ρ) bw λi _ e=>by subst e;have:=k.fa;omega) (λ_ _=>rfl);have aj:=k.fF;have tz:=k.eL;have Hc:=Yi GY
  have gJ:ρ h.next=0:=by
   rcases Nat.eq_zero_or_pos (ρ h.next)with e|e
   ·exact e
   ·have:=k.lt h.next (by omega);omega
  have ags:=ct.ca (ρ:=ρ) (ct.of bw λi _ e=>by subst e;have:=k.fa;omega) agr (by omega) gJ;obtain⟨_,_,eR,_⟩:=bY.dd.field;simp only[ak,fM,List.getElem?_cons_zero,List.getElem?_cons_succ,dc,a1];rw[if_neg (by decide)];simp only[b2,ak,yp,gK,eR];by_cases aI:σ.free=0
  ·have aD:=bY.ps.p;rw[aI]at aD;rw[ai4 aD];simp only[c1,ak,fM,List.getElem?_cons_zero,List.getElem?_cons_succ,dc,a1];rw[if_pos (by decide)];exact aJ.pure ⟨ny,.inr (.inl ⟨by simp,aI,rfl,bY⟩)⟩
  ·obtain⟨fr,f1,f2,g4,eh,vP,bA⟩:=En bY.ps.p mj (by omega);rw[eh];have c8:=bY.mJ vP (bA.mono λi _ e=>e);have iJ:ct ρ h g4:=ny.trans (ct.of (ρ:=ρ) bA λi _ e=>by have:=k.oi e;omega) (λ_ _=>rfl);have agt:=ct.ca (ρ:=ρ) (ct.of bA λi _ e=>by have:=k.oi e;omega) ags (by have:=bw.next;omega) gJ;obtain⟨_,_,Jy,_⟩:=c8.dd.field;simp only[c1,ak,fM,List.getElem?_cons_zero,List.getElem?_cons_succ,dc,a1];rw[if_neg (by decide)];simp only[b2,ak,yp,gK,Jy];obtain⟨g5,e6,Jb,bZ⟩:=MK c8.ps.p f1 (m:=m) (by simp[aq]) Hc;rw[e6];have d_:=c8.mJ Jb (bZ.mono λi _ e=>.inl e);have v5:ct ρ g4 g5:=ct.of bZ λi _ e=>by subst e;omega
   have fI:ct ρ h g5:=iJ.trans v5 (λ_ _=>rfl);have sA:=v5.ca agt (by have:=bw.next;have:=bA.next;omega) gJ;have tJ:h.next+26<=g5.next:=by have:=bw.next;have:=bA.next;have:=bZ.next;omega
   simp only[c1];rw[nu sA (by simp)];simp only[ak,List.drop_zero,List.take_succ_cons,List.take_zero];rw[show(J.agg [.int .i64 f,.int .i64 p])=gr f p from rfl,V9];simp only[ak];refine b1 (ajg (cs:=[.int .i64 f,.int .i64 p,.int .i64 (fr:Nat),.bool false]) rfl) λg6 di n6 b3=> ?_
   have nw:aX g6 (g6.aV 7):=aF.aV _ _ _;have eG:=(d_.ext b3).ext nw;obtain⟨_,_,_,_,D5,_⟩:=eG.dd.field;rw[cT]at D5;have I1:=(sA.ext b3 (by omega)).ext nw (by omega);simp only[A1,Nat.zero_add,ak,A4,cT,D5];rw[nu I1 (by simp)];simp only[ak,List.drop_zero,List.take_succ_cons,List.take_zero];let y:cH:=⟨g5.next,f,p,fr,false⟩;have agI:a6.Obj (g6.aV 7) g5.next y.vs:=di.ext nw (by omega);refine cb (akm (y:=y) eG.dd.map al) λg7 ⟨aeZ,dM,n7⟩=> ?_
   have xu:(g6.aV 7).next=g5.next+8:=by show g6.next+7=_;omega
   have amo:g7.next=g5.next+8:=by omega
   obtain⟨rv,hits,fills,os,hL,ex,dL⟩:=eG.dd.str;have ku:=k.lt X.k (by omega);have oc:=k.lt X.m (by omega);have Qn:=os.aq dM (by omega) (λe=>by rw[e]at aj;omega);have akM:=hL.aq dM (λb af e=>by have:=dL b af;rw[e]at this;omega);simp only[dh,b2,wa,Nat.zero_add,ak,wb,Obj.get Qn (i:=3) rfl];refine b1 (Wn _ _) λg8 hG n8 u8=> ?_
   have I4:=Qn.ext u8 (by omega)
   obtain⟨w,g9,y0,EX,X8,e2,⟨alx,Zr,Zs,Nh⟩,wF,ws⟩:=(akM.ext u8).push (T:=293) (si:=wo) (ie:=sZ) (by kernel_rfl) rfl (by kernel_rfl) rfl (by decide) ex (xcap:=1) (xex:=true) hG rfl rfl (by
    rw[List.length_map,List.length_map];have:=tG (by omega);show roomy (σ.ring.length+1) 8=true;unfold roomy;rw[Bool.and_eq_true,dr,dr]
    omega)
   rw[show sZ.size=1 from rfl]at y0;rw[y0]
   have AB:∀b,ch rv=some b->b≠X.k/\b≠X.m/\b≠h.next/\b<h.next/\b≠g5.next:=λb af=>by have:=dL b af;have:=k.lt b (by omega);refine⟨λe=> ?_,λe=> ?_,by omega,by omega,by omega⟩<;>(rw[e]at this;subst e;omega)
   have DM:=I4.aq e2 (by omega) (λe=>(AB _ e).1 rfl);have amk:=e2.next;simp only[c1,ak];refine cb (Sx (k:=3) (v:=w) DM (by simp) wF ws) λg10 ⟨mH,gV,n10⟩=> ?_
   simp only[List.set_cons_succ,List.set_cons_zero]at mH;have cp:=Obj.get mH (i:=6) rfl;simp only[ajC,Nat.zero_add,ak,b6,cp,cP];refine cb (kC (k:=6) (v:=.int .i64 (bF .i64 (fills+1))) mH (by simp) rfl rfl) λg11 ⟨qR,hq,n11⟩=> ?_
   simp only[List.set_cons_succ,List.set_cons_zero]at qR;let S:Nat->Prop:=λi=>i=X.m\/i=X.k\/ch rv=some i
   have yC:aF S (g6.aV 7) g11:=by
    have aQ:aF S (g6.aV 7) g7:=dM.mono λi _ e=>.inl e
    have a2:aF S g7 g8:=aF.ext u8;have a3:aF S g8 g9:=e2.mono λi _ e=>.inr (.inr e)
    have a4:aF S g9 g10:=gV.mono λi _ e=>.inr (.inl e)
    have a5:aF S g10 g11:=hq.mono λi _ e=>.inr (.inl e)
    exact(((aQ.trans a2).trans a3).trans a4).trans a5
   have oN:∀b,ch w=some b->(ρ b=10\/(g6.aV 7).next<=b)/\b<g9.next/\b≠X.k/\b≠X.m:=λb af=>by
    rw[Zr]at af;cases af;refine⟨?_,Zs,?_⟩
    ·rcases Nh with e|e
     ·exact .inl (dL _ e)
     ·exact .inr (by omega)
    ·rcases Nh with e|e
     ·exact⟨(AB _ e).1,(AB _ e).2.1⟩
     ·constructor<;>omega
   have KP:=(EX.aq gV (λb af e=>(oN b af).2.2.1 e)).aq hq (λb af e=>(oN b af).2.2.1 e)
   have Ih:k8 g11 X.m (σ.ring++[y]):=by
    have gh:=aeZ.aq u8 (by omega) (λe=>e);have gi:=gh.aq e2 (by omega) (λe=>(AB _ e).2.1 rfl);have mk:X.m≠X.k:=λe=>by rw[e]at aj;omega
    exact(gi.aq gV (by omega) mk).aq hq (by omega) mk
   have ahV:ρ g5.next=0:=by
    rcases Nat.eq_zero_or_pos (ρ g5.next)with e|e
    ·exact e
    ·have:=k.lt g5.next (by omega);omega
   have BQ:=eG.dd.more (g:=g11) (y:=y) eG.lt eG.fF agI ⟨ahV,by show g5.next<_;omega⟩ al (tG (by omega)) (rv:=w) (hits:=hits) (fills:=bF .i64 (fills+1)) qR (by
    rw[show((σ.ring++[y]).map λy=>J.ptr y.id 0).map one=((σ.ring.map λy=>J.ptr y.id 0).map one)++[[J.ptr g5.next 0]]by simp[one,y]]
    exact KP) X8 (λb af=>(oN b af).1) Ih yC (λi U e=>by
     rcases e with rfl|rfl|e
     ·exact⟨by omega,by show X.m≠g5.next;omega⟩
     ·exact⟨by omega,by show X.k≠g5.next;omega⟩
     ·exact⟨by rw[dL _ e];decide,(AB _ e).2.2.2.2⟩)
   have iz:∀i,i<h.next->(λi=>if i=y.id then 11 else if ch w=some i then 10 else ρ i) i=ρ i:=λi U=>by
    show(if i=g5.next then 11 else if ch w=some i then 10 else ρ i)=ρ i;rw[if_neg (by omega)];by_cases e:ch w=some i
    ·rw[if_pos e];rcases(oN i e).1 with cR|cR
     ·exact cR.symm
     ·omega
    ·rw[if_neg e]
   have CQ:∀i,i<g5.next->(λi=>if i=y.id then 11 else if ch w=some i then 10 else ρ i) i=ρ i:=λi U=>by
    show(if i=g5.next then 11 else if ch w=some i then 10 else ρ i)=ρ i;rw[if_neg (by omega)];by_cases e:ch w=some i
    ·rw[if_pos e];rcases(oN i e).1 with cR|cR
     ·exact cR.symm
     ·omega
    ·rw[if_neg e]
   have Uz:aF S g5 g11:=(aF.ext (b3.trans nw)).trans yC
   have De:=d_.cache BQ Uz (λi U e=>by
     rcases e with rfl|rfl|e
     ·omega
     ·omega
     ·rw[dL _ e];decide) CQ (λi U=>by
    have eo:(if i=g5.next then 11 else if ch w=some i then 10 else ρ i)≠0:=U;by_cases aw:i=g5.next
    ·omega
    ·rw[if_neg aw]at eo;by_cases aL:ch w=some i
     ·have:=(oN i aL).2.1;omega
     ·rw[if_neg aL]at eo
      have:=k.lt i eo;omega)
   simp only[yp,b2,ak,gK,Obj.get qR (i:=0) rfl];obtain⟨g12,XH,DN,il⟩:=NW De.ps.p f1 (by simp[aq]) (by simp[aq]);rw[XH];have OF:=De.mJ DN (il.mono λi _ e=>.inr (.inl e));simp only[c1]
   have v12:ct ρ g5 g11:=ct.of Uz λi U e=>by
    rcases e with rfl|rfl|e
    ·omega
    ·omega
    ·rw[dL _ e];decide
   have Hn:∀i,i<h.next->(λi=>if i=y.id then 11 else if ch w=some i then 10 else ρ i) i=ρ i:=iz;have akQ:ct ρ g11 g12:=ct.of il λi _ e=>by subst e;omega
   refine aJ.pure ⟨(fI.trans v12 (λ_ _=>rfl)).trans akQ (λ_ _=>rfl),.inr (.inr ⟨m,fr,g5.next,_,rfl,f1,f2,rfl,Hn,?_⟩)⟩;simp only[KE,e3]at OF;exact OF
end
end
section
variable{PV:cw} [db PV]
def ly(y:cH) :Nat×Int×Int×Nat:=(y.id,y.file,y.bq,y.fr)
section
variable{h g:ag}{X:dQ}{ρ a8:Nat->Nat}{σ:b0}{ring:List cH}{hand:Nat}
theorem Core.Gy(k:Core h X ρ σ){i:Nat}(U:h.next<=i) :ρ i=0:=by
 rcases Nat.eq_zero_or_pos (ρ i)with e|e
 ·exact e
 ·have:=k.lt i (by omega);omega
theorem X2(k:Core h X ρ σ){eY:Nat}(bP:a6.Obj h eY [.ptr X.k 0]){pre post:List cH}{y:cH}(ah:σ.ring=pre++y::post)(aB:y.fr<X.A.n) :
  bN (call ai PV (.func 316 [] [.ptr eY 0]) [.ptr y.id 0] h) λv g=>∃b fr,v=.bool b/\(b=true->σ.held y.fr<=1)/\Core g X ρ {σ with ring:=pre++{y with fresh:=fr}::post}/\ct ρ h g:=by
 refine cF aec rfl ?_;have bC:aX h (h.aV 10):=aF.aV _ _ _;have a':=k.ext bC;have an:y∈σ.ring:=by rw[ah];simp
 obtain⟨ub,i_⟩:=a'.dd.cy y an;obtain⟨_,_,eR,_⟩:=a'.dd.field;have fz:=Obj.get ub (i:=2) rfl;have Ar:=Obj.get ub (i:=3) rfl;rw[cT]at eR fz;have same:({σ with ring:=pre++{y with fresh:=y.fresh}::post} :b0)=σ:=by rw[<-ah]
 simp only[ou,cT,Obj.get bP (i:=0) rfl,ak,b2,yp,gK,eR,Ev,Nat.zero_add,b6,fz,Cw a'.ps.p aB,c1,hO,dh,a1];by_cases c:(1:Int) <(σ.held y.fr:Int)
 ·rw[if_pos (by simpa using c)];exact aJ.pure ⟨false,y.fresh,rfl,by simp,by rw[same];exact a',ct.ext bC⟩
 ·rw[if_neg (by simpa using c)];simp only[b2,ak,Sa,Nat.zero_add,kB,Ar];refine cb (Sy (k:=3) (v:=.bool false) ub (by simp[cH.vs]) rfl rfl) λg2 ⟨cc,a_,dS⟩=> ?_
  have bW:=a'.dd.mark a'.lt a'.fF ah (b:=false) cc a_;have bR:=a'.cache bW a_ (λi U e=>by subst e;omega) (λ_ _=>rfl) (λi U=>by rw[dS];exact a'.lt i U);simp only[fA,ak];exact aJ.pure ⟨_,false,rfl,λ_=>by omega,bR,(ct.ext bC).trans (ct.of (ρ:=ρ) a_ λi _ e=>by subst e;omega) (λ_ _=>rfl)⟩
theorem jw.less(k:jw h X ρ ring hand)(ar:∀i,ρ i≠0->i<h.next){pre post:List cH}{y:cH}(ah:ring=pre++y::post){g:ag}{rv:J}{hits fills:Int}{qt:Nat}
  (os:a6.Obj g X.k [.ptr X.A.p 0,.ptr X.F.f 0,.map X.m,rv,.int .i64 qt,.int .i64 hits,.int .i64 fills]) (hL:gk g 1 rv (((pre++post).map λy=>J.ptr y.id 0).map one)) (ex:ql rv=true)
  (tN:∀b,ch rv=some b->ρ b=10) (mp:k8 g X.m (pre++post)) {S:Nat->Prop} (u:aF S h g) (cz:∀i,i<h.next->S i->ρ i≠11) (aC:qt<=4096) :jw g X ρ (pre++post) qt:=by
 refine⟨⟨rv,hits,fills,os,hL,ex,tN⟩,mp,λz aI=> ?_,?_,?_,aC⟩
 ·obtain⟨jK,hJ⟩:=k.cy z (by rw[ah];exact gu.2 (.inr aI));have gP:=ar z.id (by omega);exact⟨jK.aq u gP (λe=>cz _ gP e hJ),hJ⟩
 ·have aj:=k.keys;rw[ah]at aj;exact((k0 (R:=λa b:cH=>¬(a.file=b.file/\a.bq=b.bq)) (λa b al aC=>al ⟨aC.1.symm,aC.2.symm⟩)).1 aj).2
 ·have:=k.oK;rw[ah]at this;simp at this|-;omega
theorem OY{a b:List cH}(h:a.map ly=b.map ly) :a.length=b.length:=by have:=congrArg List.length h;simpa using this
theorem ald:dW ai 182 []=some (.agg [.int .i64 0,.int .i64 0]):=by kernel_rfl
theorem X3(k:Core h X ρ σ)(zN:∀y,y∈σ.ring->y.fr<X.A.n/\σ.held y.fr≠0)(qB:σ.free<2^60) :
  bN (call ai PV (.func 236 [] []) [.ptr X.k 0] h) λv g=>ct ρ h g/\∃eQ,eQ.map ly=σ.ring.map ly/\
   ((v=.tuple [.agg [.int .i64 0,.int .i64 0],.bool false]/\Core g X ρ {σ with ring:=eQ})\/
    ∃pre y post qt,eQ=pre++y::post/\σ.held y.fr=1/\v=.tuple [gr y.file y.bq,.bool true]/\Core g X ρ {σ with ring:=pre++post,hand:=qt,held:=aq σ.held y.fr 0,free:=σ.free+1}):=by
 refine cF adK rfl ?_;refine b1 (ai_ (cs:=[.ptr X.k 0]) rfl) λg1 bU dF aW=> ?_
 refine b1 AW λg2 cc dS a_=> ?_
 have eA:=bU.ext a_ (by omega);have bR:=k.ext (aW.trans a_);obtain⟨rv,hits,fills,os,hL,ex,dL⟩:=bR.dd.str;have ar:=hL.len (T:=293) (si:=wo) (by kernel_rfl) rfl;rw[List.length_map,List.length_map]at ar;have tG:=bR.dd.oK;have al2:=bR.dd.cL;have aw:bF .i64 (2*(σ.ring.length:Int))=((2*σ.ring.length:Nat) :Int):=by rw[wrap_i64 (by omega) (by omega)];omega
 have vU:ρ h.next=0:=k.Gy (Nat.le_refl _);have sE:ρ g1.next=0:=k.Gy (by omega);simp only[ou,Obj.get eA (i:=0) rfl,ak,A5,a1,Bool.false_eq_true,if_false,b2,wa,Nat.zero_add,wb,Obj.get os (i:=3) rfl,ar,k',aw]
 refine gW (n:=14) (I:=λi vs g=>vs=[.int .i64 (-1),.int .i64 (i:Nat)]/\∃eQ,eQ.map ly=σ.ring.map ly/\Core g X ρ {σ with ring:=eQ}/\ct ρ g2 g) (m:=2*σ.ring.length)
  (P:=λx vs g=>x=.exit 0/\∃eQ,eQ.map ly=σ.ring.map ly/\Core g X ρ {σ with ring:=eQ}/\ct ρ g2 g/\
    ((∃c,vs=[.int .i64 (-1),c])\/∃pre y post c,vs=[.int .i64 (pre.length:Nat),c]/\eQ=pre++y::post/\σ.held y.fr<=1)) (Nat.lt_of_le_of_lt (show 2*σ.ring.length<=8192 by omega) (by decide)) ⟨rfl,σ.ring,rfl,bR,ct.ext (aF.refl _ _)⟩ ?_ ?_
 ·rintro i _ aO U ⟨rfl,eQ,av,c8,bA⟩;have hlen:=OY av;simp only[bn,bd,cQ,ak,a1];by_cases c:(i:Int) <((2*σ.ring.length:Nat) :Int)
  ·rw[if_pos (by simpa using c)];have lY:0<σ.ring.length:=by omega
   have gR:=bA.ca eA (by omega) vU;obtain⟨_,_,_,_,_,lC⟩:=c8.dd.field;obtain⟨uq,al6,alL,I3,akJ,fC,QM⟩:=c8.dd.str;have aL:bF .i64 ((σ.hand:Int) +(i:Int))=((σ.hand+i:Nat) :Int):=by rw[wrap_i64 (by omega) (by omega)];omega
   have bo:((σ.hand+i:Nat) :Int).tmod (σ.ring.length:Int)=(((σ.hand+i) %σ.ring.length:Nat) :Int):=rfl;have bK:(σ.hand+i) %σ.ring.length<eQ.length:=by rw[hlen];exact Nat.mod_lt _ lY
   generalize xq:(σ.hand+i) %σ.ring.length=fx at bK bo;obtain⟨pre,y,post,dO,mw⟩ :∃pre y post,eQ=pre++y::post/\pre.length=fx:=⟨eQ.take fx,eQ[fx],eQ.drop (fx+1),by rw[<-List.drop_eq_getElem_cons bK,List.take_append_drop],by rw[List.length_take];omega⟩
   have jE:((eQ.map (λy=>J.ptr y.id 0)).map one)[fx]? =some [J.ptr y.id 0]:=by rw[dO,<-mw];simp[one]
   obtain⟨b,cap,Ca,l,ae,af,ol,m7,_,_,h_⟩:=akJ.at jE;rw[List.length_map,List.length_map]at ae m7;have hk:=h_ 0 (by decide);rw[Nat.mul_one,Nat.add_zero]at hk;have D6:bE aO X.k 4=some (.int .i64 (σ.hand:Nat)):=lC;simp only[ou,Obj.get gR (i:=0) rfl,ak,b2,J6,Nat.zero_add,b6,D6,cP,aL,ti .i64 (show(σ.ring.length:Int)≠0 by omega),bo,wa,wb,Obj.get I3 (i:=3) rfl,ae,Kb m7,Kd,hk,List.getElem?_cons_zero]
   have CC:y.fr<X.A.n:=by
    have:ly y∈σ.ring.map ly:=by rw[<-av,dO];simp
    obtain⟨z,aI,HC⟩:=List.mem_map.1 this;have HB:z.fr=y.fr:=by have:=congrArg (λq=>q.2.2.2) HC;exact this
    rw[<-HB];exact(zN z aI).1
   refine bS (X2 c8 gR dO CC) ?_;rintro _ g6 ⟨ea,qo,rfl,jk,eG,b3⟩;have M_:(pre++{y with fresh:=qo}::post).map ly=σ.ring.map ly:=by rw[<-av,dO];simp[ly]
   simp only[a1];cases ea with
   |true=>
    rw[if_pos rfl];exact aJ.pure (.inr ⟨by simp,rfl,_,M_,eG,bA.trans b3 (λ_ _=>rfl),.inr ⟨pre,_,post,_,by rw[mw],rfl,jk rfl⟩⟩)
   |false=>
    rw[if_neg (by decide)];have eh:bF .i64 ((i:Int) +1)=((i+1:Nat) :Int):=by rw[wrap_i64 (by omega) (by omega)];omega
    simp only[cP,eh,ak];exact aJ.pure (.inl ⟨rfl,by omega,rfl,_,M_,eG,bA.trans b3 (λ_ _=>rfl)⟩)
  ·rw[if_neg (by simpa using c)];exact aJ.pure (.inr ⟨by simp,rfl,eQ,av,c8,bA,.inl ⟨_,rfl⟩⟩)
 ·rintro _ vs bb ⟨rfl,eQ,av,d_,bZ,u_⟩;have dV:ct ρ h g2:=ct.ext (aW.trans a_);have fI:=dV.trans bZ (λ_ _=>rfl);have jr:=bZ.ca eA (by omega) vU;have ss:=bZ.ca cc (by omega) sE;have n5:=bZ.next;rcases u_ with⟨c,rfl⟩ |⟨pre,y,post,c,rfl,dO,hle⟩
  ·simp only[bn,bd,fZ,if_true,cQ,ak,a1];rw[if_pos (by decide),ald,ak];refine cb (yu (k:=0) (cs:=[.int .i64 0,.int .i64 0]) ss rfl (by simp) rfl) λg6 ⟨di,b3,n6⟩=> ?_
   have di:=dC di rfl;rw[nu di (by simp)];have Bc:ct ρ h g6:=aF.local fI b3 (λi U e=>by omega);have eG:Core g6 X ρ {σ with ring:=eQ}:=d_.ca b3 (λi e U=>.inl (by subst e;exact sE)) (λ_ _=>rfl) (λi U=>by rw[n6];exact d_.lt i U);exact aJ.pure ⟨Bc,eQ,av,.inl ⟨rfl,eG⟩⟩
  ·have hlen:=OY av;have jm:pre.length+post.length+1=σ.ring.length:=by rw[<-hlen,dO];simp;omega
   have CC:y.fr<X.A.n/\σ.held y.fr≠0:=by
    have:ly y∈σ.ring.map ly:=by rw[<-av,dO];simp
    obtain⟨z,aI,HC⟩:=List.mem_map.1 this;have HB:z.fr=y.fr:=by have:=congrArg (λq=>q.2.2.2) HC;exact this
    rw[<-HB];exact zN z aI
   have h1:σ.held y.fr=1:=by omega
   have aj:=k.fF;have tz:=k.eL;obtain⟨ah3,al7,alM,agw,KQ,Gg,amV⟩:=d_.dd.str;have NJ:(eQ.map λy=>J.ptr y.id 0)=pre.map (λy=>J.ptr y.id 0)++J.ptr y.id 0::post.map (λy=>J.ptr y.id 0):=by rw[dO];simp
   have jE:((eQ.map (λy=>J.ptr y.id 0)).map one)[pre.length]? =some [J.ptr y.id 0]:=by rw[dO];simp[one]
   obtain⟨b,cap,Ca,l,ae,af,ol,m7,_,_,h_⟩:=KQ.at jE;rw[List.length_map,List.length_map]at ae m7;have hk:=h_ 0 (by decide);rw[Nat.mul_one,Nat.add_zero]at hk;have dI:¬((pre.length:Nat) :Int) <0:=by omega
   simp only[bn,bd,fZ,if_true,cQ,decide_eq_false dI,ak,a1,Bool.false_eq_true,if_false,ou,Obj.get jr (i:=0) rfl,b2,wa,Nat.zero_add,wb,Obj.get agw (i:=3) rfl];have xq:eV ai 293 ah3 (.int .i64 (pre.length:Nat))=some (.ptr b (0+pre.length)):=by rw[ae];exact Kb m7
   rw[xq];have s6:aX bb (bb.aV 9):=aF.aV _ _ _;have Ac:=d_.ext s6;obtain⟨ub,i_⟩:=d_.dd.cy y (by rw[dO];simp);have abX:=d_.lt y.id (by omega);have aha:=Obj.get ub (i:=2) rfl;obtain⟨_,_,eR,_⟩:=d_.dd.field;have Jy:bE bb X.k 0=some (.ptr X.A.p 0):=eR;simp only[ak,Nat.zero_add,Kd,hk,List.getElem?_cons_zero,ou,cT,Obj.get jr (i:=0) rfl,b2,yp,gK,Jy,Ev,b6,aha];obtain⟨dR,nL,Jc,u8⟩:=B4 Ac.ps.p CC.1 CC.2 (by show σ.held y.fr<_;omega) qB;rw[nL];have xL:=Ac.mJ Jc (u8.mono λi _ e=>.inr e);have n8:=u8.next;have ami:(bb.aV 9).next=bb.next+9:=rfl
   have pk:ct ρ (bb.aV 9) dR:=ct.of u8 λi _ e=>by rcases e with rfl|rfl<;>omega
   have kF:=(fI.trans (ct.ext (ρ:=ρ) s6) (λ_ _=>rfl)).trans pk (λ_ _=>rfl);have DD:=pk.ca (jr.ext s6 (by omega)) (by omega) vU;have IJ:=pk.ca (ss.ext s6 (by omega)) (by omega) sE;have ahb:=(ub.ext s6 abX).aq u8 (by omega) (λe=>by rcases e with e|e<;>(rw[e]at i_;omega));have nx:aX dR (dR.aV 9):=aF.aV _ _ _;have aaK:(dR.aV 9).next=dR.next+9:=rfl
   have vB:=xL.ext nx;obtain⟨_,_,_,_,s2,_⟩:=xL.dd.field;have D5:bE dR X.k 2=some (.map X.m):=s2;have QH:=ahb.ext nx (by omega);simp only[c1,dh,ou,cT,Obj.get DD (i:=0) rfl,ak,b2,A1,Nat.zero_add,A4,D5,J7];rw[nu QH (by simp[cH.vs])];simp only[ak,cH.vs,List.drop_zero,List.take_succ_cons,List.take_zero];have vh:=vB.dd.keys
   have vk:∀z,z∈pre->¬(z.file=y.file/\z.bq=y.bq):=λz aI=>by
    have ND:eQ.Pairwise λa b=>¬(a.file=b.file/\a.bq=b.bq):=vh
    rw[dO]at ND;exact(List.pairwise_append.1 ND).2.2 z aI y (by simp)
   have afg:k8 (dR.aV 9) X.m (pre++y::post):=by rw[<-dO];exact vB.dd.map
   refine cb (Xz afg vk) λg9 ⟨ae0,e2,n9⟩=> ?_
   have ku:=k.lt X.k (by omega);have oc:=k.lt X.m (by omega);have mk:X.m≠X.k:=λe=>by rw[e]at aj;omega
   have re:ct ρ h g9:=(kF.trans (ct.ext (ρ:=ρ) nx) (λ_ _=>rfl)).trans (ct.of (ρ:=ρ) e2 λi _ e=>by subst e;omega) (λ_ _=>rfl);have v9:ct ρ (dR.aV 9) g9:=ct.of e2 λi _ e=>by subst e;omega
   have DE:=v9.ca (DD.ext nx (by omega)) (by omega) vU;have afS:=v9.ca (IJ.ext nx (by omega)) (by omega) sE;have ahc:=QH.aq e2 (by omega) (λe=>by rw[e]at i_;omega);obtain⟨Rc,aan,Yk,I4,akN,X7,uf⟩:=vB.dd.str;have DM:=I4.aq e2 (by omega) (λe=>mk e.symm);have EX:=akN.aq e2 (λb af e=>by have:=uf b af;rw[e]at this;omega);have uB:aX g9 (g9.aV 12):=aF.aV _ _ _;have aml:(g9.aV 12).next=g9.next+12:=rfl
   have e6:bF .i64 ((pre.length:Int) +1)=((pre.length+1:Nat) :Int):=by rw[wrap_i64 (by omega) (by omega)];omega
   simp only[dh,ou,cT,Obj.get DE (i:=0) rfl,ak,b2,wa,Nat.zero_add,wb,Obj.get DM (i:=3) rfl,cP,e6];have amb:(({σ with mem:=σ.mem,held:=aq σ.held y.fr (σ.held y.fr-1),free:=if σ.held y.fr=1 then σ.free+1 else σ.free,ring:=eQ} :b0).ring.map λy=>J.ptr y.id 0)=pre.map (λy=>J.ptr y.id 0)++J.ptr y.id 0::post.map (λy=>J.ptr y.id 0):=NJ;rw[show(List.map (λy=>J.ptr y.id 0) eQ)=pre.map (λy=>J.ptr y.id 0)++J.ptr y.id 0::post.map (λy=>J.ptr y.id 0)from NJ]at EX;have No:=Xv (EX.ext uB) X7 (λz aI=>by obtain⟨q,_,rfl⟩:=List.mem_map.1 aI;rfl) (by simp;omega);rw[List.length_map]at No;refine bS No ?_;rintro pn g10 ⟨akK,X5,gV,Cs,wF,ws⟩;have aho:∀b,ch pn=some b->ρ b=10:=λb af=>uf b (by rw[<-Cs];exact af)
   have Al:∀i,ch Rc=some i->i≠X.k/\i≠X.m:=λi U=>⟨λe=>by have:=uf i U;rw[e]at this;omega,λe=>by have:=uf i U;rw[e]at this;omega⟩
   have v10:ct ρ (g9.aV 12) g10:=ct.of gV λi _ e=>by rw[uf i e];decide
   have akP:=(re.trans (ct.ext (ρ:=ρ) uB) (λ_ _=>rfl)).trans v10 (λ_ _=>rfl);have amf:=gV.next;have agv:=(DM.ext uB (by omega)).aq gV (by omega) (λe=>(Al _ e).1 rfl);have PO:=v10.ca (DE.ext uB (by omega)) (by omega) vU;have afO:=v10.ca (afS.ext uB (by omega)) (by omega) sE;have ag8:=(ahc.ext uB (by omega)).aq gV (by omega) (λe=>by have:=uf _ e;omega);have aeW:=(ae0.aq uB (by omega) (λe=>e)).aq gV (by omega) (λe=>(Al _ e).2 rfl);refine cb (Sx (k:=3) (v:=pn) agv (by simp) wF ws) λg11 ⟨qR,hq,n11⟩=> ?_
   simp only[List.set_cons_succ,List.set_cons_zero]at qR;have v11:ct ρ g10 g11:=ct.of hq λi _ e=>by subst e;omega
   have PQ:=v11.ca PO (by omega) vU;have afP:=v11.ca afO (by omega) sE;have ag9:=ag8.aq hq (by omega) (λe=>by rw[e]at i_;omega);have Ih:=aeW.aq hq (by omega) mk;have KP:=akK.aq hq (λb af e=>(Al b (by rw[<-Cs];exact af)).1 e);rw[wT (Obj.get PO (i:=0) rfl),dh];simp only[ou,Obj.get PQ (i:=0) rfl,ak,b2,J6,Nat.zero_add];refine cb (kC (k:=4) (v:=.int .i64 (pre.length:Nat)) qR (by simp) rfl rfl) λg12 ⟨DC,il,n12⟩=> ?_
   simp only[List.set_cons_succ,List.set_cons_zero]at DC;have v12:ct ρ g11 g12:=ct.of il λi _ e=>by subst e;omega
   have afK:=v12.ca PQ (by omega) vU;have afQ:=v12.ca afP (by omega) sE;have ag_:=ag9.aq il (by omega) (λe=>by rw[e]at i_;omega);have aeX:=Ih.aq il (by omega) mk;have UN:=KP.aq il (λb af e=>(Al b (by rw[<-Cs];exact af)).1 e);have aat:=UN.len (T:=293) (si:=wo) (by kernel_rfl) rfl;simp only[ou,Obj.get afK (i:=0) rfl,ak,b2,wa,J6,Nat.zero_add,wb,Obj.get DC (i:=3) rfl,aat,c2,a1];refine fV (P:=λx vs g=>x=.normal/\vs=[]/\∃ao:Nat,ao<=4096/\a6.Obj g X.k [.ptr X.A.p 0,.ptr X.F.f 0,.map X.m,pn,.int .i64 ao,.int .i64 aan,.int .i64 Yk]/\aF (λi=>i=X.k) g12 g/\g.next=g12.next) ?_ ?_
   ·by_cases c:((pre.length:Nat) :Int)=(((pre.map (λy=>J.ptr y.id 0)++post.map (λy=>J.ptr y.id 0)).map one).length:Nat)
    ·rw[if_pos (by simpa using c)];refine cb (kC (k:=4) (v:=.int .i64 0) DC (by simp) rfl rfl) λg13 ⟨hl,kb,n13⟩=> ?_
     exact aJ.pure ⟨rfl,rfl,0,by decide,hl,kb,n13⟩
    ·rw[if_neg (by simpa using c)];exact aJ.pure ⟨rfl,rfl,pre.length,by omega,DC,aF.refl _ _,rfl⟩
   ·rintro _ _ g14 ⟨rfl,rfl,ao,aag,gR,hK,n14⟩;have UI:ct ρ g12 g14:=ct.of hK λi _ e=>by subst e;omega
    have afR:=UI.ca afQ (by omega) sE;have ag':=ag_.aq hK (by omega) (λe=>by rw[e]at i_;omega);have aeY:=aeX.aq hK (by omega) mk;have akL:=UN.aq hK (λb af e=>(Al b (by rw[<-Cs];exact af)).1 e);simp only[bd,hf,b2,ak,J7];rw[nu ag' (by simp[cH.vs])];simp only[ak,List.drop_zero,List.take_succ_cons,List.take_zero];refine cb (yu (k:=0) (cs:=[.int .i64 y.file,.int .i64 y.bq]) afR rfl (by simp) rfl) λg15 ⟨IH,wq,n15⟩=> ?_
    have IH:=dC IH rfl;rw[nu IH (by simp)];have KR:=((akP.trans v11 (λ_ _=>rfl)).trans v12 (λ_ _=>rfl)).trans UI (λ_ _=>rfl);have akR:ct ρ h g15:=aF.local KR wq (λi U e=>by omega);let S:Nat->Prop:=λi=>i=X.m\/i=X.k\/ch Rc=some i
    have yC:aF S (dR.aV 9) g14:=by
     have aQ:aF S (dR.aV 9) g9:=e2.mono λi _ e=>.inl e
     have a2:aF S g9 (g9.aV 12):=aF.ext uB;have a3:aF S (g9.aV 12) g10:=gV.mono λi _ e=>.inr (.inr e)
     have a4:aF S g10 g11:=hq.mono λi _ e=>.inr (.inl e)
     have a5:aF S g11 g12:=il.mono λi _ e=>.inr (.inl e)
     have hY:aF S g12 g14:=hK.mono λi _ e=>.inr (.inl e)
     exact((((aQ.trans a2).trans a3).trans a4).trans a5).trans hY
    have FG:=vB.dd.less (g:=g14) vB.lt dO gR (by rw[List.map_append];exact akL) X5 aho aeY yC (λi U e=>by
     rcases e with rfl|rfl|e
     ·omega
     ·omega
     ·rw[uf _ e];decide) aag
    have Df:=vB.cache FG yC (λi U e=>by
     rcases e with rfl|rfl|e
     ·omega
     ·omega
     ·rw[uf _ e];decide) (λ_ _=>rfl) (λi U=>Nat.lt_of_lt_of_le (vB.lt i U) yC.next)
    have OH:=Df.ca wq (λi e U=>.inl (by subst e;exact sE)) (λ_ _=>rfl) (λi U=>by rw[n15];exact Df.lt i U);simp only[h1,if_true,Nat.sub_self]at OH;exact aJ.pure ⟨akR,eQ,av,.inr ⟨pre,y,post,ao,dO,h1,rfl,OH⟩⟩
end
end
section
variable{PV:cw} [db PV]
theorem hg:(∀a l,j2 (.tuple (a::l)) 0=some a)/\(∀a b l,j2 (.tuple (a::b::l)) 1=some b)/\∀a b c l,j2 (.tuple (a::b::c::l)) 2=some c:=⟨λ_ _=>rfl,λ_ _ _=>rfl,λ_ _ _ _=>rfl⟩
structure pr(h:ag)(X:dQ)(ρ:Nat->Nat)(x:bD) :Prop where
 str:∃e0,a6.Obj h x.s [.ptr X.M 0,.ptr x.t 0,e0]/\jd h e0 x.L/\∀b,ch e0=some b->ρ b=17
 lD:fP h X.A x.t (nodeAt x.T 0 0) x.T.dX
 role:ρ x.s=15/\ρ x.t=16
structure Sys(h:ag)(X:dQ)(ρ:Nat->Nat)(σ:b0) :Prop where
 core:Core h X ρ σ
 mem:∃ec,a6.Obj h X.M [.ptr X.A.p 0,.ptr X.F.f 0,.ptr X.k 0,.ptr X.R.a 0,ec]/\gk h 1 ec ((σ.ax.map λx=>J.ptr x.s 0).map one)/\ql ec=true/\∀b,ch ec=some b->ρ b=14
 np:ρ X.M=13
 ax:∀x,x∈σ.ax->pr h X ρ x
 pY:σ.ax.Pairwise λx y=>x.s≠y.s/\x.t≠y.t
def bG(ρ:Nat->Nat)(h g:ag) :Prop:=aF (λi=>ρ i≠0) h g
section
variable{h g:ag}{X:dQ}{ρ a8:Nat->Nat}{σ aG:b0}
theorem bG.ext(u:aX h g) :bG ρ h g:=aF.ext u
theorem bG.of{S:Nat->Prop}(u:aF S h g)(au:∀i,i<h.next->S i->ρ i≠0) :bG ρ h g:=u.mono au
theorem bG.own(u:ct ρ h g) :bG ρ h g:=u.mono λ_ _ e=>e.1
theorem bG.trans{a b c:ag}(x:bG ρ a b)(y:bG a8 b c)(ah:∀i,i<a.next->a8 i=ρ i) :bG ρ a c:=
 aF.local x y λi U e=>by rw[<-ah i U];exact e
theorem bG.ca{id:Nat}{l:List J}(u:bG ρ h g)(o:a6.Obj h id l)(U:id<h.next)(ah:ρ id=0) :a6.Obj g id l:=o.aq u U (λe=>e ah)
theorem pr.ca{x:bD}(k:pr h X ρ x){S:Nat->Prop}(u:aF S h g)(au:∀i,S i->i<h.next->ρ i<15\/17<ρ i)(ah:∀i,i<h.next->a8 i=ρ i)(ar:∀i,ρ i≠0->i<h.next) :pr g X a8 x:=by
 have no:∀i,15<=ρ i->ρ i<=17->i<h.next/\¬S i:=λi h1 aa=>by have jl:=ar i (by omega);exact⟨jl,λe=>by have:=au i e jl;omega⟩
 obtain⟨e0,o,r,dL⟩:=k.str;have ij:=k.role;have a':=no x.s (by omega) (by omega);have bR:=no x.t (by omega) (by omega);have af:∀b,ch e0=some b->b<h.next/\¬S b:=λb af=>no b (by rw[dL b af];decide) (by rw[dL b af];decide)
 refine⟨⟨e0,o.aq u a'.1 a'.2,r.aq u (λb cap ex e=>(af b (by rw[e];rfl)).2),λb e=>by rw[ah b (af b e).1];exact dL b e⟩,Obj.aq k.lD u bR.1 bR.2,by rw[ah _ a'.1,ah _ bR.1];exact ij⟩
theorem Sys.part(k:Sys h X ρ σ)(c:Core g X a8 aG)(dO:aG.ax=σ.ax){S:Nat->Prop}(u:aF S h g)(au:∀i,S i->i<h.next->ρ i<=12)(ah:∀i,i<h.next->a8 i=ρ i) :Sys g X a8 aG:=by
 have ar:=k.core.lt
 have no:∀i,13<=ρ i->i<h.next/\¬S i:=λi h1=>by have jl:=ar i (by omega);exact⟨jl,λe=>by have:=au i e jl;omega⟩
 obtain⟨ec,o,v,ex,dL⟩:=k.mem;have np:=k.np;have a':=no X.M (by omega);refine⟨c,⟨ec,o.aq u a'.1 a'.2,by rw[dO];exact v.aq u (λb af=>(no b (by rw[dL b af];decide)).2),ex,λb af=>by rw[ah b (no b (by rw[dL b af];decide)).1];exact dL b af⟩,by rw[ah _ a'.1];exact np,λx ab=> ?_,by rw[dO];exact k.pY⟩;rw[dO]at ab;exact(k.ax x ab).ca u (λi U ar=>.inl (by have:=au i U ar;omega)) ah ar
theorem Sys.own(k:Sys h X ρ σ)(c:Core g X a8 aG)(dO:aG.ax=σ.ax)(u:ct ρ h g)(ah:∀i,i<h.next->a8 i=ρ i) :Sys g X a8 aG:=k.part c dO u (λi e _=>e.2) ah
theorem Sys.ca(k:Sys h X ρ σ){S:Nat->Prop}(u:aF S h g)(au:∀i,S i->i<h.next->ρ i=0) :Sys g X ρ σ:=
 k.part (k.core.ca u (λi U ar=>.inl (au i U ar)) (λ_ _=>rfl) (λi U=>Nat.lt_of_lt_of_le (k.core.lt i U) u.next)) rfl u (λi U ar=>by rw[au i U ar];decide) (λ_ _=>rfl)
theorem Sys.ext(k:Sys h X ρ σ)(u:aX h g) :Sys g X ρ σ:=k.ca u (λ_ e _=>e.elim)
theorem Sys.field(k:Sys h X ρ σ) :bE h X.M 0=some (.ptr X.A.p 0)/\bE h X.M 1=some (.ptr X.F.f 0)/\bE h X.M 2=some (.ptr X.k 0)/\bE h X.M 3=some (.ptr X.R.a 0):=by obtain⟨ec,o,_⟩:=k.mem;exact⟨o.rd 0,o.rd 1,o.rd 2,o.rd 3⟩
theorem pr.field{x:bD}(k:pr h X ρ x) :bE h x.s 0=some (.ptr X.M 0)/\bE h x.s 1=some (.ptr x.t 0):=by obtain⟨e0,o,_⟩:=k.str;exact⟨o.rd 0,o.rd 1⟩
theorem JC{x:bD}(k:pr h X ρ x) :call ai PV (.func 83 [] []) [.ptr x.s 0] h=some (.int .i64 0,h):=by refine aex (x:=.ret) (vs:=[.int .i64 0]) (first:=[]) (cap:=[]) ?_ rfl;simp only[aj0,ak,a1,Bool.false_eq_true,if_false,b2,q1,lH,k.field.1,Kh]
end
structure wO(X:dQ)(c:cN) :Prop where
 n:X.A.n=c.n
 first:X.R.first=c.first
 cG:X.R.cG=c.cG
 dH:X.dH<=c.first
 loc:∀n,n∈X.F.cx->∀p s,p<(n.size+63) /64->loc n.ext p=some s->s<c.first
 xa:∀f p,c.hy f p=fileAt X.F.cx X.D7 f p
structure Good(h:ag)(X:dQ)(c:cN)(ρ:Nat->Nat)(σ:b0)(d e:Nat->Int) :Prop where
 sys:Sys h X ρ σ
 inv:Inv c σ d e
 dn:wO X c
 sec:∀s,s<c.first->σ.sec s=X.D7 s
 ho:σ.ring.Pairwise λa b=>a.fr≠b.fr
theorem Yg{X:dQ}{c:cN}(k:wO X c){sec:Nat->Nat}(au:∀s,s<c.first->sec s=X.D7 s)(f p:Int) :fileAt X.F.cx sec f p=c.hy f p:=by
 rw[k.xa];unfold fileAt;by_cases bc:f<0
 ·rw[if_pos bc,if_pos bc]
 rw[if_neg bc,if_neg bc];cases al:X.F.cx[f.toNat]? with
 |none=>rfl
 |some n=>
  simp only;by_cases bW:p<0\/(((n.size+63) /64:Nat) :Int)<=p
  ·rw[if_pos bW,if_pos bW]
  rw[if_neg bW,if_neg bW];cases ar:loc n.ext p.toNat with
  |none=>rfl
  |some s=>
   simp only;rw[au s (k.loc n (List.mem_of_getElem? al) p.toNat s (by omega) ar)]
section
variable{h g:ag}{X:dQ}{c:cN}{ρ a8:Nat->Nat}{σ aG:b0}{d e:Nat->Int}
theorem Good.ca(k:Good h X c ρ σ d e){S:Nat->Prop}(u:aF S h g)(au:∀i,S i->i<h.next->ρ i=0) :Good g X c ρ σ d e:=⟨k.sys.ca u au,k.inv,k.dn,k.sec,k.ho⟩
theorem Good.ext(k:Good h X c ρ σ d e)(u:aX h g) :Good g X c ρ σ d e:=k.ca u (λ_ e _=>e.elim)
theorem Good.n(k:Good h X c ρ σ d e) :c.n<=4096:=by rw[<-k.dn.n];exact k.sys.core.ps.p.n
theorem Good.cG(k:Good h X c ρ σ d e) :c.cG<=4096:=by rw[<-k.dn.cG];exact k.sys.core.gM.s
theorem Good.fresh(k:Good h X c ρ σ d e){i:Nat}(U:h.next<=i) :ρ i=0:=k.sys.core.Gy U
theorem Good.me(k:Good h X c ρ σ d e) :σ.free=b' (λf=>σ.held f==0) X.A.n:=by rw[k.dn.n];exact k.inv.free
theorem Good.zb(k:Good h X c ρ σ d e) :σ.free<=4096:=by rw[k.inv.free];exact Nat.le_trans (m0 _ _) k.n
theorem Good.lD(k:Good h X c ρ σ d e){x:bD}(ab:x∈σ.ax) :oC h X.A σ.mem σ.held x.t x.T.dX x.T where
 obj:=(k.sys.ax x ab).lD
 lt:=k.sys.core.lt _ (by rw[(k.sys.ax x ab).role.2];decide)
 ok:=by rw[k.dn.n];exact k.inv.jQ x ab
 held:=λf aB=>by rw[(k.inv.node x f ab aB).1];decide
theorem Good.ps(k:Good h X c ρ σ d e) :fh h X.A σ.mem σ.held σ.free:=k.sys.core.ps
theorem Good.EF(k:Good h X c ρ σ d e){x:bD}(ab:x∈σ.ax) :¬hn X.A x.t/\x.t≠0:=by
 have r:=(k.sys.ax x ab).role.2;refine⟨λe=> ?_,λe=> ?_⟩
 ·have:=k.sys.core.oi e;omega
 ·have:=k.sys.core.r0;rw[e]at r;omega
end
theorem w1:∀{n:Nat} {l:List Nat},l.Pairwise (·≠ ·)->(∀x,x∈l->x<n)->l.length<=n
 |0,[],_,_=>Nat.le_refl _
 |0,x::l,_,h=>absurd (h x (by simp)) (by omega)
 |n+1,l,aD,h=>by
  by_cases hm:n∈l
  ·obtain⟨a,b,rfl⟩:=List.append_of_mem hm;have h1:=(k0 (R:=λa b:Nat=>a≠b) (λa b al=>al.symm)).1 aD
   have:=w1 h1.2 (n:=n) (λx ab=>by
    have aa:=h x (gu.2 (.inr ab));have av:=h1.1 x ab
    omega)
   simp at this|-;omega
  ·have:=w1 aD (n:=n) (λx ab=>by
    have aa:=h x ab;have av:x≠n:=λe=>hm (e▸ab)
    omega)
   omega
section
variable{h g:ag}{X:dQ}{c:cN}{ρ a8:Nat->Nat}{σ aG:b0}{d e:Nat->Int}
theorem Good.ahQ(k:Good h X c ρ σ d e) :σ.ring.length<=c.n:=by
 have:=w1 (n:=c.n) (l:=σ.ring.map (·.fr)) (List.pairwise_map.2 k.ho) (λx ab=>by
  obtain⟨y,an,rfl⟩:=List.mem_map.1 ab
  exact(k.inv.ring y an).1)
 simpa using this
theorem Good.ahR(k:Good h X c ρ σ d e)(ao:∀f,0<=d f)(aB:0<σ.free) :σ.ring.length<4096:=by
 have al:=k.n;have mn:=k.inv.free;obtain⟨f,f1,f2,_⟩:=least (by rw[<-mn];exact aB:0<b' (λf=>σ.held f==0) c.n);have h0:=k.inv.rN ao f1 (by simpa using f2);have ah:=(kz h0.1).2
 have:=w1 (n:=c.n) (l:=f::σ.ring.map (·.fr)) (List.pairwise_cons.2 ⟨λx ab=>by
  obtain⟨y,an,rfl⟩:=List.mem_map.1 ab
  exact(ah y an).symm,List.pairwise_map.2 k.ho⟩) (λx ab=>by
  rcases List.mem_cons.1 ab with rfl|ab
  ·exact f1
  ·obtain⟨y,an,rfl⟩:=List.mem_map.1 ab
   exact(k.inv.ring y an).1)
 simp at this;omega
end
end
section
variable{PV:cw} [db PV]
def view(c:cN)(σ:b0) :List (Nat×List aH×(Nat->Option Nat)):=σ.ax.map λx=>(x.s,x.L,cont c σ x)
theorem uC{c:cN}{σ aG:b0}(h:aG.ax=σ.ax)(k:∀x p,x∈σ.ax->cont c aG x p=cont c σ x p) :view c aG=view c σ:=by
 unfold view;rw[h];refine List.map_congr_left λx ab=> ?_
 rw[show cont c aG x=cont c σ x from funext λp=>k x p ab]
theorem KN{c:cN}{σ aG:b0}{a b:List bD}{x cn:bD}(h:σ.ax=a++x::b)(bg:aG.ax=a++cn::b)(au:cn.s=x.s)(en:cn.L=x.L)(k:∀y p,y∈a++b->cont c aG y p=cont c σ y p)(xN:∀p,cont c aG cn p=cont c σ x p) :view c aG=view c σ:=by
 unfold view;rw[h,bg,List.map_append,List.map_append,List.map_cons,List.map_cons];have aw:a.map (λx=>(x.s,x.L,cont c aG x))=a.map (λx=>(x.s,x.L,cont c σ x)):=List.map_congr_left λy an=>by rw[show cont c aG y=cont c σ y from funext λp=>k y p (by simp[an])]
 have aL:b.map (λx=>(x.s,x.L,cont c aG x))=b.map (λx=>(x.s,x.L,cont c σ x)):=List.map_congr_left λy an=>by rw[show cont c aG y=cont c σ y from funext λp=>k y p (by simp[an])]
 rw[aw,aL,au,en,show cont c aG cn=cont c σ x from funext xN]
theorem ld{c:cN}{σ aG:b0}{x:bD}{p:Nat}(h1:(x.T.ent p).here=true->aG.mem (x.T.ent p).n.toNat=σ.mem (x.T.ent p).n.toNat)(aa:(x.T.ent p).out=true->aG.sec (c.first+(x.T.ent p).n.toNat)=σ.sec (c.first+(x.T.ent p).n.toNat)) :cont c aG x p=cont c σ x p:=by
 unfold cont;cases bO x.L p with
 |none=>rfl
 |some r=>
  simp only;by_cases bc:(x.T.ent p).here=true
  ·rw[if_pos bc,if_pos bc,h1 bc]
  ·rw[if_neg bc,if_neg bc];by_cases bW:(x.T.ent p).out=true
   ·rw[if_pos bW,if_pos bW,aa bW]
   ·rw[if_neg bW,if_neg bW]
theorem AE(P:ba->Bool) :∀l:List bD,cU l P<=4096*l.length
 |[]=>by simp[cU]
 |x::l=>by
  rw[uh,List.length_cons];have h1:=AE P l;have aa:x.T.iw P<=4096:=by unfold c0.iw;exact m0 _ _
  omega
theorem BW{α:Type}(P:α->Bool) :∀l:List α,dZ P l<=l.length
 |[]=>by simp[dZ]
 |x::l=>by rw[py,List.length_cons];have h1:=BW P l;have aa:=Bool.toNat_le (P x);omega
section
variable{h g:ag}{X:dQ}{c:cN}{ρ a8:Nat->Nat}{σ aG:b0}{d e:Nat->Int}
theorem Good.root(k:Good h X c ρ σ d e){x:bD}(ab:x∈σ.ax) :IsNode x.T (nodeAt x.T 0 0)/\nodeAt x.T 0 0<c.n:=by
 have ok:=k.inv.jQ x ab;cases ah:x.T.aZ 0 0 with
 |none=>exact absurd ah ok.root
 |some f=>
  have:nodeAt x.T 0 0=f:=by show(x.T.aZ 0 0).getD 0=f;rw[ah];rfl
  rw[this];exact⟨⟨0,0,ah⟩,(ok.lvl 0 0 f ah).2.2⟩
theorem Good.AN(k:Good h X c ρ σ d e) :σ.ax.length<=c.n:=by
 have:=w1 (n:=c.n) (l:=σ.ax.map (λx=>nodeAt x.T 0 0)) (List.pairwise_map.2 (by
  refine List.Pairwise.imp_of_mem ?_ k.inv.qe;intro x y ab an abT e
  exact abT _ (k.root ab).1 (by rw[e];exact(k.root an).1))) (λx ab=>by
  obtain⟨y,an,rfl⟩:=List.mem_map.1 ab
  exact(k.root an).2)
 simpa using this
theorem Good.Cv(k:Good h X c ρ σ d e)(ao:∀f,d f<=16){f:Nat}(aB:f<c.n) :σ.held f<2^40:=by
 by_cases al:∃x,x∈σ.ax/\IsNode x.T f
 ·obtain⟨x,ab,cL⟩:=al;rw[(k.inv.node x f ab cL).1];decide
 ·have h1:=k.inv.data f aB (λx ab cL=>al ⟨x,ab,cL⟩);have aa:=AE (bJ f) σ.ax;have av:=BW (λx:cH=>x.fr==f) σ.ring;have aO:=k.ahQ;have bb:=k.AN;have cp:=k.n;have gC:=ao f;unfold refs at h1;have:σ.held f<2^40:=by omega
  exact this
theorem Good.Ry(k:Good h X c ρ σ d e)(ao:∀f,e f<=16){i:Nat}(U:i<c.cG) :σ.bQ i<2^40:=by
 have h1:=k.inv.slot i U;have aa:=AE (cZ i) σ.ax;have bb:=k.AN;have cp:=k.n;have gC:=ao i;unfold l5 at h1;have:σ.bQ i<2^40:=by omega
 exact this
def j8(l:List cH) :List (Int×Int):=l.map λy=>(y.file,y.bq)
theorem WL(k:Good h X c ρ σ d e)(ao:∀f,0<=d f)(pF:∀f,d f<=15)(f p:Int) :
  bN (call ai PV (.func 246 [] []) [.ptr X.k 0,gr f p] h) λv g=>bG ρ h g/\
   ((∃tt:Int,v=.tuple [.int .i64 0,.int .i64 tt]/\(tt=14/\c.hy f p=none\/tt=18/\σ.free=0/\c.hy f p≠none)/\Good g X c ρ σ d e)\/
    ∃fr aG a8,v=.tuple [.int .i64 (fr:Nat),.int .i64 0]/\(∀i,i<h.next->a8 i=ρ i)/\(∃y,y∈aG.ring/\y.fr=fr/\y.file=f/\y.bq=p)/\
     Good g X c a8 aG (λg=>d g+(decide (g=fr)).toNat) e/\aG.ax=σ.ax/\view c aG=view c σ/\aG.sec=σ.sec/\σ.free<=aG.free+1/\aG.free<=σ.free/\aG.used=σ.used/\aG.bQ=σ.bQ/\(j8 aG.ring=j8 σ.ring\/j8 aG.ring=j8 σ.ring++[(f,p)])):=by
 have mn:=Yg k.dn k.sec f p;by_cases eb:∃y,y∈σ.ring/\y.file=f/\y.bq=p
 ·obtain⟨y,an,rfl,rfl⟩:=eb;obtain⟨pre,post,ah⟩:=List.append_of_mem an;have qK:=k.inv.ring y an;have aC:=k.inv.Jp an (ao _);have af:=k.Cv (λf=>by have:=pF f;omega) qK.1;refine bN.mono (WV k.sys.core ah (by rw[k.dn.n];exact qK.1) (by omega) (by omega)) ?_;rintro _ g ⟨rfl,a',aW⟩;refine⟨bG.own aW,.inr ⟨y.fr,_,ρ,rfl,λ_ _=>rfl,⟨{y with fresh:=true},gu.2 (.inl rfl),rfl,rfl,rfl⟩,⟨k.sys.own a' rfl aW (λ_ _=>rfl),?_,k.dn,k.sec,?_⟩,rfl,uC rfl (λx q ab=>ld (λ_=>rfl) (λ_=>rfl)),rfl,Nat.le_succ _,Nat.le_refl _,rfl,rfl,.inl (by rw[ah];simp[j8])⟩⟩
  ·have i1:=k.inv.marks (eQ:=pre++{y with fresh:=true}::post) (by rw[ah];simp) σ.hand
   have i2:=i1.held (f:=y.fr) qK.1 (σ.held y.fr+1) σ.free (λg=>d g+(decide (g=y.fr)).toNat) (λx ab=>k.inv.vW an ab) (by
    have h1:=i1.data y.fr qK.1 (λx ab=>k.inv.vW an ab);have rQ:(σ.held y.fr:Int)=refs {σ with ring:=pre++{y with fresh:=true}::post,hand:=σ.hand} y.fr+d y.fr:=h1;simp only[decide_true,Bool.toNat_true]
    omega) (λg aE=>by simp[aE]) (by
    show σ.free+(decide (σ.held y.fr=0)).toNat=σ.free+(decide (σ.held y.fr+1=0)).toNat
    rw[decide_eq_false (by omega),decide_eq_false (by omega)])
   exact i2
  ·have aj:=k.ho;rw[ah]at aj;have g':∀a b:cH,a.fr≠b.fr->b.fr≠a.fr:=λa b al=>al.symm
   have h1:=(k0 (R:=λa b:cH=>a.fr≠b.fr) g').1 aj;exact(k0 (R:=λa b:cH=>a.fr≠b.fr) g').2 ⟨λz aI=>h1.1 z aI,h1.2⟩
 ·have gp:∀y,y∈σ.ring->¬(y.file=f/\y.bq=p):=λy an aC=>eb ⟨y,an,aC⟩
  refine bN.mono (WU k.sys.core gp k.me (k.ahR ao)) ?_;rintro v g ⟨aW,h1|h1|h1⟩
  ·obtain⟨aQ,rfl,a3⟩:=h1;refine⟨bG.own aW,.inl ⟨14,rfl,.inl ⟨rfl,by rw[<-mn];exact aQ⟩,⟨k.sys.own a3 rfl aW (λ_ _=>rfl),k.inv,k.dn,k.sec,k.ho⟩⟩⟩
  ·obtain⟨aQ,a2,rfl,a3⟩:=h1;refine⟨bG.own aW,.inl ⟨18,rfl,.inr ⟨rfl,a2,by rw[<-mn];exact aQ⟩,⟨k.sys.own a3 rfl aW (λ_ _=>rfl),k.inv,k.dn,k.sec,k.ho⟩⟩⟩
  ·obtain⟨m,fr,id,a8,aQ,a2,a3,rfl,a5,hY⟩:=h1;rw[k.dn.n]at a2;have iQ:=k.inv.rN ao a2 a3;have hm:c.hy f p=some m:=by rw[<-mn];exact aQ
   refine⟨bG.own aW,.inr ⟨fr,_,a8,rfl,a5,⟨_,List.mem_append_right _ (List.mem_singleton_self _),rfl,rfl,rfl⟩,⟨k.sys.own hY rfl aW a5,?_,k.dn,k.sec,?_⟩,rfl,uC rfl (λx q ab=>ld (λaC=> ?_) (λ_=>rfl)),rfl,by show σ.free<=σ.free-1+1;omega,by show σ.free-1<=σ.free;omega,rfl,rfl,.inr (by simp[j8])⟩⟩
   ·have lY:0<σ.free:=by
     rw[k.inv.free];exact yX a2 (by simp[a3])
    have i1:=k.inv.fill m iQ.1 iQ.2.2
    have i2:=i1.held (f:=fr) a2 2 (σ.free-1) (λg=>d g+2*(decide (g=fr)).toNat) iQ.2.2 (by
     have:refs {σ with mem:=aq σ.mem fr m} fr=refs σ fr:=rfl;have h1:=iQ.1;have aa:=iQ.2.1;simp only[decide_true,Bool.toNat_true]
     omega) (λg aE=>by simp[aE]) (by
     show σ.free-1+(decide (σ.held fr=0)).toNat=σ.free+(decide (2=0)).toNat;rw[decide_eq_true a3];simp only[Bool.toNat_true];show σ.free-1+1=σ.free+0
     omega)
    have i3:=i2.WN (y:=⟨id,f,p,fr,false⟩) a2 (by show c.hy f p=some (aq σ.mem fr m fr);rw[e3];exact hm) iQ.1 iQ.2.2 gp (λg=>d g+(decide (g=fr)).toNat) (λg=>by
     show d g+((decide (g=fr)).toNat:Int)=d g+2*((decide (g=fr)).toNat:Int) -((decide (g=fr)).toNat:Int)
     omega)
    exact i3
   ·refine List.pairwise_append.2 ⟨k.ho,List.pairwise_singleton _ _,λa aU b af=> ?_⟩;rw[List.mem_singleton]at af;subst af;exact(kz iQ.1).2 a aU
   ·show aq σ.mem fr m _=_;rw[ed];intro e;have:=(kz iQ.1).1 x q ab (k.inv.lt ab (gE aC));rw[<-e,ic k.inv ab aC]at this;cases this
end
end
section
variable{PV:cw} [db PV]
theorem akd(h:ag)(s:ba) :bN (call ai PV (.func 238 [] []) [s.dz] h) λv g=>v=.bool (hE s)/\aX h g:=by
 refine cF adM rfl ?_;refine b1 (sP (cs:=s.vs) rfl) λg o n u=> ?_
 have r0:=Obj.get o (i:=0) rfl;have cg:=Obj.get o (i:=1) rfl;have cK:=Obj.get o (i:=2) rfl;obtain⟨a,b,c,d,n⟩:=s;simp only[k4,ns,nt,Nat.zero_add,kB,r0,cg,cK,ak];cases a
 ·simp only[cJ,Bool.false_eq_true,if_false,cO,bn,bd,cB,ak,fA];exact aJ.pure ⟨rfl,u⟩
 ·cases b
  ·simp only[cK,cJ,if_true,cO,bn,bd,cB,ak,fA,Bool.not_false];exact aJ.pure ⟨by cases c<;>rfl,u⟩
  ·simp only[cJ,if_true,cO,bn,bd,cB,ak,fA,Bool.not_true,Bool.false_eq_true,if_false];exact aJ.pure ⟨rfl,u⟩
def Aa(held:Nat->Nat)(s:ba) :Bool:=s.here&&(s.write||s.copy) &&held s.n.toNat==1
theorem aiW{h:ag}{X:dQ}{ρ:Nat->Nat}{σ:b0}(k:Sys h X ρ σ){eY:Nat}(bP:a6.Obj h eY [.ptr X.M 0])(Hk:eY<h.next)(s:ba)(al:s.here=true->0<=s.n/\s.n.toNat<X.A.n) :bN (call ai PV (.func 239 [] [.ptr eY 0]) [s.dz] h) λv g=>v=.bool (Aa σ.held s)/\aX h g:=by
 refine cF adN rfl ?_;refine b1 (sP (cs:=s.vs) rfl) λg o n u=> ?_
 have bC:aX g (g.aV 21):=aF.aV _ _ _;have Dq:=(k.ext u).ext bC;have eR:=Dq.field.1;rw[cT]at eR;have sv:=Obj.get (bP.ext u Hk) (i:=0) rfl;have r0:=Obj.get o (i:=0) rfl;have cg:=Obj.get o (i:=1) rfl;have cK:=Obj.get o (i:=2) rfl;have eu:=Obj.get o (i:=4) rfl;obtain⟨a,b,c,d,n⟩:=s;have w:=u.trans bC
 have aC:a=true->call ai PV (.func 98 [] []) [.ptr X.A.p 0,.int .i64 n] (g.aV 21)=some (.int .i64 (σ.held n.toNat),g.aV 21):=λaU=>by have:=al aU;have h0:0<=n:=this.1;have e:=Cw Dq.core.ps.p (f:=n.toNat) this.2;rw[show((n.toNat:Nat) :Int)=n by show(n.toNat:Int)=n;omega]at e;exact e
 have ao:decide ((σ.held n.toNat:Int)=1)=(σ.held n.toNat==1):=by rw[Bool.eq_iff_iff];simp;omega
 cases a
 ·cases b<;>(simp only[k4,ns,nt,lG,Nat.zero_add,kB,cT,r0,cg,cK,ak,cJ,DK,Bool.false_eq_true,Bool.true_eq_false,if_false,if_true,cB,dh];exact aJ.pure ⟨rfl,w⟩)
 ·have lV:=aC rfl;cases b
  ·cases c
   ·simp only[k4,ns,nt,lG,Nat.zero_add,kB,cT,r0,cg,cK,ak,cJ,DK,Bool.false_eq_true,Bool.true_eq_false,if_false,if_true,cB,dh];exact aJ.pure ⟨rfl,w⟩
   ·simp only[k4,ns,nt,lG,lF,Nat.zero_add,kB,lH,gK,b6,cT,r0,cg,cK,eu,sv,eR,b2,ak,cJ,DK,Bool.false_eq_true,Bool.true_eq_false,if_false,if_true,cB,dh,lV,c1,c2,ao];exact aJ.pure ⟨rfl,w⟩
  ·cases c<;>(simp only[k4,ns,nt,lG,lF,Nat.zero_add,kB,lH,gK,b6,cT,r0,cg,cK,eu,sv,eR,b2,ak,cJ,DK,Bool.false_eq_true,Bool.true_eq_false,if_false,if_true,cB,dh,lV,c1,c2,ao];exact aJ.pure ⟨rfl,w⟩)
theorem JO(ent:Nat->ba) :(dm ent 0 4096).length<=4096:=by rw[JP];exact m0 _ _
theorem Iu{ent:Nat->ba}{p:Nat}(aD:ent p≠.zero->p<4096) :p∈dm ent 0 4096↔ent p≠.zero:=by
 generalize gD:4096=N at aD;rw[It];constructor
 ·exact λh=>h.2.2
 ·exact λh=>⟨Nat.zero_le _,by have:=aD h;omega,h⟩
theorem MP{h:ag}{X:dQ}{c:cN}{ρ:Nat->Nat}{σ:b0}{d e:Nat->Int}(k:Good h X c ρ σ d e){aQ:J}(P:ba->Bool)
  (zj:∀g x p,aX h g->x∈σ.ax->x.T.ent p≠.zero->bN (call ai PV aQ [(x.T.ent p).dz] g) λv bH=>v=.bool (P (x.T.ent p))/\aX g bH) :
  bN (call ai PV (.func 237 [] []) [.ptr X.M 0,aQ] h) λv g=>aX h g/\
   ((v=.tuple [.nilPtr,.agg s8,.bool false]/\∀x p,x∈σ.ax->x.T.ent p≠.zero->P (x.T.ent p)=false)\/
    ∃x p,x∈σ.ax/\x.T.ent p≠.zero/\P (x.T.ent p)=true/\v=.tuple [.ptr x.s 0,.agg (ey x.T p),.bool true]):=by
 refine cF adL rfl ?_;refine b1 sO λg1 bU dF aW=> ?_
 have a':=k.ext aW;obtain⟨ec,os,hL,_,_⟩:=a'.sys.mem;have ar:=hL.len (T:=75) (si:=A_) (by kernel_rfl) rfl;rw[List.length_map,List.length_map]at ar;have jm:=k.AN;have al:=k.n;simp only[b2,Es,Nat.zero_add,ak,Ke,Obj.get os (i:=4) rfl,ar]
 refine gW (n:=14) (I:=λi vs g=>vs=[.nilPtr,.bool false,.int .i64 (i:Nat)]/\aX g1 g/\i<=σ.ax.length/\∀x p,x∈σ.ax.take i->x.T.ent p≠.zero->P (x.T.ent p)=false) (m:=σ.ax.length)
  (P:=λx vs g=>(x=.exit 0/\(∃c,vs=[.nilPtr,.bool false,c])/\aX g1 g/\∀x p,x∈σ.ax->x.T.ent p≠.zero->P (x.T.ent p)=false)\/
    (x=.ret/\∃x p c,x∈σ.ax/\x.T.ent p≠.zero/\P (x.T.ent p)=true/\vs=[.ptr x.s 0,.bool true,c]/\aF (λi=>i=h.next) g1 g/\a6.Obj g h.next (ey x.T p))) (Nat.lt_of_le_of_lt (Nat.le_trans jm al) (by decide)) ⟨rfl,aF.refl _ _,by omega,by simp⟩ ?_ ?_
 ·rintro i _ aa U ⟨rfl,a_,_,gp⟩;simp only[bn,bd,cQ,ak,a1];by_cases bc:(i:Int) <(σ.ax.length:Nat)
  ·rw[if_pos (by simpa using bc)];have qE:i<σ.ax.length:=by omega
   have ab:σ.ax[i]? =some σ.ax[i]:=List.getElem?_eq_getElem qE;have pN:σ.ax.take (i+1)=σ.ax.take i++[σ.ax[i]]:=by rw[List.take_add_one,ab];rfl
   generalize vv:σ.ax[i]=x at ab pN;have hD:x∈σ.ax:=List.mem_of_getElem? ab;have bR:=a'.ext a_;have jE:((σ.ax.map (λx=>J.ptr x.s 0)).map one)[i]? =some [J.ptr x.s 0]:=by simp[ab,one]
   obtain⟨b,cap,Ca,l,ae,af,ol,m7,_,_,h_⟩:=(hL.ext a_).at jE;rw[List.length_map,List.length_map]at ae m7;have hk:=h_ 0 (by decide);rw[Nat.mul_one,Nat.add_zero]at hk;have mz:eV ai 75 ec (.int .i64 (i:Nat))=some (.ptr b (0+i)):=by rw[ae];exact Sg m7
   have mQ:=(bR.sys.ax x hD).field.2;rw[mz];simp only[ak,Nat.zero_add,uy,hk,List.getElem?_cons_zero,b2,uv,ov,mQ];refine bS (Fl bR.ps (bR.lD hD)) ?_;rintro KG aO ⟨dY,bA⟩;obtain⟨L,dO,er,dY⟩ :∃L:List Nat,L.length<=4096/\(∀p,p∈L↔x.T.ent p≠.zero)/\Row aO 6 aa.next KG (L.map (ey x.T)):=⟨_,JO _,λp=>Iu (k.inv.lt hD),dY⟩;have hlen:=dY.len (T:=175) (E:=ai) (si:=wm) (by kernel_rfl) rfl;rw[List.length_map]at hlen;rw[hlen];simp only[ak];have hK:=a_.trans bA;have gR:=bU.ext hK (by omega)
   refine gW (n:=14) (I:=λj vs g=>vs=[.nilPtr,.bool false,.int .i64 (j:Nat)]/\aX aO g/\∀p,p∈L.take j->P (x.T.ent p)=false) (m:=L.length)
    (P:=λy vs g=>(y=.exit 2/\(∃c,vs=[.nilPtr,.bool false,c])/\aX aO g/\∀p,x.T.ent p≠.zero->P (x.T.ent p)=false)\/
      (y=.ret/\∃p c,x.T.ent p≠.zero/\P (x.T.ent p)=true/\vs=[.ptr x.s 0,.bool true,c]/\aF (λi=>i=h.next) aO g/\a6.Obj g h.next (ey x.T p))) (Nat.lt_of_le_of_lt dO (by decide)) ⟨rfl,aF.refl _ _,by simp⟩ ?_ ?_
   ·rintro j _ bb az ⟨rfl,bZ,NR⟩;simp only[bn,bd,cQ,ak,a1];by_cases bW:(j:Int) <(L.length:Nat)
    ·rw[if_pos (by simpa using bW)];have xr:j<L.length:=by omega
     have aD:L[j]? =some L[j]:=List.getElem?_eq_getElem xr;have N9:L.take (j+1)=L.take j++[L[j]]:=by rw[List.take_add_one,aD];rfl
     generalize L[j]=p at aD N9;have h9:x.T.ent p≠.zero:=(er p).1 (List.mem_of_getElem? aD);obtain⟨ea,e9,Ha,hi,kZ,kU,pK,rY⟩:=(dY.ext bZ).at (i:=j) (x:=ey x.T p) (by simp[aD]);rw[List.length_map]at e9 kU;rw[e9];simp only[J' kU,ak,Nat.zero_add];rw[ux kZ (by omega),rY];simp only[ak];refine b1 sO λg6 di n6 b3=> ?_
     refine cb (q6 (k:=0) (cs:=ey x.T p) di rfl (by simp[ey,ba.vs]) rfl) λg7 ⟨dP,dM,n7⟩=> ?_
     have dP:=dC dP rfl;have p2:aX bb g7:=b3.local dM (λj az e=>by omega);simp only[yo,Nat.zero_add,ak];rw[A2 dP (by simp[ey,ba.vs])];simp only[ak];have Hv:(J.agg (List.take 5 (List.drop 1 (ey x.T p))))=(x.T.ent p).dz:=rfl;rw[Hv];have akc:=((aW.trans hK).trans bZ).trans p2;refine bS (zj g7 x p akc hD h9) ?_;rintro _ g8 ⟨rfl,u8⟩;simp only[a1];have aw:bF .i64 ((j:Int) +1)=((j+1:Nat) :Int):=by rw[wrap_i64 (by omega) (by omega)];omega
     have aaJ:bb.next+1=g7.next:=by omega
     cases nP:P (x.T.ent p)with
     |true=>
      rw[if_pos rfl];have bC:aX g8 (g8.aV 5):=aF.aV _ _ _;have su:=(dP.ext u8 (by omega)).ext bC (by have:=u8.next;omega);have DE:=(((gR.ext bZ (by have:=hK.next;omega)).ext p2 (by have:=hK.next;have:=bZ.next;omega)).ext u8 (by have:=hK.next;have:=bZ.next;omega)).ext bC (by have:=hK.next;have:=bZ.next;have:=u8.next;omega);rw[ux su (by simp[ey,ba.vs])];simp only[ak];have CA:List.take 6 (List.drop 0 (ey x.T p))=ey x.T p:=rfl;rw[CA];refine cb (q6 (k:=0) (cs:=ey x.T p) DE rfl (by simp[ey,ba.vs]) rfl) λg10 ⟨mH,gV,n10⟩=> ?_
      have mH:=dC mH rfl;simp only[dh];exact aJ.pure (.inr ⟨by simp,.inr ⟨rfl,p,_,h9,nP,rfl,(aF.ext (((bZ.trans p2).trans u8).trans bC)).trans gV,mH⟩⟩)
     |false=>
      rw[if_neg (by decide)];simp only[cP,aw,ak];refine aJ.pure (.inl ⟨rfl,xr,rfl,(bZ.trans p2).trans u8,λq ay=> ?_⟩);rw[N9]at ay;rcases List.mem_append.1 ay with ay|ay
      ·exact NR q ay
      ·rw[List.mem_singleton]at ay;subst ay;exact nP
    ·rw[if_neg (by simpa using bW)];refine aJ.pure (.inr ⟨by simp,.inl ⟨rfl,⟨_,rfl⟩,bZ,λp aD=>NR p ?_⟩⟩);rw[List.take_of_length_le (by omega)];exact(er p).2 aD
   ·rintro y vs cp (⟨rfl,⟨gz,rfl⟩,b3,gn⟩ |⟨rfl,p,gz,h9,nP,rfl,b3,di⟩)
    ·have aw:bF .i64 ((i:Int) +1)=((i+1:Nat) :Int):=by rw[wrap_i64 (by omega) (by omega)];omega
     simp only[bn,bd,fZ,if_true,cP,aw,ak];refine aJ.pure (.inl ⟨rfl,qE,rfl,hK.trans b3,qE,λz q aI ay=> ?_⟩);rw[pN]at aI;rcases List.mem_append.1 aI with aI|aI
     ·exact gp z q aI ay
     ·rw[List.mem_singleton]at aI;subst aI;exact gn q ay
    ·simp only[bn,bd,qj];exact aJ.pure (.inr ⟨by simp,.inr ⟨rfl,x,p,_,hD,h9,nP,rfl,(aF.ext hK).trans b3,di⟩⟩)
  ·rw[if_neg (by simpa using bc)];refine aJ.pure (.inr ⟨by simp,.inl ⟨rfl,⟨_,rfl⟩,a_,?_⟩⟩);rw[List.take_of_length_le (by omega)]at gp;exact gp
 ·rintro y vs av (⟨rfl,⟨gz,rfl⟩,bw,gn⟩ |⟨rfl,x,p,gz,hD,h9,nP,rfl,bw,b8⟩)
  ·simp only[bn,bd,fZ,if_true,V5,ak];have hl:=bU.ext bw (by omega);refine cb (q6 (k:=0) (cs:=s8) hl rfl (by simp[s8]) rfl) λg4 ⟨c5,bA,gb⟩=> ?_
   have c5:=dC c5 rfl;rw[ux c5 (by simp[s8])];exact aJ.pure ⟨(aW.trans bw).local bA (λj az e=>by omega),.inl ⟨rfl,gn⟩⟩
  ·simp only[bn,bd,qj];rw[ux b8 (by simp[ey,ba.vs])];exact aJ.pure ⟨aW.local bw (λj az e=>by omega),.inr ⟨x,p,hD,h9,nP,rfl⟩⟩
end
section
variable{PV:cw} [db PV]
theorem l1{s:ba}(h:s.may=true) :0<=s.n/\¬(s.here=true/\s.out=true):=by obtain⟨a,b,c,d,n⟩:=s;cases a<;>cases b<;>cases c<;>cases d<;>simp[ba.may]at h|- <;>omega
section
variable{h g:ag}{X:dQ}{c:cN}{ρ a8:Nat->Nat}{σ aG:b0}{d e:Nat->Int}
theorem Core.Me(k:Core h X ρ σ){bQ sec:Nat->Nat}{used:Nat}(a:hc g X.R X.D bQ used)(d:eX g X.D sec X.dH)(u:aF (λi=>i=X.D.d\/i=X.D.b\/i=X.R.q\/i=X.R.a) h g) :Core g X ρ {σ with bQ:=bQ,used:=used,sec:=sec}:=by
 have eL:=k.eL;have fa:=k.fa;have fG:=k.fG;have d':=k.d';have cz:∀i,(i=X.D.d\/i=X.D.b\/i=X.R.q\/i=X.R.a)->4<=ρ i/\ρ i<=7:=by rintro i (rfl|rfl|rfl|rfl)<;>omega
 exact{
  ps:=k.ps.ca u ⟨λe=>by have:=cz _ e;omega,λe=>by have:=cz _ e;omega,λe=>by have:=cz _ e;omega,λe=>by have:=cz _ e;have:=k.r0;omega⟩
  ji:=d
  gM:=a
  gm:=k.gm.aq u ⟨λe=>by have:=cz _ e;omega,λb af e=>by have:=cz _ e;have:=d'.2.1 b af;omega,λn b al af e=>by have:=cz _ e;have:=d'.2.2 n b al af;omega⟩
  dd:=k.dd.ca u (λi U _=>.inl (by have:=cz i U;omega)) (λ_ _=>rfl) k.lt k.fF
  eL:=k.eL,fa:=k.fa,fG:=k.fG,fF:=k.fF,r0:=k.r0,d':=k.d'
  lt:=λi U=>Nat.lt_of_lt_of_le (k.lt i U) u.next}
theorem Sys.table(k:Sys h X ρ σ){a b:List bD}{x:bD}(au:σ.ax=a++x::b){mem held:Nat->Nat}{free:Nat}{aK:c0}(p:fh g X.A mem held free)(t:fP g X.A x.t (nodeAt aK 0 0) aK.dX)
  (u:aF (λi=>hn X.A i\/i=x.t) h g) :Sys g X ρ {σ with mem:=mem,held:=held,free:=free,ax:=a++{x with T:=aK}::b}:=by
 have ab:x∈σ.ax:=by rw[au];simp
 have rx:=(k.ax x ab).role
 have cz:∀i,(hn X.A i\/i=x.t)->ρ i<=3/\1<=ρ i\/ρ i=16:=by
  rintro i (U|rfl)
  ·have:=k.core.oi U;omega
  ·exact .inr rx.2
 have ar:=k.core.lt;have eL:=k.core.eL;have fa:=k.core.fa;have fG:=k.core.fG;have d':=k.core.d'
 have qL:Core g X ρ {σ with mem:=mem,held:=held,free:=free,ax:=a++{x with T:=aK}::b}:=
  {ps:=p
   ji:=k.core.ji.aq u ⟨λe=>by have:=cz _ e;omega,λe=>by have:=cz _ e;omega⟩
   gM:=k.core.gM.aq u ⟨λe=>by have:=cz _ e;omega,λe=>by have:=cz _ e;omega⟩
   gm:=k.core.gm.aq u ⟨λe=>by have:=cz _ e;omega,λb af e=>by have:=cz _ e;have:=d'.2.1 b af;omega,λn b al af e=>by have:=cz _ e;have:=d'.2.2 n b al af;omega⟩
   dd:=k.core.dd.ca u (λi U _=>by have:=cz i U;omega) (λ_ _=>rfl) ar k.core.fF
   eL:=eL,fa:=fa,fG:=fG,fF:=k.core.fF,r0:=k.core.r0,d':=d'
   lt:=λi U=>Nat.lt_of_lt_of_le (ar i U) u.next}
 obtain⟨ec,o,v,ex,dL⟩:=k.mem;have np:=k.np;have pZ:=(k0 (R:=λx y:bD=>x.s≠y.s/\x.t≠y.t) (λa b al=>⟨al.1.symm,al.2.symm⟩)).1 (au▸k.pY);refine⟨qL,⟨ec,o.aq u (ar _ (by omega)) (λe=>by have:=cz _ e;omega),?_,ex,dL⟩,np,λy an=> ?_,(k0 (R:=λx y:bD=>x.s≠y.s/\x.t≠y.t) (λa b al=>⟨al.1.symm,al.2.symm⟩)).2 ⟨pZ.1,pZ.2⟩⟩
 ·have:(a++{x with T:=aK}::b).map (λx=>J.ptr x.s 0)=σ.ax.map (λx=>J.ptr x.s 0):=by rw[au];simp
  show gk g 1 ec (((a++{x with T:=aK}::b).map (λx=>J.ptr x.s 0)).map one);rw[this];exact v.aq u (λb af e=>by have:=cz _ e;have:=dL b af;omega)
 ·rcases gu.1 an with rfl|an
  ·obtain⟨e0,ol,ij,nq⟩:=(k.ax x ab).str;exact⟨⟨e0,ol.aq u (ar _ (by omega)) (λe=>by have:=cz _ e;omega),ij.aq u (λb cap ex e cR=>by have:=cz _ cR;have:=nq b (by rw[e];rfl);omega),nq⟩,t,rx⟩
  ·have zV:y∈σ.ax:=by rw[au];exact gu.2 (.inr an)
   have vF:=k.ax y zV;have i_:=vF.role;obtain⟨e0,ol,ij,nq⟩:=vF.str;refine⟨⟨e0,ol.aq u (ar _ (by omega)) (λe=>by have:=cz _ e;omega),ij.aq u (λb cap ex e cR=>by have:=cz _ cR;have:=nq b (by rw[e];rfl);omega),nq⟩,Obj.aq vF.lD u (ar _ (by omega)) (λe=> ?_),i_⟩;rcases e with e|e
   ·have:=k.core.oi e;omega
   ·exact(pZ.1 y an).2 e.symm
def hS(σ:b0) :Nat:=cU σ.ax (λs=>s.here)
def jU(σ aG:b0) :Prop:=∀cn,cn∈aG.ax->∃x,x∈σ.ax/\x.s=cn.s/\∀p,cn.T.ent p=x.T.ent p\/((cn.T.ent p).here=false/\x.T.ent p≠.zero/\(hE (x.T.ent p)=true\/(cn.T.ent p).out=true))
theorem jU.same{σ aG:b0}(h:aG.ax=σ.ax) :jU σ aG:=λcn ab=>⟨cn,h▸ab,rfl,λ_=>.inl rfl⟩
theorem jU.mid{σ aG:b0}{a b:List bD}{x:bD}{aK:c0}{p:Nat}{s:ba}(au:σ.ax=a++x::b)(xA:aG.ax=a++{x with T:=aK}::b)(he:aK.ent=aq x.T.ent p s)(aI:x.T.ent p≠.zero)(aC:s.here=false)(aA:hE (x.T.ent p)=true\/s.out=true) :jU σ aG:=λy an=>by
 rw[xA]at an;rcases gu.1 an with rfl|an
 ·refine⟨x,by rw[au];simp,rfl,λq=> ?_⟩;show aK.ent q=_\/((aK.ent q).here=false/\_/\(_\/(aK.ent q).out=true));rw[he];by_cases e:q=p
  ·subst e;rw[e3];exact .inr ⟨aC,aI,aA⟩
  ·rw[ed _ _ e];exact .inl rfl
 ·exact⟨y,by rw[au];exact gu.2 (.inr an),rfl,λ_=>.inl rfl⟩
theorem jU.trans{a b d:b0}(h:jU a b)(k:jU b d) :jU a d:=λcn ab=>by
 obtain⟨y,an,e,f⟩:=k cn ab;obtain⟨z,aI,cR,fo⟩:=h y an;refine⟨z,aI,cR.trans e,λp=> ?_⟩;rcases f p with h1|⟨h1,aa,bb⟩
 ·rw[h1];exact fo p
 ·rcases fo p with av|⟨av,aO,cp⟩
  ·rw[av]at aa bb;exact .inr ⟨h1,aa,bb⟩
  ·refine .inr ⟨h1,aO,?_⟩;rcases bb with bb|bb
   ·unfold hE at bb;rw[av]at bb;cases bb
   ·exact .inr bb
theorem jU.zero{a b:b0}(h:jU a b){cn:bD}(ab:cn∈b.ax) :∃x,x∈a.ax/\x.s=cn.s/\∀p,x.T.ent p=.zero->cn.T.ent p=.zero:=by obtain⟨x,h1,aa,av⟩:=h cn ab;exact⟨x,h1,aa,λp aD=>(av p).elim (λe=>e.trans aD) (λe=>absurd aD e.2.1)⟩
structure Made(c:cN)(σ aG:b0)(b:Bool) :Prop where
 view:view c aG=view c σ
 free:σ.free<=aG.free
 here:hS aG<=hS σ
 used:aG.used<=σ.used+1
 len:aG.ax.length=σ.ax.length
 go:b=true->σ.free<aG.free\/hS aG<hS σ
 sub:jU σ aG
 ring:aG.ring.length<=σ.ring.length
 sum:(∀x p,x∈σ.ax->hE (x.T.ent p)=false)->hS σ+σ.used<=hS aG+aG.used
theorem X4(k:Good h X c ρ σ d e)(ao:∀f,0<=d f) :
  bN (call ai PV (.func 156 [.ptr X.M 0] []) [] h) λv g=>bG ρ h g/\∃b aG,v=.bool b/\Good g X c ρ aG d e/\Made c σ aG b/\(b=false->aG.ax=σ.ax/\aG.mem=σ.mem/\aG.held=σ.held/\aG.used=σ.used/\aG.bQ=σ.bQ/\aG.free=σ.free):=by
 refine cF ac_ rfl ?_;simp only[b2,ak,Er,Nat.zero_add,ou,k.sys.field.2.2.1];have lr:=k.zb;refine bS (X3 k.sys.core (λy an=>⟨by rw[k.dn.n];exact(k.inv.ring y an).1,by have:=k.inv.Jp an (ao _);omega⟩) (by omega)) ?_;rintro v g ⟨aW,eQ,av,aA⟩
 have rR:eQ.map (λy=>(y.file,y.bq,y.fr))=σ.ring.map (λy=>(y.file,y.bq,y.fr)):=by have:=congrArg (List.map (λq:Nat×Int×Int×Nat=>q.2)) av;simpa [ly,Function.comp_def]using this
 have eT:eQ.map (·.fr)=σ.ring.map (·.fr):=by have:=congrArg (List.map (λq:Nat×Int×Int×Nat=>q.2.2.2)) av;simpa [ly,Function.comp_def]using this
 have m_:eQ.length=σ.ring.length:=by simpa using congrArg List.length rR
 have Jj:eQ.Pairwise λa b=>a.fr≠b.fr:=by have:=List.pairwise_map.2 k.ho;rw[<-eT]at this;exact List.pairwise_map.1 this
 have tail:∀(v5:J) (b:Bool) (cs:List J) (aG:b0),v5=.agg cs->cs.length=2->cs.all dT=true->Core g X ρ aG->Sys g X ρ aG->Inv c aG d e->(∀s,s<c.first->aG.sec s=X.D7 s)->(aG.ring.Pairwise λa b=>a.fr≠b.fr)->Made c σ aG b->(b=false->aG.ax=σ.ax/\aG.mem=σ.mem/\aG.held=σ.held/\aG.used=σ.used/\aG.bQ=σ.bQ/\aG.free=σ.free)->
   aJ (gy (hN ai 182) g λyD aa=>cd (dU ai aa 182 yD v5) λav=>some (cW.ret,[.bool b],av)) λ_ vs g=>bG ρ h g/\∃b aG,iY vs=.bool b/\Good g X c ρ aG d e/\Made c σ aG b/\(b=false->aG.ax=σ.ax/\aG.mem=σ.mem/\aG.held=σ.held/\aG.used=σ.used/\aG.bQ=σ.bQ/\aG.free=σ.free):=by
  intro v5 b cs aG tO ar au qL f' acJ acN acM Dn acG;subst tO;refine b1 AW λg2 cc dS a_=> ?_
  refine cb (yu (k:=0) (cs:=cs) cc ar (by simp[ar]) au) λg3 ⟨b8,bw,eH⟩=> ?_
  have Bb:aX g g3:=a_.local bw (λj az e=>by omega);exact aJ.pure ⟨(bG.own aW).trans (bG.ext (ρ:=ρ) Bb) (λ_ _=>rfl),b,aG,rfl,⟨f'.ext Bb,acJ,k.dn,acN,acM⟩,Dn,acG⟩
 rcases aA with⟨rfl,a'⟩ |⟨pre,y,post,qt,dO,aC,rfl,a'⟩
 ·simp only[hg,ak];exact tail _ false _ {σ with ring:=eQ} rfl rfl rfl a' (k.sys.own a' rfl aW (λ_ _=>rfl)) (k.inv.marks rR σ.hand) k.sec Jj ⟨uC rfl (λx p ab=>ld (λ_=>rfl) (λ_=>rfl)),Nat.le_refl _,Nat.le_refl _,Nat.le_succ _,rfl,by simp,jU.same rfl,Nat.le_of_eq m_,λ_=>Nat.le_refl _⟩ (λ_=>⟨rfl,rfl,rfl,rfl,rfl,rfl⟩)
 ·simp only[hg,ak];have i1:=k.inv.marks rR σ.hand;have i2:=i1.akf (a:=pre) (b:=post) (y:=y) dO qt (λf=>d f+(decide (f=y.fr)).toNat) (λf=>rfl);have Of:∀x,x∈σ.ax->¬IsNode x.T y.fr:=λx ab=>i1.vW (y:=y) (by show y∈eQ;rw[dO];simp) ab
  have r7:y.fr<c.n:=(i1.ring y (by show y∈eQ;rw[dO];simp)).1;have zm:=i2.data y.fr r7 Of
  have alX:(σ.held y.fr:Int)=refs {σ with ring:=pre++post,hand:=qt} y.fr+(d y.fr+1):=by have:=zm;simp only[decide_true,Bool.toNat_true]at this;exact this
  have alY:=ao y.fr
  have i3:=i2.held (f:=y.fr) r7 0 (σ.free+1) d Of (by
   show((0:Nat) :Int)=refs {σ with ring:=pre++post,hand:=qt} y.fr+d y.fr
   omega) (λg aE=>by simp[aE]) (by
   show σ.free+1+(decide (σ.held y.fr=0)).toNat=σ.free+(decide (0=0)).toNat
   rw[decide_eq_false (by omega)];simp)
  refine tail _ true _ {σ with ring:=pre++post,hand:=qt,held:=aq σ.held y.fr 0,free:=σ.free+1} rfl rfl rfl a' (k.sys.own a' rfl aW (λ_ _=>rfl)) i3 k.sec ?_ ⟨uC rfl (λx p ab=>ld (λ_=>rfl) (λ_=>rfl)),Nat.le_succ _,Nat.le_refl _,Nat.le_succ _,rfl,λ_=>.inl (Nat.lt_succ_self _),jU.same rfl,by rw[<-m_,dO];simp,λ_=>Nat.le_refl _⟩ (by simp);rw[dO]at Jj;exact((k0 (R:=λa b:cH=>a.fr≠b.fr) (λa b al=>al.symm)).1 Jj).2
end
end
section
variable{PV:cw} [db PV]
theorem GV{σ:b0}{a b:List bD}{x:bD}{aK:c0}{p:Nat}{s:ba}(au:σ.ax=a++x::b)(aD:p<4096)(he:aK.ent=aq x.T.ent p s){mem held:Nat->Nat}{free:Nat} :
  hS {σ with mem:=mem,held:=held,free:=free,ax:=a++{x with T:=aK}::b} +((x.T.ent p).here).toNat=hS σ+(s.here).toNat:=by
 have:=Jl (a:=a) (b:=b) (x:=x) aD he (λs=>s.here);unfold hS;rw[au];exact this
theorem C9{c:cN}{σ:b0}{d eC e cR:Nat->Int}(h:Inv c σ d e)(ao:∀f,eC f=d f)(he:∀f,cR f=e f) :Inv c σ eC cR:=by rw[show eC=d from funext ao,show cR=e from funext he];exact h
section
variable{h g:ag}{X:dQ}{c:cN}{ρ a8:Nat->Nat}{σ aG:b0}{d e:Nat->Int}
theorem H4(k:Good h X c ρ σ (λf=>d f) e){n:Nat}(al:n<c.n)(ao:∀f,0<=d f)(pF:∀f,d f<=15)(h1:1<=d n) :
  ∃g,call ai PV (.func 175 [] []) [.ptr X.A.p 0,.int .i64 (n:Nat)] h=some (.int .i64 0,g)/\
   ct ρ h g/\Good g X c ρ {σ with held:=aq σ.held n (σ.held n-1),free:=if σ.held n=1 then σ.free+1 else σ.free} (λf=>d f-(decide (f=n)).toNat) e/\σ.held n≠0:=by
 have lr:=k.zb;have eK:∀x,x∈σ.ax->¬IsNode x.T n:=λx ab cL=>by have:=(k.inv.node x n ab cL).2.2;omega
 have zm:=k.inv.data n al eK;have bK:=k.Cv (λf=>by have:=pF f;omega) al;have aC:σ.held n≠0:=by omega
 obtain⟨g,aw,gG,aW⟩:=B4 k.sys.core.ps.p (f:=n) (by rw[k.dn.n];exact al) aC (by omega) (by omega);have eL:=k.sys.core.eL;have w:ct ρ h g:=ct.of aW λi _ e=>by rcases e with rfl|rfl<;>omega
 have qL:=k.sys.core.mJ gG (aW.mono λi _ e=>.inr e);refine⟨g,aw,w,⟨k.sys.own qL rfl w (λ_ _=>rfl),?_,k.dn,k.sec,k.ho⟩,aC⟩;refine k.inv.held al _ _ _ eK ?_ (λg aE=>by simp[aE]) ?_
 ·simp only[decide_true,Bool.toNat_true];omega
 ·by_cases bc:σ.held n=1
  ·rw[if_pos bc,decide_eq_false aC,decide_eq_true (show σ.held n-1=0 by omega)];simp
  ·rw[if_neg bc,decide_eq_false aC,decide_eq_false (show¬σ.held n-1=0 by omega)]
theorem akj(k:Good h X c ρ σ (λf=>0) e) :
  bN (call ai PV (.func 157 [.ptr X.M 0] []) [] h) λv g=>bG ρ h g/\∃b aG,v=.bool b/\Good g X c ρ aG (λf=>0) e/\Made c σ aG b/\(b=false->aG=σ/\∀x p,x∈σ.ax->x.T.ent p≠.zero->hE (x.T.ent p)=false):=by
 refine cF ac' rfl ?_;refine bS (MP k hE (λg x p u ab aD=>akd g _)) ?_;rintro v g1 ⟨aW,⟨rfl,gp⟩ |⟨x,p,ab,h9,f_,rfl⟩⟩
 ·simp only[hg,ak];refine b1 sO λg2 cc dS a_=> ?_
  refine cb (q6 (k:=0) (cs:=s8) cc rfl (by simp[s8]) rfl) λg3 ⟨b8,bw,eH⟩=> ?_
  simp only[fA,Bool.not_false,ak,a1,if_true];have ej:aX h g3:=aW.trans (a_.local bw (λj az e=>by omega));exact aJ.pure ⟨bG.ext ej,false,σ,rfl,k.ext ej,⟨rfl,Nat.le_refl _,Nat.le_refl _,Nat.le_succ _,rfl,by simp,jU.same rfl,Nat.le_refl _,λ_=>Nat.le_refl _⟩,λ_=>⟨rfl,gp⟩⟩
 ·simp only[hg,ak];refine b1 sO λg2 cc dS a_=> ?_
  refine cb (q6 (k:=0) (cs:=ey x.T p) cc rfl (by simp[ey,ba.vs]) rfl) λg3 ⟨b8,bw,eH⟩=> ?_
  have b8:=dC b8 rfl;have bC:aX g3 (g3.aV 7):=aF.aV _ _ _;have ej:aX h (g3.aV 7):=(aW.trans (a_.local bw (λj az e=>by omega))).trans bC;have bY:=k.ext ej;have mQ:=(bY.sys.ax x ab).field.2;rw[cT]at mQ;have mw:=k.inv.lt ab h9;have Re:bE g3 g1.next 0=some (.int .i64 (p:Nat)):=b8.rd 0;have Rf:bE g3 g1.next 5=some (.int .i64 (x.T.ent p).n):=b8.rd 5;simp only[fA,Bool.not_true,ak,a1,Bool.false_eq_true,if_false,b2,uv,Nat.zero_add,ov,cT,mQ,Et,b6,Re];have mj:=bY.zb;refine bS (R6 bY.ps (bY.lD ab) (λf aB=>(bY.inv.node x f ab aB).1) (bY.inv.tight x ab) mj (bY.EF ab) h9) ?_;rintro _ g4 ⟨rfl,b7,cf,b4,aK,fu,vP,t4,bA,qA,tF⟩;rw[k.dn.n]at fu;have aC:(x.T.ent p).here=true:=by simp[hE]at f_;exact f_.1.1
  have hm:=l1 (k.inv.kX ab h9);have kV:=k.inv.here x p ab aC;obtain⟨a,b,au⟩:=List.append_of_mem ab;have tL:=λy an=>k.inv.rZ ab aC (y:=y) an
  have K2:∀f,bJ f ba.zero=false:=λf=>rfl
  have K3:∀f,cZ f ba.zero=false:=λf=>rfl
  have IM:∀i,cZ i (x.T.ent p)=false:=λi=>by
   have:=hm.2;unfold cZ;cases aY:(x.T.ent p).out with
   |false=>rfl
   |true=>exact absurd ⟨aC,aY⟩ this
  have i4:=k.inv.ent au fu mw (λf=>(bJ f (x.T.ent p)).toNat) e (λf=>by rw[K2];simp) (λi=>by rw[IM,K3];simp) (λf h1 aa=>by
   have h0:=k.inv.rN (λf=>Int.le_refl 0) ((fu.ok.lvl _ _ f h1.choose_spec.choose_spec).2.2) (fu.new f h1 aa)
   exact⟨h0.1,rfl⟩) (λh=>absurd rfl h) (λh=>by cases h) (λh=>by cases h) (λh=>by cases h) (λh=>by cases h) (λh=>by cases h)
  have ml:=k.inv.B9 au fu (λf h1 aa=>by
   have h0:=k.inv.rN (λf=>Int.le_refl 0) ((fu.ok.lvl _ _ f h1.choose_spec.choose_spec).2.2) (fu.new f h1 aa)
   exact⟨h0.1,rfl⟩)
  have wj:fP g4 X.A x.t (nodeAt aK 0 0) aK.dX:=t4.obj;have lC:=bY.sys.table au vP wj bA;have Gz:Good g4 X c ρ {σ with mem:=b7,held:=cf,free:=b4,ax:=a++{x with T:=aK}::b} (λf=>(bJ f (x.T.ent p)).toNat) e:=⟨lC,i4,k.dn,k.sec,k.ho⟩;have Hq:=(k.sys.ax x ab).role
  have iJ:bG ρ (g3.aV 7) g4:=bG.of bA λi _ e=>by
   rcases e with e|rfl
   ·have:=k.sys.core.oi e;omega
   ·omega
  have r5:(g3.aV 7).next=g3.next+7:=rfl
  have ro:ρ g1.next=0:=k.fresh (by have:=aW.next;omega);have c5:=iJ.ca (b8.ext bC (by omega)) (by omega) ro;have s5:aX g4 (g4.aV 8):=aF.aV _ _ _;have g5:=Gz.ext s5;have jO:=g5.sys.field.1;rw[cT]at jO;have ah9:bE g4 g1.next 5=some (.int .i64 (x.T.ent p).n):=c5.rd 5;have eK:(((x.T.ent p).n.toNat:Nat) :Int)=(x.T.ent p).n:=by have:=hm.1;omega
  simp only[dh,b2,lF,ak,gK,cT,jO,yo,Nat.zero_add,lG,b6,ah9];rw[<-eK];have jk:∀f,((bJ f (x.T.ent p)).toNat:Int)<=1:=λf=>by have:=Bool.toNat_le (bJ f (x.T.ent p));omega
  obtain⟨g6,jC,hr,eG,cE⟩:=H4 (d:=λf=>((bJ f (x.T.ent p)).toNat:Int)) g5 (n:=(x.T.ent p).n.toNat) kV (λf=>by omega) (λf=>by have:=jk f;omega) (by rw[ic k.inv ab aC];simp);rw[jC];simp only[c1,dh]
  have m3:∀f,bJ f (x.T.ent p)=decide (f=(x.T.ent p).n.toNat):=λf=>by unfold bJ;rw[aC,Bool.true_and,Bool.eq_iff_iff];simp;have:=hm.1;omega
  have ng:Good g6 X c ρ _ (λf=>0) e:=⟨eG.sys,C9 eG.inv (λf=>by rw[m3];simp) (λ_=>rfl),eG.dn,eG.sec,eG.ho⟩;have hw:bG ρ h g6:=(((bG.ext (ρ:=ρ) ej).trans iJ (λ_ _=>rfl)).trans (bG.ext (ρ:=ρ) s5) (λ_ _=>rfl)).trans (bG.own hr) (λ_ _=>rfl);refine aJ.pure ⟨hw,true,_,rfl,ng,⟨?_,?_,?_,Nat.le_succ _,?_,λ_=>.inr ?_,jU.mid au rfl fu.ent h9 rfl (.inl f_),Nat.le_refl _,λal=>by rw[al x p ab]at f_;cases f_⟩,by simp⟩
  ·refine KN (a:=a) (b:=b) (x:=x) (cn:={x with T:=aK}) au rfl rfl rfl (λy q an=> ?_) (λq=> ?_)
   ·exact(ld (λ_=>rfl) (λ_=>rfl)).trans (ml.1 y q an)
   ·refine(ld (σ:={σ with mem:=b7,held:=cf,free:=b4,ax:=a++{x with T:=aK}::b}) (λ_=>rfl) (λ_=>rfl)).trans ?_;by_cases ay:q=p
    ·subst ay;have aI:aK.ent q=.zero:=by rw[fu.ent,e3]
     cases ah:bO x.L q with
     |none=>unfold cont;simp only;rw[ah]
     |some r=>
      have Nk:=k.inv.clean x q r ab f_ ah;unfold cont;simp only;rw[ah];simp only[aI,aC,if_true];show some (if false=true then _ else if false=true then _ else base c r q)=_;unfold base;rw[if_pos Nk.1,Nk.2];rfl
    ·exact ml.2 q ay
  ·show σ.free<=if cf _=1 then b4+1 else b4
   by_cases bc:cf (x.T.ent p).n.toNat=1
   ·rw[if_pos bc];omega
   ·rw[if_neg bc];omega
  ·have:=GV (mem:=b7) (held:=cf) (free:=b4) au mw fu.ent;rw[aC]at this;have lh:(ba.zero.here).toNat=0:=rfl;rw[lh]at this;show hS {σ with mem:=b7,held:=cf,free:=b4,ax:=a++{x with T:=aK}::b}<=_;simp only[Bool.toNat_true]at this;omega
  ·show(a++{x with T:=aK}::b).length=σ.ax.length;rw[au];simp
  ·have:=GV (mem:=b7) (held:=cf) (free:=b4) au mw fu.ent;rw[aC]at this;have lh:(ba.zero.here).toNat=0:=rfl;rw[lh]at this;show hS {σ with mem:=b7,held:=cf,free:=b4,ax:=a++{x with T:=aK}::b} <_;simp only[Bool.toNat_true]at this;omega
end
end
section
variable{PV:cw} [db PV]
theorem V0(i:Int) :dW ai 169 [(3,.bool true),(4,.int .i64 i)]=some (ba.mk false false false true i).dz:=by kernel_rfl
section
variable{h g:ag}{X:dQ}{c:cN}{ρ a8:Nat->Nat}{σ aG:b0}{d e:Nat->Int}
theorem aiX(k:Good h X c ρ σ (λf=>0) (λf=>0)) :
  bN (call ai PV (.func 158 [.ptr X.M 0] []) [] h) λv g=>bG ρ h g/\∃b aG,v=.bool b/\Good g X c ρ aG (λf=>0) (λf=>0)/\Made c σ aG b/\(b=false->aG=σ/\((∀x p,x∈σ.ax->x.T.ent p≠.zero->Aa σ.held (x.T.ent p)=false)\/∀i,i<c.cG->σ.bQ i≠0)):=by
 refine cF ada rfl ?_;refine b1 (ajj (cs:=[.ptr X.M 0]) rfl) λg0 qQ xU A'=> ?_
 have fD:=k.ext A';have Q4:ρ h.next=0:=k.fresh (Nat.le_refl _);simp only[lH,Obj.get qQ (i:=0) rfl,ak];refine bS (MP fD (Aa σ.held) (λg x p u ab aD=>aiW (fD.sys.ext u) (qQ.ext u (by omega)) (by have:=u.next;omega) _ (λaC=>⟨(l1 (k.inv.kX ab aD)).1,by rw[k.dn.n];exact k.inv.here x p ab aC⟩))) ?_;rintro v g1 ⟨aW,⟨rfl,gp⟩ |⟨x,p,ab,h9,f_,rfl⟩⟩
 ·simp only[hg,ak];refine b1 sO λg2 cc dS a_=> ?_
  refine cb (q6 (k:=0) (cs:=s8) cc rfl (by simp[s8]) rfl) λg3 ⟨b8,bw,eH⟩=> ?_
  simp only[fA,Bool.not_false,ak,a1,if_true];have ej:aX h g3:=(A'.trans aW).trans (a_.local bw (λj az e=>by omega));exact aJ.pure ⟨bG.ext ej,false,σ,rfl,k.ext ej,⟨rfl,Nat.le_refl _,Nat.le_refl _,Nat.le_succ _,rfl,by simp,jU.same rfl,Nat.le_refl _,λ_=>Nat.le_refl _⟩,λ_=>⟨rfl,.inl gp⟩⟩
 ·simp only[hg,ak];refine b1 sO λg2 cc dS a_=> ?_
  refine cb (q6 (k:=0) (cs:=ey x.T p) cc rfl (by simp[ey,ba.vs]) rfl) λg3 ⟨b8,bw,eH⟩=> ?_
  have b8:=dC b8 rfl;have bC:aX g3 (g3.aV 13):=aF.aV _ _ _;have mr:=aW.next;have r5:(g3.aV 13).next=g3.next+13:=rfl
  have Bb:aX g1 g3:=a_.local bw (λj az e=>by omega);have ej:aX h (g3.aV 13):=((A'.trans aW).trans Bb).trans bC;have bY:=k.ext ej;have PL:=(qQ.ext (aW.trans Bb) (by omega)).ext bC (by omega);have afT:=b8.ext bC (by omega);have eR:=bY.sys.field.1;have Ly:=Obj.get PL (i:=0) rfl;rw[cT]at eR Ly;have mw:=k.inv.lt ab h9;have Re:bE g3 g1.next 0=some (.int .i64 (p:Nat)):=b8.rd 0;have Rf:bE g3 g1.next 5=some (.int .i64 (x.T.ent p).n):=b8.rd 5;have hm:=l1 (k.inv.kX ab h9)
  have Hr:(x.T.ent p).here=true/\((x.T.ent p).write=true\/(x.T.ent p).copy=true)/\σ.held (x.T.ent p).n.toNat=1:=by simp[Aa]at f_;exact⟨f_.1.1,f_.1.2,f_.2⟩
  obtain⟨aC,_,r6⟩:=Hr;have kV:=k.inv.here x p ab aC;have NP:(x.T.ent p).n.toNat<X.A.n:=by rw[k.dn.n];exact kV
  have eK:(((x.T.ent p).n.toNat:Nat) :Int)=(x.T.ent p).n:=by have:=hm.1;omega
  simp only[fA,Bool.not_true,ak,a1,Bool.false_eq_true,if_false,lH,cT,Ly,b2,lF,gK,eR,yo,lG,Nat.zero_add,b6,Rf];rw[<-eK];obtain⟨bb,e6,bZ⟩:=Wt bY.sys.core.ps.p NP (by rw[r6];decide);rw[e6];have tJ:=bZ.next;have d_:=bY.ext bZ;have PM:=PL.ext bZ (by omega);have An:=afT.ext bZ (by omega);simp only[c1,ak,hg,dh,lH,Obj.get PM (i:=0) rfl,b2,v',Nat.zero_add,pc,d_.sys.field.2.2.2];have Hc:σ.mem (x.T.ent p).n.toNat<2^512:=bY.sys.core.ps.p.Dw NP;have abC:σ.used<=4096:=by rw[k.inv.used];exact Nat.le_trans (m0 _ _) k.cG
  have ph:=ej.trans bZ;refine bS (aiI d_.sys.core.gM d_.sys.core.ji (by rw[k.dn.first];exact k.dn.dH) Hc abC) ?_;rintro v g6 (⟨i,U,Ny,rfl,hY,d6,b3⟩ |⟨CA,rfl,aE⟩)
  ·rw[k.dn.cG]at U;rw[k.dn.first]at d6;have jZ:=d_.sys.core.Me hY d6 b3;have fa:=k.sys.core.fa;have fG:=k.sys.core.fG;have hr:ct ρ bb g6:=ct.of b3 λj _ e=>by rcases e with rfl|rfl|rfl|rfl<;>omega
   have kA:=d_.sys.own jZ rfl hr (λ_ _=>rfl);have Hs:l5 σ i=0:=by have:=k.inv.slot i U;rw[Ny]at this;omega
   have i1:=k.inv.sec (i:=i) (σ.mem (x.T.ent p).n.toNat) Hs
   have i2:=i1.1.bQ (i:=i) U 1 (σ.used+1) (λj=>(decide (j=i)).toNat) (by
    have:l5 {σ with sec:=aq σ.sec (c.first+i) (σ.mem (x.T.ent p).n.toNat)} i=l5 σ i:=rfl
    rw[this,Hs];simp) (λj az=>by simp[az]) (by
    show σ.used+1+(decide (σ.bQ i≠0)).toNat=σ.used+(decide (1≠0)).toNat
    rw[decide_eq_false (by omega)];simp)
   have YQ:Good g6 X c ρ {σ with bQ:=aq σ.bQ i 1,used:=σ.used+1,sec:=aq σ.sec (c.first+i) (σ.mem (x.T.ent p).n.toNat)} (λf=>0) (λj=>(decide (j=i)).toNat):=⟨kA,i2,k.dn,λs au=>by
    show aq σ.sec (c.first+i) _ s=_
    rw[ed _ _ (by omega)];exact k.sec s au,k.ho⟩
   have nw:aX g6 (g6.aV 9):=aF.aV _ _ _;have xu:=b3.next;have amj:(g6.aV 9).next=g6.next+9:=rfl
   have g7:=YQ.ext nw;have gJ:ρ g1.next=0:=k.fresh (by omega);have afH:=(hr.ca PM (by omega) Q4);have PR:=(hr.ca An (by omega) gJ);have afU:=PR.ext nw (by omega);have afI:=afH.ext nw (by omega);have mQ:=(g7.sys.ax x ab).field.2;rw[cT]at mQ;have ah_:bE g6 g1.next 0=some (.int .i64 (p:Nat)):=PR.rd 0;simp only[ak,hg,dc,a1];rw[if_neg (by decide)];simp only[ak,b2,uv,Nat.zero_add,ov,cT,mQ,Et,b6,ah_,V0];have qH:=(k.inv.jQ x ab).own p h9
   have abn:(ba.mk false false false true (i:Int)).may=true:=by
    have:=k.cG;have h1:(0:Int)<=(i:Int):=by omega
    have aa:(i:Int)<=1048576:=by omega
    simp[ba.may,h1,aa]
   refine bS (SA g7.ps (g7.lD ab) (λf aB=>(g7.inv.node x f ab aB).1) (g7.inv.tight x ab) g7.me (g7.EF ab) mw abn (.inr qH)) ?_;rintro _ g8 ⟨rfl,b7,cf,b4,aK,fu,Jc,t8,u8,qA,tF,Cz⟩;obtain⟨zq,cL⟩:=Cz qH;rw[k.dn.n]at fu;obtain⟨a,b,au⟩:=List.append_of_mem ab
   have oS:∀f,IsNode aK f->IsNode x.T f:=λf aB=>by obtain⟨l,q,e⟩:=aB;exact⟨l,q,by rw[<-cL];exact e⟩
   have IM:∀j,cZ j (x.T.ent p)=false:=λj=>by
    unfold cZ;cases aY:(x.T.ent p).out with
    |false=>rfl
    |true=>exact absurd ⟨aC,aY⟩ hm.2
   have i4:=g7.inv.ent au fu mw (λf=>(bJ f (x.T.ent p)).toNat) (λj=>0) (λf=>by
    have:bJ f (ba.mk false false false true (i:Int))=false:=rfl
    rw[this];simp) (λj=>by
    rw[IM]
    have:cZ j (ba.mk false false false true (i:Int))=decide (j=i):=by unfold cZ;rw[Bool.eq_iff_iff];simp;omega
    rw[this];simp) (λf h1 aa=>absurd (oS f h1) aa) (λ_=>k.inv.mc x p ab h9) (λh=>by cases h) (λ_=>by simpa using U) (λh=>by cases h) (λh=>by cases h) (λh=>by cases h)
   have ml:=g7.inv.B9 au fu (λf h1 aa=>absurd (oS f h1) aa);have wj:fP g8 X.A x.t (nodeAt aK 0 0) aK.dX:=t8.obj;have sI:=g7.sys.table au Jc wj u8;have YR:Good g8 X c ρ {σ with mem:=b7,held:=cf,free:=b4,ax:=a++{x with T:=aK}::b,bQ:=aq σ.bQ i 1,used:=σ.used+1,sec:=aq σ.sec (c.first+i) (σ.mem (x.T.ent p).n.toNat)} (λf=>(bJ f (x.T.ent p)).toNat) (λj=>0):=⟨sI,i4,k.dn,g7.sec,k.ho⟩;have Hq:=(k.sys.ax x ab).role
   have kF:bG ρ (g6.aV 9) g8:=bG.of u8 λj _ e=>by
    rcases e with e|rfl
    ·have:=k.sys.core.oi e;omega
    ·omega
   have afJ:=kF.ca afI (by omega) Q4;have afV:=kF.ca afU (by omega) gJ;have NO:=u8.next;have nx:aX g8 (g8.aV 8):=aF.aV _ _ _;have g9:=YR.ext nx;have Rg:=g9.sys.field.1;rw[cT]at Rg;have ah':bE g8 g1.next 5=some (.int .i64 (x.T.ent p).n):=afV.rd 5;have VK:=Obj.get afJ (i:=0) rfl;simp only[dh,lH,cT,VK,ak,b2,lF,gK,Rg,yo,lG,Nat.zero_add,b6,ah'];rw[<-eK];have jk:∀f,((bJ f (x.T.ent p)).toNat:Int)<=1:=λf=>by have:=Bool.toNat_le (bJ f (x.T.ent p));omega
   obtain⟨g10,XG,pn,n4,cE⟩:=H4 (d:=λf=>((bJ f (x.T.ent p)).toNat:Int)) g9 (n:=(x.T.ent p).n.toNat) kV (λf=>by omega) (λf=>by have:=jk f;omega) (by rw[ic k.inv ab aC];simp);rw[XG];simp only[c1,dh]
   have m3:∀f,bJ f (x.T.ent p)=decide (f=(x.T.ent p).n.toNat):=λf=>by unfold bJ;rw[aC,Bool.true_and,Bool.eq_iff_iff];simp;have:=hm.1;omega
   have De:Good g10 X c ρ _ (λf=>0) (λf=>0):=⟨n4.sys,C9 n4.inv (λf=>by rw[m3];simp) (λ_=>rfl),n4.dn,n4.sec,n4.ho⟩;have tL:=k.inv.rZ ab aC ab;have aaT:¬IsNode aK (x.T.ent p).n.toNat:=λaB=>tL (oS _ aB)
   have aaG:=fu.other _ tL aaT;have xn:cf (x.T.ent p).n.toNat=1:=by rw[aaG.2];exact r6
   have eT:(if cf (x.T.ent p).n.toNat=1 then b4+1 else b4)=σ.free+1:=by rw[if_pos xn,zq]
   have hw:bG ρ h g10:=((((bG.ext (ρ:=ρ) ph).trans (bG.own hr) (λ_ _=>rfl)).trans (bG.ext (ρ:=ρ) nw) (λ_ _=>rfl)).trans kF (λ_ _=>rfl)).trans ((bG.ext (ρ:=ρ) nx).trans (bG.own pn) (λ_ _=>rfl)) (λ_ _=>rfl);have gD:=GV (σ:={σ with bQ:=aq σ.bQ i 1,used:=σ.used+1,sec:=aq σ.sec (c.first+i) (σ.mem (x.T.ent p).n.toNat)}) (mem:=b7) (held:=cf) (free:=b4) au mw fu.ent;rw[aC]at gD;have XW:((ba.mk false false false true (i:Int)).here).toNat=0:=rfl;rw[XW]at gD;have alQ:hS {σ with mem:=b7,held:=cf,free:=b4,ax:=a++{x with T:=aK}::b,bQ:=aq σ.bQ i 1,used:=σ.used+1,sec:=aq σ.sec (c.first+i) (σ.mem (x.T.ent p).n.toNat)} +1=hS σ:=gD;refine aJ.pure ⟨hw,true,_,rfl,De,⟨?_,?_,?_,Nat.le_refl _,?_,λ_=>.inl ?_,jU.mid au rfl fu.ent h9 rfl (.inr rfl),Nat.le_refl _,λ_=> ?_⟩,by simp⟩
   ·have v1:view c {σ with bQ:=aq σ.bQ i 1,used:=σ.used+1,sec:=aq σ.sec (c.first+i) (σ.mem (x.T.ent p).n.toNat)}=view c σ:=uC rfl (λy q an=>i1.2 y q an);rw[<-v1];refine KN (a:=a) (b:=b) (x:=x) (cn:={x with T:=aK}) au rfl rfl rfl (λy q an=> ?_) (λq=> ?_)
    ·exact(ld (λ_=>rfl) (λ_=>rfl)).trans (ml.1 y q an)
    ·refine(ld (σ:={σ with mem:=b7,held:=cf,free:=b4,ax:=a++{x with T:=aK}::b,bQ:=aq σ.bQ i 1,used:=σ.used+1,sec:=aq σ.sec (c.first+i) (σ.mem (x.T.ent p).n.toNat)}) (λ_=>rfl) (λ_=>rfl)).trans ?_;by_cases ay:q=p
     ·subst ay;have aI:aK.ent q=ba.mk false false false true (i:Int):=by rw[fu.ent,e3]
      cases ah:bO x.L q with
      |none=>unfold cont;simp only;rw[ah]
      |some r=>
       unfold cont;simp only;rw[ah];simp only[aI,aC,if_true];show some (if false=true then _ else if true=true then aq σ.sec (c.first+i) (σ.mem (x.T.ent q).n.toNat) (c.first+((i:Int)).toNat)else base c r q)=_;rw[if_neg (by decide),if_pos rfl,Int.toNat_natCast,e3]
     ·exact ml.2 q ay
   ·show σ.free<=if cf _=1 then b4+1 else b4
    rw[eT];omega
   ·show hS {σ with mem:=b7,held:=cf,free:=b4,ax:=a++{x with T:=aK}::b,bQ:=aq σ.bQ i 1,used:=σ.used+1,sec:=aq σ.sec (c.first+i) (σ.mem (x.T.ent p).n.toNat)}<=_;omega
   ·show(a++{x with T:=aK}::b).length=σ.ax.length;rw[au];simp
   ·show σ.free<if cf _=1 then b4+1 else b4
    rw[eT];omega
   ·show hS σ+σ.used<=hS {σ with mem:=b7,held:=cf,free:=b4,ax:=a++{x with T:=aK}::b,bQ:=aq σ.bQ i 1,used:=σ.used+1,sec:=aq σ.sec (c.first+i) (σ.mem (x.T.ent p).n.toNat)} +(σ.used+1);omega
  ·subst aE;simp only[ak,hg,dc,a1];rw[if_pos (by decide)];rw[k.dn.cG]at CA;exact aJ.pure ⟨bG.ext ph,false,σ,rfl,d_,⟨rfl,Nat.le_refl _,Nat.le_refl _,Nat.le_succ _,rfl,by simp,jU.same rfl,Nat.le_refl _,λ_=>Nat.le_refl _⟩,λ_=>⟨rfl,.inr CA⟩⟩
end
end
section
variable{PV:cw} [db PV]
def Dx(M:Nat) :J:=.agg [.func 156 [.ptr M 0] [],.func 157 [.ptr M 0] [],.func 158 [.ptr M 0] []]
theorem V7(M:Nat) :dW ai 269 [(0,(.func 156 [.ptr M 0] [])),(1,(.func 157 [.ptr M 0] [])),(2,(.func 158 [.ptr M 0] []))]=some (Dx M):=by kernel_rfl
theorem acj(M:Nat) :jn ai 269 (Dx M) (.int .i64 ((0:Nat) :Int))=some (.func 156 [.ptr M 0] []):=by kernel_rfl
theorem ack(M:Nat) :jn ai 269 (Dx M) (.int .i64 ((1:Nat) :Int))=some (.func 157 [.ptr M 0] []):=by kernel_rfl
theorem acm(M:Nat) :jn ai 269 (Dx M) (.int .i64 ((2:Nat) :Int))=some (.func 158 [.ptr M 0] []):=by kernel_rfl
structure Idle(c:cN)(σ aG:b0) :Prop where
 ax:aG.ax=σ.ax
 held:aG.held=σ.held
 free:aG.free=σ.free
 used:aG.used=σ.used
 bQ:aG.bQ=σ.bQ
 view:view c aG=view c σ
 ring:aG.ring.length<=σ.ring.length
def pt(c:cN)(σ:b0) :Prop:=(∀x p,x∈σ.ax->x.T.ent p≠.zero->hE (x.T.ent p)=false)/\((∀x p,x∈σ.ax->x.T.ent p≠.zero->Aa σ.held (x.T.ent p)=false)\/∀i,i<c.cG->σ.bQ i≠0)
theorem Idle.made{c:cN}{a b d:b0}{t:Bool}(i:Idle c a b)(m:Made c b d t) :Made c a d t:=by
 have aC:hS b=hS a:=by unfold hS;rw[i.ax]
 refine⟨m.view.trans i.view,by rw[<-i.free];exact m.free,by rw[<-aC];exact m.here,by rw[<-i.used];exact m.used,by rw[m.len,i.ax],λh=> ?_,(jU.same i.ax).trans m.sub,Nat.le_trans m.ring i.ring,λal=>by rw[<-aC,<-i.used];exact m.sum (by rw[i.ax];exact al)⟩;rw[<-i.free,<-aC];exact m.go h
theorem Idle.of{c:cN}{a b:b0}(i:Idle c a b) :Made c a b false:=by
 have aC:hS b=hS a:=by unfold hS;rw[i.ax]
 exact⟨i.view,by rw[i.free];exact Nat.le_refl _,by rw[aC];exact Nat.le_refl _,by rw[i.used];exact Nat.le_succ _,by rw[i.ax],by simp,jU.same i.ax,i.ring,λ_=>by rw[aC,i.used];exact Nat.le_refl _⟩
section
variable{h g:ag}{X:dQ}{c:cN}{ρ a8:Nat->Nat}{σ aG:b0}
theorem Ps(k:Good h X c ρ σ (λf=>0) (λf=>0)) :
  bN (call ai PV (.func 81 [] []) [.ptr X.M 0] h) λv g=>bG ρ h g/\∃b aG,v=.bool b/\Good g X c ρ aG (λf=>0) (λf=>0)/\Made c σ aG b/\(b=false->Idle c σ aG/\pt c aG):=by
 refine cF aev rfl ?_;rw[V7];simp only[ak]
 refine gW (n:=14) (I:=λi vs g=>vs=[.bool false,.int .i64 (i:Nat)]/\bG ρ h g/\∃aG,Good g X c ρ aG (λf=>0) (λf=>0)/\Idle c σ aG/\i<=3/\(2<=i->∀x p,x∈aG.ax->x.T.ent p≠.zero->hE (x.T.ent p)=false)/\(3<=i->pt c aG)) (m:=3)
  (P:=λx vs g=>x=.exit 0/\bG ρ h g/\∃b aG d,vs=[.bool b,d]/\Good g X c ρ aG (λf=>0) (λf=>0)/\Made c σ aG b/\(b=false->Idle c σ aG/\pt c aG)) (by decide) ⟨rfl,bG.ext (aF.refl _ _),σ,k,⟨rfl,rfl,rfl,rfl,rfl,rfl,Nat.le_refl _⟩,by omega,λh=>absurd h (by decide),λh=>absurd h (by decide)⟩ ?_ ?_
 ·rintro i _ h1 U ⟨rfl,aW,aT,a',nb,Nz,f_,dy⟩;simp only[bn,bd,cQ,ak,a1];by_cases bc:(i:Int) <3
  ·rw[if_pos (by simpa using bc)];have aw:bF .i64 ((i:Int) +1)=((i+1:Nat) :Int):=by rw[wrap_i64 (by omega) (by omega)];omega
   have u_:i=0\/i=1\/i=2:=by omega
   rcases u_ with rfl|rfl|rfl
   ·rw[acj];simp only[ak];refine bS (X4 a' (λf=>Int.le_refl 0)) ?_;rintro v g2 ⟨dV,b,b_,rfl,bR,cM,af⟩;simp only[a1];cases b with
    |true=>
     rw[if_pos rfl];exact aJ.pure (.inr ⟨by simp,rfl,aW.trans dV (λ_ _=>rfl),true,b_,_,rfl,bR,nb.made cM,by simp⟩)
    |false=>
     rw[if_neg (by decide)];simp only[cP,aw,ak];obtain⟨gh,gi,hH,g_,jt,pW⟩:=af rfl;exact aJ.pure (.inl ⟨rfl,by omega,rfl,aW.trans dV (λ_ _=>rfl),b_,bR,⟨gh.trans nb.ax,hH.trans nb.held,pW.trans nb.free,g_.trans nb.used,jt.trans nb.bQ,cM.view.trans nb.view,Nat.le_trans cM.ring nb.ring⟩,by omega,λh=>absurd h (by decide),λh=>absurd h (by decide)⟩)
   ·rw[ack];simp only[ak];refine bS (akj a') ?_;rintro v g2 ⟨dV,b,b_,rfl,bR,cM,af⟩;simp only[a1];cases b with
    |true=>
     rw[if_pos rfl];exact aJ.pure (.inr ⟨by simp,rfl,aW.trans dV (λ_ _=>rfl),true,b_,_,rfl,bR,nb.made cM,by simp⟩)
    |false=>
     rw[if_neg (by decide)];simp only[cP,aw,ak];obtain⟨rfl,gi⟩:=af rfl;exact aJ.pure (.inl ⟨rfl,by omega,rfl,aW.trans dV (λ_ _=>rfl),b_,bR,nb,by omega,λ_=>gi,λh=>absurd h (by decide)⟩)
   ·rw[acm];simp only[ak];refine bS (aiX a') ?_;rintro v g2 ⟨dV,b,b_,rfl,bR,cM,af⟩;simp only[a1];cases b with
    |true=>
     rw[if_pos rfl];exact aJ.pure (.inr ⟨by simp,rfl,aW.trans dV (λ_ _=>rfl),true,b_,_,rfl,bR,nb.made cM,by simp⟩)
    |false=>
     rw[if_neg (by decide)];simp only[cP,aw,ak];obtain⟨rfl,gi⟩:=af rfl;exact aJ.pure (.inl ⟨rfl,by omega,rfl,aW.trans dV (λ_ _=>rfl),b_,bR,nb,by omega,λ_=>f_ (by decide),λ_=>⟨f_ (by decide),gi⟩⟩)
  ·rw[if_neg (by simpa using bc)];exact aJ.pure (.inr ⟨by simp,rfl,aW,false,aT,_,rfl,a',nb.of,λ_=>⟨nb,dy (by omega)⟩⟩)
 ·rintro x vs g ⟨rfl,aW,b,aG,d,rfl,a',cA,af⟩;simp only[bn,bd,fZ,if_true];exact aJ.pure ⟨aW,b,aG,rfl,a',cA,af⟩
end
end
section
variable{PV:cw} [db PV]
def qu(p b:Int) :Bool:=decide (l_ .i64 p b≠0)
def kh(perm use:Int) :Bool:=if use=1 then qu perm 4 else if use=2 then qu perm 2 else if use=3 then qu perm 1 else false
def hQ(r:aH)(there:Bool)(s:ba)(use shared:Int) :Int:=
 if there=false\/kh r.perm use=false then 2 else if s.out=true then 5 else if s.here=false then(if r.kind=1 then 3 else 4)else if use≠2\/s.write=true then 1 else if s.copy=true/\shared<=1 then 7 else 6
def h4(r:aH)(act n:Int) :ba:=if act=3 then⟨true,false,false,false,n⟩else if act=4\/act=5\/act=6\/act=7 then⟨true,qu r.perm 2, !qu r.perm 2,false,n⟩else .zero
theorem Lu(h:ag) :bN (call ai PV (.func 250 [] []) [] h) λv g=>v=.agg [.int .i64 0,.int .i64 4,.int .i64 2,.int .i64 1]/\aX h g:=by
 refine cF adW rfl ?_;refine b1 q0 λg1 bU dF aW=> ?_
 have af:dW ai 22 [(0,.int .i64 0),(1,.int .i64 4),(2,.int .i64 2),(3,.int .i64 1)]=some (.agg [.int .i64 0,.int .i64 4,.int .i64 2,.int .i64 1]):=by kernel_rfl
 rw[af,ak];refine cb (sX (cs:=[.int .i64 0,.int .i64 4,.int .i64 2,.int .i64 1]) bU rfl (by simp) rfl) λg2 ⟨cc,a_,dS⟩=> ?_
 have cc:=dC cc rfl;rw[A3 cc (by simp)];exact aJ.pure ⟨rfl,aW.local a_ (λi U e=>by omega)⟩
theorem Vy(h:ag)(perm use:Int) :bN (call ai PV (.func 166 [] []) [.int .i64 perm,.int .i64 use] h) λv g=>v=.bool (kh perm use)/\aX h g:=by
 refine cF adk rfl ?_;simp only[hO,ak];by_cases bc:0<use
 ·simp only[decide_eq_true bc,cJ,if_true]
  refine fV (P:=λx vs g=>x=.normal/\vs=[.bool (decide (use<4))]/\aX h g) (bS (Lu h) λv g ⟨cm,u⟩=>by
   simp only[cQ,ak]
   exact aJ.pure ⟨rfl,rfl,u⟩) ?_
  rintro _ _ g ⟨rfl,rfl,u⟩;simp only[bn,bd,cB,if_true,ak];by_cases bW:use<4
  ·simp only[decide_eq_true bW,cJ,if_true];refine fV (P:=λx vs g=>x=.normal/\vs=[.bool (kh perm use)]/\aX h g) (bS (Lu g) λv bH ⟨cm,dD⟩=> ?_) ?_
   ·subst cm
    have U:jn ai 22 (.agg [.int .i64 0,.int .i64 4,.int .i64 2,.int .i64 1]) (.int .i64 use)=some (.int .i64 (if use=1 then 4 else if use=2 then 2 else 1)):=by rcases(by omega:use=1\/use=2\/use=3)with rfl|rfl|rfl<;>kernel_rfl
    simp only[U,ak,Fx,dc];refine aJ.pure ⟨rfl,?_,u.trans dD⟩;rcases(by omega:use=1\/use=2\/use=3)with rfl|rfl|rfl<;>rfl
   ·rintro _ _ bH ⟨rfl,rfl,dD⟩;simp only[bn,bd,cB,if_true,ak];exact aJ.pure ⟨rfl,dD⟩
  ·simp only[decide_eq_false bW,cJ,Bool.false_eq_true,if_false,cO,bn,bd,cB,ak];refine aJ.pure ⟨?_,u⟩;unfold kh;rw[if_neg (by omega),if_neg (by omega),if_neg (by omega)];rfl
 ·simp only[decide_eq_false bc,cJ,Bool.false_eq_true,if_false,cO,bn,bd,cB,ak];refine aJ.pure ⟨?_,aF.refl _ _⟩;unfold kh;rw[if_neg (by omega),if_neg (by omega),if_neg (by omega)];rfl
theorem Xu(h:ag)(r:aH)(there:Bool)(s:ba)(use shared:Int) :bN (call ai PV (.func 89 [] []) [.agg r.vs,.bool there,s.dz,.int .i64 use,.int .i64 shared] h) λv g=>v=.int .i64 (hQ r there s use shared)/\aX h g:=by
 refine cF aeB rfl ?_;refine b1 (o_ (cs:=r.vs) rfl) λg1 bU dF aW=> ?_
 refine b1 (sP (cs:=s.vs) rfl) λg2 cc dS a_=> ?_
 have eA:=bU.ext a_ (by omega);have hp:=aW.trans a_;simp only[fA,ak];refine fV (P:=λx vs g=>x=.normal/\vs=[if there=true then .bool (!kh r.perm use)else .undef]/\aX g2 g) ?_ ?_
 ·cases there
  ·simp only[Bool.not_false,cJ,Bool.true_eq_false,if_false];exact aJ.pure ⟨rfl,rfl,aF.refl _ _⟩
  ·simp only[Bool.not_true,cJ,if_true,Ew,Nat.zero_add,b6,Obj.get eA (i:=2) rfl,ak];refine bS (Vy g2 r.perm use) ?_;rintro _ g ⟨rfl,u⟩;simp only[fA,ak];exact aJ.pure ⟨rfl,rfl,u⟩
 ·rintro _ _ g ⟨rfl,rfl,u⟩;have DG:=cc.ext u (by omega);have afM:=eA.ext u (by omega);have akb:=hp.trans u;have eR:=Obj.get DG (i:=0) rfl;have s1:=Obj.get DG (i:=1) rfl;have s2:=Obj.get DG (i:=2) rfl;have du:=Obj.get DG (i:=3) rfl;have dG:=Obj.get afM (i:=3) rfl
  have aD:iX (.bool (!there)) (.bool true) (if there=true then .bool (!kh r.perm use)else .undef)=some (.bool (decide (there=false\/kh r.perm use=false))):=by cases there<;>cases kh r.perm use<;>rfl
  have fin:∀n,n=hQ r there s use shared->aJ (some (.ret,[J.int .i64 n],g)) λ_ vs bH=>iY vs=.int .i64 (hQ r there s use shared)/\aX h bH:=λn al=>aJ.pure ⟨by rw[<-al];rfl,akb⟩
  simp only[bn,bd,aD,ak,a1,decide_eq_true_eq];by_cases bc:there=false\/kh r.perm use=false
  ·rw[if_pos bc];exact fin 2 (by unfold hQ;rw[if_pos bc])
  ·rw[if_neg bc];by_cases oR:s.out=true
   ·rw[oR]at du;simp only[k4,ns,nt,q2,o',Nat.zero_add,b6,kB,eR,s1,s2,du,dG,ak,a1,fA,cJ,cO,bn,bd,cB,c2,dc,h2,Bool.not_true,Bool.not_false,Bool.false_eq_true,Bool.true_eq_false,if_true,if_false,decide_true,decide_false];exact fin 5 (by unfold hQ;simp[bc,oR])
   have oR:s.out=false:=by simpa using oR
   rw[oR]at du;by_cases aC:s.here=false
   ·rw[aC]at eR;by_cases lP:r.kind=1
    ·rw[lP]at dG;simp only[k4,ns,nt,q2,o',Nat.zero_add,b6,kB,eR,s1,s2,du,dG,ak,a1,fA,cJ,cO,bn,bd,cB,c2,dc,h2,Bool.not_true,Bool.not_false,Bool.false_eq_true,Bool.true_eq_false,if_true,if_false,decide_true,decide_false];exact fin 3 (by unfold hQ;simp[bc,oR,aC,lP])
    ·simp only[k4,ns,nt,q2,o',Nat.zero_add,b6,kB,eR,s1,s2,du,dG,ak,a1,fA,cJ,cO,bn,bd,cB,c2,dc,h2,Bool.not_true,Bool.not_false,Bool.false_eq_true,Bool.true_eq_false,if_true,if_false,decide_true,decide_false,lP];exact fin 4 (by unfold hQ;simp[bc,oR,aC,lP])
   have aC:s.here=true:=by simpa using aC
   rw[aC]at eR;by_cases rF:use=2
   ·subst rF;by_cases hw:s.write=true
    ·rw[hw]at s1;simp only[k4,ns,nt,q2,o',Nat.zero_add,b6,kB,eR,s1,s2,du,dG,ak,a1,fA,cJ,cO,bn,bd,cB,c2,dc,h2,Bool.not_true,Bool.not_false,Bool.false_eq_true,Bool.true_eq_false,if_true,if_false,decide_true,decide_false,ne_eq,not_true];exact fin 1 (by unfold hQ;simp[bc,oR,aC,hw])
    have hw:s.write=false:=by simpa using hw
    rw[hw]at s1;by_cases qw:s.copy=true
    ·rw[qw]at s2;by_cases cs:shared<=1
     ·simp only[k4,ns,nt,q2,o',Nat.zero_add,b6,kB,eR,s1,s2,du,dG,ak,a1,fA,cJ,cO,bn,bd,cB,c2,dc,h2,Bool.not_true,Bool.not_false,Bool.false_eq_true,Bool.true_eq_false,if_true,if_false,decide_true,decide_false,ne_eq,not_true,cs];exact fin 7 (by unfold hQ;simp[bc,oR,aC,hw,qw,cs])
     ·simp only[k4,ns,nt,q2,o',Nat.zero_add,b6,kB,eR,s1,s2,du,dG,ak,a1,fA,cJ,cO,bn,bd,cB,c2,dc,h2,Bool.not_true,Bool.not_false,Bool.false_eq_true,Bool.true_eq_false,if_true,if_false,decide_true,decide_false,ne_eq,not_true,cs];exact fin 6 (by unfold hQ;simp[bc,oR,aC,hw,qw,cs])
    have qw:s.copy=false:=by simpa using qw
    rw[qw]at s2;simp only[k4,ns,nt,q2,o',Nat.zero_add,b6,kB,eR,s1,s2,du,dG,ak,a1,fA,cJ,cO,bn,bd,cB,c2,dc,h2,Bool.not_true,Bool.not_false,Bool.false_eq_true,Bool.true_eq_false,if_true,if_false,decide_true,decide_false,ne_eq,not_true];exact fin 6 (by unfold hQ;simp[bc,oR,aC,hw,qw])
   ·simp only[k4,ns,nt,q2,o',Nat.zero_add,b6,kB,eR,s1,s2,du,dG,ak,a1,fA,cJ,cO,bn,bd,cB,c2,dc,h2,Bool.not_true,Bool.not_false,Bool.false_eq_true,Bool.true_eq_false,if_true,if_false,decide_true,decide_false,ne_eq,rF,not_false_iff];exact fin 1 (by unfold hQ;simp[bc,oR,aC,rF])
theorem V1(w v:Bool)(n:Int) :dW ai 169 [(0,.bool true),(1,.bool w),(2,.bool v),(4,.int .i64 n)]=some (ba.mk true w v false n).dz:=by kernel_rfl
theorem V2(n:Int) :dW ai 169 [(0,.bool true),(4,.int .i64 n)]=some (ba.mk true false false false n).dz:=by kernel_rfl
theorem Yd(h:ag)(r:aH)(act n:Int) :bN (call ai PV (.func 249 [] []) [.agg r.vs,.int .i64 act,.int .i64 n] h) λv g=>v=(h4 r act n).dz/\aX h g:=by
 refine cF adV rfl ?_;refine b1 (o_ (cs:=r.vs) rfl) λg1 bU dF aW=> ?_
 refine b1 sN λg2 cc dS a_=> ?_
 have eA:=bU.ext a_ (by omega);have hp:=aW.trans a_
 have fin:∀s:ba,s=h4 r act n->aJ (cd (dU ai g2 169 (.ptr g1.next 0) s.dz) λav=>cd (dJ ai av 169 (.ptr g1.next 0)) λv9=>some (.ret,[v9],av)) λ_ vs bH=>iY vs=(h4 r act n).dz/\aX h bH:=λs au=>by
  refine cb (pe (cs:=s.vs) cc rfl (by simp[ba.vs]) rfl) λg3 ⟨b8,bw,eH⟩=> ?_
  have b8:=dC b8 rfl;rw[jG b8];exact aJ.pure ⟨by rw[au];rfl,hp.local bw (λi U e=>by omega)⟩
 have Zv:∀p:Int,decide (l_ .i64 p 2≠0)=qu p 2:=λp=>rfl
 simp only[Ew,Nat.zero_add,b6,Obj.get eA (i:=2) rfl,ak,Fx,dc,Zv,c2,a1,decide_eq_true_eq];unfold h4 at fin|-;by_cases dA:act=3
 ·rw[if_pos dA,V2,ak];exact fin _ (by rw[if_pos dA])
 ·rw[if_neg dA];rw[if_neg dA]at fin|-;refine fV (P:=λx vs g=>x=.normal/\g2=g/\vs=[.bool (decide (act=4\/act=5\/act=6\/act=7))]) ?_ ?_
  ·by_cases e5:act=4
   ·rw[if_pos e5];exact aJ.pure ⟨rfl,rfl,by simp[e5]⟩
   rw[if_neg e5];by_cases kk:act=5
   ·rw[if_pos kk];exact aJ.pure ⟨rfl,rfl,by simp[kk]⟩
   rw[if_neg kk];by_cases jZ:act=6
   ·rw[if_pos jZ];exact aJ.pure ⟨rfl,rfl,by simp[jZ]⟩
   rw[if_neg jZ];exact aJ.pure ⟨rfl,rfl,by simp[e5,kk,jZ]⟩
  ·rintro _ _ _ ⟨rfl,rfl,rfl⟩;simp only[bn,bd,hf,a1,decide_eq_true_eq];by_cases c:act=4\/act=5\/act=6\/act=7
   ·rw[if_pos c];simp only[fA,ak,V1];exact fin _ (by rw[if_pos c])
   ·rw[if_neg c,px,ak];exact fin _ (by rw[if_neg c])
end
section
variable{PV:cw} [db PV]
def mO(σ:b0)(s:ba) :Int:=if s.here=true then(σ.held s.n.toNat:Int)else if s.out=true then(σ.bQ s.n.toNat:Int)else 0
section
variable{h g:ag}{X:dQ}{c:cN}{ρ a8:Nat->Nat}{σ aG:b0}{d e:Nat->Int}
theorem ail(k:Sys h X ρ σ){x:bD}(ab:x∈σ.ax)(s:ba)(h1:s.here=true->0<=s.n/\s.n.toNat<X.A.n)(aa:s.out=true->0<=s.n/\s.n.toNat<X.R.cG) :
  bN (call ai PV (.func 164 [] []) [.ptr x.s 0,s.dz] h) λv g=>v=.int .i64 (mO σ s)/\aX h g:=by
 refine cF adi rfl ?_;refine b1 (sP (cs:=s.vs) rfl) λg1 o dF u=> ?_
 have bC:aX g1 (g1.aV 11):=aF.aV _ _ _;have a':=(k.ext u).ext bC;have eR:=(a'.ax x ab).field.1;have so:=a'.field.1;have dt:=a'.field.2.2.2;rw[cT]at eR so dt;have r0:=Obj.get o (i:=0) rfl;have dG:=Obj.get o (i:=3) rfl;have eu:=Obj.get o (i:=4) rfl;simp only[k4,q2,lG,Nat.zero_add,kB,r0,dG,ak,a1];by_cases bc:s.here=true
 ·have al:=h1 bc;have eK:((s.n.toNat:Nat) :Int)=s.n:=by have:=al.1;omega
  have y1:=Cw a'.core.ps.p al.2;rw[eK]at y1;rw[if_pos bc];simp only[b2,q1,lF,ak,lH,gK,b6,cT,eR,so,eu,y1,c1,dh];exact aJ.pure ⟨by simp[mO,bc,iY],u.trans bC⟩
 ·rw[if_neg bc];by_cases bW:s.out=true
  ·have al:=aa bW;have eK:((s.n.toNat:Nat) :Int)=s.n:=by have:=al.1;omega
   have y1:=Rz a'.core.gM al.2;rw[eK]at y1;rw[if_pos bW];simp only[b2,q1,v',Nat.zero_add,ak,lH,pc,b6,cT,eR,dt,eu,y1,c1,dh];exact aJ.pure ⟨by simp[mO,bc,bW,iY],u.trans bC⟩
  ·rw[if_neg bW];exact aJ.pure ⟨by simp[mO,bc,bW,iY],u⟩
theorem JI(k:Good h X c ρ σ d e)(ao:∀f,0<=d f){x:bD}(ab:x∈σ.ax){m:Nat}(hm:m<2^512)(aB:0<σ.free) :
  bN (call ai PV (.func 247 [] []) [.ptr x.s 0,.str 64 m] h) λv g=>ct ρ h g/\∃fr,v=.int .i64 (fr:Nat)/\fr<c.n/\σ.held fr=0/\refs σ fr=0/\(∀y,y∈σ.ax->¬IsNode y.T fr)/\
   Good g X c ρ {σ with mem:=aq σ.mem fr m,held:=aq σ.held fr 1,free:=σ.free-1} (λg=>d g+(decide (g=fr)).toNat) e:=by
 refine cF adT rfl ?_;have eL:=k.sys.core.eL;obtain⟨fr,f1,f2,g1,aw,gG,aW⟩:=En k.sys.core.ps.p k.me aB;have bV:ct ρ h g1:=ct.of aW λi _ e=>by have:=k.sys.core.oi e;omega
 have bc:=k.sys.core.mJ gG (aW.mono λi _ e=>e);have s1:=k.sys.own bc rfl bV (λ_ _=>rfl);obtain⟨g2,aL,fz,a_⟩:=MK s1.core.ps.p f1 (m:=m) (by simp[aq]) hm;have dV:ct ρ g1 g2:=ct.of a_ λi _ e=>by subst e;omega
 have bW:=s1.core.mJ fz (a_.mono λi _ e=>.inl e);have s2:=s1.own bW rfl dV (λ_ _=>rfl);simp only[b2,q1,lF,ak,lH,gK,(k.sys.ax x ab).field.1,k.sys.field.1,aw,c1,hg,(s1.ax x ab).field.1,s1.field.1,aL];rw[k.dn.n]at f1;have al:=k.inv.rN ao f1 f2;have i1:=k.inv.fill m al.1 al.2.2
 have i2:=i1.held (f:=fr) f1 1 (σ.free-1) (λg=>d g+(decide (g=fr)).toNat) al.2.2 (by
  have:refs {σ with mem:=aq σ.mem fr m} fr=refs σ fr:=rfl
  rw[this,al.1,al.2.1];simp) (λg aE=>by simp[aE]) (by
  show σ.free-1+(decide (σ.held fr=0)).toNat=σ.free+(decide (1=0)).toNat;rw[decide_eq_true f2];show σ.free-1+1=σ.free+0
  omega)
 have du:Sys g2 X ρ {σ with mem:=aq σ.mem fr m,held:=aq σ.held fr 1,free:=σ.free-1}:=by simp only[KE]at s2;exact s2
 exact aJ.pure ⟨bV.trans dV (λ_ _=>rfl),fr,rfl,f1,f2,al.1,al.2.2,du,i2,k.dn,k.sec,k.ho⟩
theorem aii(k:Good h X c ρ σ d e){a b:List bD}{x:bD}(au:σ.ax=a++x::b){p:Nat}(aD:p<4096){s:ba}(hm:s.may=true)(iB:3<=σ.free\/x.T.aZ 3 (p/8)≠none)(zn:(∀f,0<=d f)\/x.T.aZ 3 (p/8)≠none)
  (eC cR:Nat->Int) (ao:∀f,eC f=d f+(bJ f (x.T.ent p)).toNat-(bJ f s).toNat) (he:∀i,cR i=e i+(cZ i (x.T.ent p)).toNat-(cZ i s).toNat)
  (bW:bO x.L p≠none) (dA:s.here=true->s.n.toNat<c.n/\(∀y,y∈σ.ax->¬IsNode y.T s.n.toNat)/\σ.held s.n.toNat≠0) (e5:s.out=true->s.n.toNat<c.cG)
  (kk:s.here=true->s.write=true->refs σ s.n.toNat=(bJ s.n.toNat (x.T.ent p)).toNat)
  (jZ:s.here=true->bJ s.n.toNat (x.T.ent p)=false->∀y q,y∈σ.ax->(y.T.ent q).here=true->(y.T.ent q).write=true->(y.T.ent q).n.toNat≠s.n.toNat)
  (mZ:hE s=true->∀r,bO x.L p=some r->r.kind=1/\c.hy r.file (r.bq+p-r.lo)=some (σ.mem s.n.toNat)) :
  bN (call ai PV (.func 109 [] []) [.ptr x.t 0,.int .i64 p,s.dz] h) λv g=>bG ρ h g/\∃b7 cf b4 aK,aK.ent=aq x.T.ent p s/\Good g X c ρ {σ with mem:=b7,held:=cf,free:=b4,ax:=a++{x with T:=aK}::b} eC cR/\
   σ.free<=b4+3/\b4<=σ.free/\(x.T.aZ 3 (p/8)≠none->b4=σ.free/\aK.aZ=x.T.aZ)/\
   (∀y q,y∈a++b->cont c {σ with mem:=b7,held:=cf,free:=b4,ax:=a++{x with T:=aK}::b} y q=cont c σ y q)/\
   (∀q,q≠p->cont c {σ with mem:=b7,held:=cf,free:=b4,ax:=a++{x with T:=aK}::b} {x with T:=aK} q=cont c σ x q)/\
   (s.here=true->b7 s.n.toNat=σ.mem s.n.toNat)/\(∀f,¬IsNode x.T f->σ.held f≠0->b7 f=σ.mem f/\cf f=σ.held f):=by
 have ab:x∈σ.ax:=by rw[au];simp
 refine bN.mono (SA k.ps (k.lD ab) (λf aB=>(k.inv.node x f ab aB).1) (k.inv.tight x ab) k.me (k.EF ab) aD hm iB) ?_;rintro _ g ⟨rfl,b7,cf,b4,aK,fu,gG,t1,aW,qA,tF,Cz⟩;rw[k.dn.n]at fu
 have fw:∀f,IsNode aK f->¬IsNode x.T f->refs σ f=0/\d f=0:=λf h1 aa=>by
  rcases zn with zn|zn
  ·have h0:=k.inv.rN zn ((fu.ok.lvl _ _ f h1.choose_spec.choose_spec).2.2) (fu.new f h1 aa);exact⟨h0.1,h0.2.1⟩
  ·obtain⟨l,q,e⟩:=h1;exact absurd ⟨l,q,by rw[<-(Cz zn).2];exact e⟩ aa
 have eK:∀f,¬IsNode x.T f->σ.held f≠0->¬IsNode aK f:=λf h1 aa av=>aa (fu.new f av h1)
 have i1:=k.inv.ent au fu aD eC cR ao he fw (λ_=>.inl bW) (λaC=>⟨(dA aC).1,(dA aC).2.1,eK _ ((dA aC).2.1 x ab) (dA aC).2.2⟩) e5 kk jZ mZ;have ml:=k.inv.B9 au fu fw;have wj:fP g X.A x.t (nodeAt aK 0 0) aK.dX:=t1.obj;have s1:=k.sys.table au gG wj aW;have Hq:=(k.sys.ax x ab).role;refine⟨bG.of aW λi _ e=> ?_,b7,cf,b4,aK,fu.ent,⟨s1,i1,k.dn,k.sec,k.ho⟩,qA,tF,Cz,ml.1,ml.2,λaC=>(fu.other _ ((dA aC).2.1 x ab) (eK _ ((dA aC).2.1 x ab) (dA aC).2.2)).1,λf h1 aa=>fu.other f h1 (eK f h1 aa)⟩;rcases e with e|rfl
 ·have:=k.sys.core.oi e;omega
 ·omega
end
end
section
variable{PV:cw} [db PV]
structure td(h:ag)(X:dQ)(c:cN)(ρ:Nat->Nat)(σ:b0)(x:bD)(p:Nat)(r:aH)(act:Int)(g:ag)(st:Int)(n:Nat)(aT:b0)(c3:Nat->Nat)(d1 aw:Nat->Int) :Prop where
 u:bG ρ h g
 ro:∀i,i<h.next->c3 i=ρ i
 hh:Good g X c c3 aT d1 aw
 ax:aT.ax=σ.ax
 view:view c aT=view c σ
 sec:aT.sec=σ.sec
 cont:cont c σ x p=some (aT.mem n)
 tY:n<c.n
 node:∀y,y∈σ.ax->¬IsNode y.T n
 held:aT.held n≠0
 wY:∀f,(0:Int)=d1 f+(bJ f (x.T.ent p)).toNat-(decide (f=n)).toNat
 w7:∀i,(0:Int)=aw i+(cZ i (x.T.ent p)).toNat
 qf:(∀f,0<=d1 f)\/x.T.aZ 3 (p/8)≠none
 write:st≠3->refs aT n=(bJ n (x.T.ent p)).toNat
 other:bJ n (x.T.ent p)=false->∀y q,y∈σ.ax->(y.T.ent q).here=true->(y.T.ent q).write=true->(y.T.ent q).n.toNat≠n
 clean:st=3->r.kind=1/\c.hy r.file (r.bq+p-r.lo)=some (aT.mem n)
 v8:st=act\/act=3/\st=4
 free:σ.free<=aT.free+1
 used:aT.used<=σ.used
 wy:σ.used<=aT.used+((x.T.ent p).out).toNat
 ring:act≠3->aT.ring=σ.ring
 vX:(j8 aT.ring=j8 σ.ring\/j8 aT.ring=j8 σ.ring++[(r.file,r.bq+p-r.lo)])/\(act=3->c.hy r.file (r.bq+p-r.lo)≠none->(r.file,r.bq+p-r.lo)∈j8 aT.ring)
theorem Mt{r:aH}{st:Int}{n:Nat}(h:st=3\/st=4\/st=5\/st=6\/st=7)(al:n<=4096) :(h4 r st n).may=true/\(h4 r st n).here=true/\(h4 r st n).out=false/\(h4 r st n).n=n/\(hE (h4 r st n)=true->st=3)/\((h4 r st n).write=true->st≠3):=by
 have h1:(0:Int)<=(n:Int):=by omega
 have aa:(n:Int)<=1048576:=by omega
 unfold h4;by_cases dA:st=3
 ·rw[if_pos dA];simp[ba.may,h1,aa,dA]
 ·rw[if_neg dA,if_pos (by omega)];cases qu r.perm 2<;>simp[ba.may,hE,h1,aa,dA]
theorem Oz{r:aH}{st:Int}{n:Nat}(h:st=3\/st=4\/st=5\/st=6\/st=7)(al:n<=4096)(f:Nat) :bJ f (h4 r st n)=decide (f=n)/\cZ f (h4 r st n)=false:=by obtain⟨_,b,jA,e,_⟩:=Mt (r:=r) h al;unfold bJ cZ;rw[b,jA,e];refine⟨?_,rfl⟩;rw[Bool.true_and,Bool.eq_iff_iff];simp;omega
structure E9(c:cN)(x:bD)(p:Nat)(r:aH)(act:Int)(σ aG:b0) :Prop where
 view:view c aG=view c σ
 free:σ.free<=aG.free+4
 leaf:x.T.aZ 3 (p/8)≠none->σ.free<=aG.free+1
 ent:∃a b aK n st,σ.ax=a++x::b/\aG.ax=a++{x with T:=aK}::b/\aK.ent=aq x.T.ent p (h4 r st (n:Nat))/\n<c.n/\(st=act\/act=3/\st=4)
 used:aG.used<=σ.used
 wy:σ.used<=aG.used+((x.T.ent p).out).toNat
 ring:act≠3->aG.ring=σ.ring
 vX:(j8 aG.ring=j8 σ.ring\/j8 aG.ring=j8 σ.ring++[(r.file,r.bq+p-r.lo)])/\(act=3->c.hy r.file (r.bq+p-r.lo)≠none->(r.file,r.bq+p-r.lo)∈j8 aG.ring)
section
variable{h g:ag}{X:dQ}{c:cN}{ρ a8:Nat->Nat}{σ aG:b0}{d e:Nat->Int}
theorem ahy{x:bD}{p:Nat}{r:aH}{act st:Int}{n:Nat}{aT:b0}{c3:Nat->Nat}{d1 aw:Nat->Int}(k:td h X c ρ σ x p r act g st n aT c3 d1 aw){a b:List bD}(au:σ.ax=a++x::b)(aD:p<4096)(ah:bO x.L p=some r)(rT:act=3\/act=4\/act=5\/act=6\/act=7)(aB:4<=σ.free\/x.T.aZ 3 (p/8)≠none){bH:ag}(ja:aX g bH) :
  bN (call ai PV (.func 109 [] []) [.ptr x.t 0,.int .i64 p,(h4 r st n).dz] bH) λv g2=>bG ρ h g2/\∃aG,Good g2 X c c3 aG (λf=>0) (λf=>0)/\E9 c x p r act σ aG:=by
 have jo:=k.hh.ext ja;have xt:=k.hh.n;have dy:st=3\/st=4\/st=5\/st=6\/st=7:=by rcases k.v8 with e|⟨_,e⟩<;>omega
 have Hi:n<=4096:=by have:=k.tY;omega
 obtain⟨cA,cM,dt,dK,Ii,Ij⟩:=Mt (r:=r) dy Hi;have gO:aT.ax=a++x::b:=by rw[k.ax];exact au
 have lX:(h4 r st n).n.toNat=n:=by rw[dK];omega
 refine bN.mono (aii jo gO aD (s:=h4 r st n) cA (aB.imp (λaB=>by have:=k.free;omega) id) k.qf (λf=>0) (λf=>0) (λf=>by rw[(Oz dy Hi f).1];exact k.wY f) (λi=>by rw[(Oz dy Hi i).2];have:=k.w7 i;simpa using this)
  (by rw[ah];simp) (λ_=>by rw[lX];exact⟨k.tY,λy an=>k.node y (by rw[<-k.ax];exact an),k.held⟩) (λaC=>by rw[dt]at aC;cases aC) (λ_ hw=>by rw[lX];exact k.write (Ij hw)) (λ_ m3 y q an=>by rw[lX]at m3|-;exact k.other m3 y q (by rw[<-k.ax];exact an))
  (λaA b9 iz=>by rw[ah]at iz;cases iz;rw[lX];exact k.clean (Ii aA))) ?_
 rintro v g2 ⟨dV,b7,cf,b4,aK,j3,bR,f1,f2,f3,gh,gi,hH,g_⟩;refine⟨(k.u.trans (bG.ext (ρ:=ρ) ja) (λ_ _=>rfl)).trans dV k.ro,_,bR,?_,?_,λar=> ?_,⟨a,b,aK,n,st,au,rfl,j3,k.tY,k.v8⟩,k.used,k.wy,k.ring,k.vX⟩
 ·rw[<-k.view];refine KN (a:=a) (b:=b) (x:=x) (cn:={x with T:=aK}) gO rfl rfl rfl (λy q an=>gh y q an) (λq=> ?_);by_cases ay:q=p
  ·subst ay
   have h1:cont c aT x q=cont c σ x q:=by
    have ae:=k.view;unfold view at ae;rw[k.ax]at ae;have ab:x∈σ.ax:=by rw[au];simp
    have:=List.map_inj_left.1 ae x ab;simp only[Prod.mk.injEq,true_and]at this;rw[this]
   rw[h1,k.cont];have aI:aK.ent q=h4 r st n:=by rw[j3,e3]
   unfold cont;simp only;rw[ah];simp only[aI,cM,if_true];rw[hH cM,lX]
  ·exact gi q ay
 ·show σ.free<=b4+4
  have:=k.free;omega
 ·show σ.free<=b4+1
  have:=(f3 ar).1;have:=k.free;omega
end
end
section
variable{PV:cw} [db PV]
theorem F'{s:ba}(h:s≠.zero->s.may=true)(h1:s.out=false)(aa:s.here=false) :s=.zero:=by
 by_cases c:s=.zero
 ·exact c
 ·have:=h c;simp[ba.may,h1,aa]at this
section
variable{h g:ag}{X:dQ}{c:cN}{ρ a8:Nat->Nat}{σ aG:b0}{d e:Nat->Int}
theorem acY(k:Good h X c ρ σ d e){n:Nat}(al:n<c.n)(aC:σ.held n≠0)(eK:∀x,x∈σ.ax->¬IsNode x.T n)(bK:σ.held n<2^60) :
  ∃g,call ai PV (.func 175 [] []) [.ptr X.A.p 0,.int .i64 (n:Nat)] h=some (.int .i64 0,g)/\
   ct ρ h g/\Good g X c ρ {σ with held:=aq σ.held n (σ.held n-1),free:=if σ.held n=1 then σ.free+1 else σ.free} (λf=>d f-(decide (f=n)).toNat) e:=by
 have lr:=k.zb;have zm:=k.inv.data n al eK;obtain⟨g,aw,gG,aW⟩:=B4 k.sys.core.ps.p (f:=n) (by rw[k.dn.n];exact al) aC (by omega) (by omega);have eL:=k.sys.core.eL;have w:ct ρ h g:=ct.of aW λi _ e=>by rcases e with rfl|rfl<;>omega
 have qL:=k.sys.core.mJ gG (aW.mono λi _ e=>.inr e);refine⟨g,aw,w,⟨k.sys.own qL rfl w (λ_ _=>rfl),?_,k.dn,k.sec,k.ho⟩⟩;refine k.inv.held al _ _ _ eK ?_ (λg aE=>by simp[aE]) ?_
 ·simp only[decide_true,Bool.toNat_true];omega
 ·by_cases bc:σ.held n=1
  ·rw[if_pos bc,decide_eq_false aC,decide_eq_true (show σ.held n-1=0 by omega)];simp
  ·rw[if_neg bc,decide_eq_false aC,decide_eq_false (show¬σ.held n-1=0 by omega)]
theorem QT{x:bD}{p:Nat}{r:aH}{act st:Int}{fr m:Nat}(ab:x∈σ.ax)(aI:x.T.ent p=.zero)(hm:cont c σ x p=some m)(u:bG ρ h g)(eT:fr<c.n)(h0:σ.held fr=0)(m9:refs σ fr=0)(gp:∀y,y∈σ.ax->¬IsNode y.T fr)
  (inv:Inv c σ (λ_=>0) (λ_=>0)) (jo:Good g X c ρ {σ with mem:=aq σ.mem fr m,held:=aq σ.held fr 1,free:=σ.free-1} (λg=>0+(decide (g=fr)).toNat) (λ_=>0)) (dy:st=act\/act=3/\st=4) (av:st≠3) (Y7:act=3->c.hy r.file (r.bq+p-r.lo)=none) :
  td h X c ρ σ x p r act g st fr {σ with mem:=aq σ.mem fr m,held:=aq σ.held fr 1,free:=σ.free-1} ρ (λg=>0+(decide (g=fr)).toNat) (λ_=>0)where
 u:=u
 ro:=λ_ _=>rfl
 hh:=jo
 ax:=rfl
 view:=uC rfl λy q an=>ld (λaC=>by
  show aq σ.mem fr m _=_;rw[ed];intro e;have:=(kz m9).1 y q an (inv.lt an (gE aC))
  rw[<-e,ic inv an aC]at this;cases this) (λ_=>rfl)
 sec:=rfl
 cont:=by rw[hm];show some m=some (aq σ.mem fr m fr);rw[e3]
 tY:=eT
 node:=gp
 held:=by show aq σ.held fr 1 fr≠0;rw[e3];decide
 wY:=λf=>by rw[aI];have:bJ f ba.zero=false:=rfl;rw[this];simp
 w7:=λi=>by rw[aI];have:cZ i ba.zero=false:=rfl;rw[this];simp
 qf:=.inl λf=>by show(0:Int)<=0+((decide (f=fr)).toNat:Int);omega
 write:=λ_=>by rw[aI];show refs σ fr=(bJ fr ba.zero).toNat;rw[m9];rfl
 other:=λ_ y q an aC hw e=>by have:=(kz m9).1 y q an (inv.lt an (gE aC));rw[<-e,ic inv an aC]at this;cases this
 clean:=λh=>absurd h av
 v8:=dy
 free:=by show σ.free<=σ.free-1+1;omega
 used:=Nat.le_refl _
 wy:=Nat.le_add_right _ _
 ring:=λ_=>rfl
 vX:=⟨.inl rfl,λh al=>absurd (Y7 h) al⟩
theorem MI(h:ag) :call ai PV (.func 213 [] []) [(.str 0 0),(.int .i64 64)] h=some (.str 64 0,h):=Qe h (l:=0) (n:=0) (by decide) (by decide)
theorem ahu(k:Good h X c ρ σ (λ_=>0) (λ_=>0)){x:bD}(ab:x∈σ.ax){p:Nat}{r:aH}(ah:bO x.L p=some r)(aI:x.T.ent p=.zero)(aj:r.kind=1){g:ag}(u:bG ρ h g){fr:Nat}{aG:b0}{a8:Nat->Nat}(iA:∀i,i<h.next->a8 i=ρ i)
  (an:∃y,y∈aG.ring/\y.fr=fr/\y.file=r.file/\y.bq=r.bq+p-r.lo) (jo:Good g X c a8 aG (λg=>0+(decide (g=fr)).toNat) (λ_=>0)) (dO:aG.ax=σ.ax) (ae:view c aG=view c σ) (zS:aG.sec=σ.sec) (aB:σ.free<=aG.free+1) (hu:aG.used=σ.used) (G8:j8 aG.ring=j8 σ.ring\/j8 aG.ring=j8 σ.ring++[(r.file,r.bq+p-r.lo)]) :
  td h X c ρ σ x p r 3 g 3 fr aG a8 (λg=>0+(decide (g=fr)).toNat) (λ_=>0):=by
 obtain⟨y,qK,rfl,r7,hyp⟩:=an;have CT:=jo.inv.ring y qK;rw[r7,hyp]at CT;have zw:=jo.inv.Jp qK (by omega)
 exact{
  u:=u
  ro:=iA
  hh:=jo
  ax:=dO
  view:=ae
  sec:=zS
  cont:=by unfold cont;rw[ah];simp only[aI];show some (if false=true then _ else if false=true then _ else base c r p)=_;unfold base;rw[if_pos aj,CT.2];rfl
  tY:=CT.1
  node:=λz aI=>jo.inv.vW qK (by rw[dO];exact aI)
  held:=by omega
  wY:=λf=>by rw[aI];have:bJ f ba.zero=false:=rfl;rw[this];simp
  w7:=λi=>by rw[aI];have:cZ i ba.zero=false:=rfl;rw[this];simp
  qf:=.inl λf=>by show(0:Int)<=0+((decide (f=y.fr)).toNat:Int);omega
  write:=λh=>absurd rfl h
  other:=λ_ z q aI aC hw e=>by rw[<-dO]at aI;have h1:=jo.inv.write z q aI aC hw;rw[e]at h1;have aa:=BX (P:=λx:cH=>x.fr==y.fr) qK (by simp);have av:=x8 (P:=bJ y.fr) aI (jo.inv.lt aI (gE aC)) (by rw[<-e];exact ic jo.inv aI aC);unfold refs at h1;omega
  clean:=λ_=>⟨aj,CT.2⟩
  v8:=.inl rfl
  free:=aB
  used:=by rw[hu];exact Nat.le_refl _
  wy:=by rw[hu];exact Nat.le_add_right _ _
  ring:=λh=>absurd rfl h
  vX:=⟨G8,λ_ _=>List.mem_map.2 ⟨y,qK,by rw[r7,hyp]⟩⟩}
end
end
section
variable{PV:cw} [db PV]
section
variable{h g:ag}{X:dQ}{c:cN}{ρ a8:Nat->Nat}{σ aG:b0}{d e:Nat->Int}
theorem O0(k:Good h X c ρ σ d e){i:Nat}(U:i<c.cG)(aC:σ.bQ i≠0)(bK:σ.bQ i<2^60) :
  bN (call ai PV (.func 176 [] []) [.ptr X.R.a 0,.int .i64 (i:Nat)] h) λv g=>ct ρ h g/\Good g X c ρ {σ with bQ:=aq σ.bQ i (σ.bQ i-1),used:=if σ.bQ i=1 then σ.used-1 else σ.used} d (λj=>e j-(decide (j=i)).toNat):=by
 have oW:1<=σ.used:=by rw[k.inv.used];exact yX U (by simp[aC])
 have pO:σ.used<=4096:=by rw[k.inv.used];exact Nat.le_trans (m0 _ _) k.cG
 refine bN.mono (aij k.sys.core.gM (i:=i) (by rw[k.dn.cG];exact U) aC bK ⟨oW,pO⟩) ?_;rintro _ g ⟨rfl,aQ,aW⟩;have fG:=k.sys.core.fG;have w:ct ρ h g:=ct.of aW λi _ e=>by rcases e with rfl|rfl<;>omega
 have qL:=k.sys.core.BF aQ aW;have zm:=k.inv.slot i U;refine⟨w,k.sys.own qL rfl w (λ_ _=>rfl),?_,k.dn,k.sec,k.ho⟩;refine k.inv.bQ U _ _ _ ?_ (λj az=>by simp[az]) ?_
 ·simp only[decide_true,Bool.toNat_true];omega
 ·by_cases bc:σ.bQ i=1
  ·rw[if_pos bc,decide_eq_true aC,decide_eq_false (show¬σ.bQ i-1≠0 by omega)];show σ.used-1+1=σ.used+0;omega
  ·rw[if_neg bc,decide_eq_true aC,decide_eq_true (show σ.bQ i-1≠0 by omega)]
theorem ahv(k:Good h X c ρ σ (λ_=>0) (λ_=>0)){x:bD}(ab:x∈σ.ax){p:Nat}{r:aH}(ah:bO x.L p=some r)(aY:(x.T.ent p).out=true){g:ag}(u:bG ρ h g){fr m:Nat}(hm:m=σ.sec (c.first+(x.T.ent p).n.toNat))(eT:fr<c.n)(h0:σ.held fr=0)(m9:refs σ fr=0)(gp:∀y,y∈σ.ax->¬IsNode y.T fr)
  {bQ:Nat->Nat} {used:Nat} (xE:used<=σ.used) (abE:σ.used<=used+1) (jo:Good g X c ρ {σ with mem:=aq σ.mem fr m,held:=aq σ.held fr 1,free:=σ.free-1,bQ:=bQ,used:=used} (λg=>0+(decide (g=fr)).toNat) (λj=>0-(decide (j=(x.T.ent p).n.toNat)).toNat)) :
  td h X c ρ σ x p r 5 g 5 fr {σ with mem:=aq σ.mem fr m,held:=aq σ.held fr 1,free:=σ.free-1,bQ:=bQ,used:=used} ρ (λg=>0+(decide (g=fr)).toNat) (λj=>0-(decide (j=(x.T.ent p).n.toNat)).toNat):=by
 have hU:=l1 (k.inv.kX ab (x3 aY))
 have aC:(x.T.ent p).here=false:=by
  cases af:(x.T.ent p).here with
  |false=>rfl
  |true=>exact absurd ⟨af,aY⟩ hU.2
 have m3:∀f,bJ f (x.T.ent p)=false:=λf=>by unfold bJ;rw[aC];rfl
 exact{
  u:=u
  ro:=λ_ _=>rfl
  hh:=jo
  ax:=rfl
  view:=uC rfl λy q an=>ld (λaC=>by
   show aq σ.mem fr m _=_;rw[ed];intro e;have:=(kz m9).1 y q an (k.inv.lt an (gE aC))
   rw[<-e,ic k.inv an aC]at this;cases this) (λ_=>rfl)
  sec:=rfl
  cont:=by unfold cont;rw[ah];simp only[aC,aY];show some (if false=true then _ else if true=true then σ.sec (c.first+(x.T.ent p).n.toNat)else base c r p)=some (aq σ.mem fr m fr);rw[if_neg (by decide),if_pos rfl,e3,hm]
  tY:=eT
  node:=gp
  held:=by show aq σ.held fr 1 fr≠0;rw[e3];decide
  wY:=λf=>by rw[m3];simp
  w7:=λi=>by
   have:cZ i (x.T.ent p)=decide (i=(x.T.ent p).n.toNat):=by unfold cZ;rw[aY,Bool.true_and,Bool.eq_iff_iff];simp;have:=hU.1;omega
   rw[this];omega
  qf:=.inl λf=>by show(0:Int)<=0+((decide (f=fr)).toNat:Int);omega
  write:=λ_=>by rw[m3];show refs σ fr=(false).toNat;rw[m9];rfl
  other:=λ_ y q an aC hw e=>by have:=(kz m9).1 y q an (k.inv.lt an (gE aC));rw[<-e,ic k.inv an aC]at this;cases this
  clean:=λh=>absurd h (by decide)
  v8:=.inl rfl
  free:=by show σ.free<=σ.free-1+1;omega
  used:=xE
  wy:=by rw[aY];exact abE
  ring:=λ_=>rfl
  vX:=⟨.inl rfl,λh=>absurd h (by decide)⟩}
theorem z8{s:ba}(h:s.here=true)(h0:0<=s.n)(f:Nat) :bJ f s=decide (f=s.n.toNat):=by unfold bJ;rw[h,Bool.true_and,Bool.eq_iff_iff];simp;omega
theorem Da{s:ba}(h:s.may=true)(aC:s.here=true)(j:Nat) :cZ j s=false:=by
 have:=(l1 h).2;unfold cZ;cases aY:s.out with
 |false=>rfl
 |true=>exact absurd ⟨aC,aY⟩ this
theorem ahw(k:Good h X c ρ σ (λ_=>0) (λ_=>0)){x:bD}(ab:x∈σ.ax){p:Nat}{r:aH}(ah:bO x.L p=some r)(aC:(x.T.ent p).here=true){g:ag}(u:bG ρ h g){fr:Nat}(eT:fr<c.n)(h0:σ.held fr=0)(m9:refs σ fr=0)(gp:∀y,y∈σ.ax->¬IsNode y.T fr)
  {held:Nat->Nat} {free:Nat} (zq:σ.free<=free+1) (aah:held fr≠0) (jo:Good g X c ρ {σ with mem:=aq σ.mem fr (σ.mem (x.T.ent p).n.toNat),held:=held,free:=free} (λg=>0+(decide (g=fr)).toNat-(decide (g=(x.T.ent p).n.toNat)).toNat) (λ_=>0)) :
  td h X c ρ σ x p r 6 g 6 fr {σ with mem:=aq σ.mem fr (σ.mem (x.T.ent p).n.toNat),held:=held,free:=free} ρ (λg=>0+(decide (g=fr)).toNat-(decide (g=(x.T.ent p).n.toNat)).toNat) (λ_=>0):=by
 have lx:=k.inv.kX ab (gE aC);have hU:=l1 lx
 have cE:fr≠(x.T.ent p).n.toNat:=λe=>by have:=(kz m9).1 x p ab (k.inv.lt ab (gE aC));rw[e,ic k.inv ab aC]at this;cases this
 exact{
  u:=u
  ro:=λ_ _=>rfl
  hh:=jo
  ax:=rfl
  view:=uC rfl λy q an=>ld (λaC=>by
   show aq σ.mem fr _ _=_;rw[ed];intro e;have:=(kz m9).1 y q an (k.inv.lt an (gE aC))
   rw[<-e,ic k.inv an aC]at this;cases this) (λ_=>rfl)
  sec:=rfl
  cont:=by unfold cont;rw[ah];simp only[aC,if_true];show some (σ.mem (x.T.ent p).n.toNat)=some (aq σ.mem fr _ fr);rw[e3]
  tY:=eT
  node:=gp
  held:=aah
  wY:=λf=>by rw[z8 aC hU.1];omega
  w7:=λi=>by rw[Da lx aC];simp
  qf:=.inr ((k.inv.jQ x ab).own p (gE aC))
  write:=λ_=>by rw[z8 aC hU.1,decide_eq_false cE];show refs σ fr=(false).toNat;rw[m9];rfl
  other:=λ_ y q an aC hw e=>by have:=(kz m9).1 y q an (k.inv.lt an (gE aC));rw[<-e,ic k.inv an aC]at this;cases this
  clean:=λh=>absurd h (by decide)
  v8:=.inl rfl
  free:=zq
  used:=Nat.le_refl _
  wy:=Nat.le_add_right _ _
  ring:=λ_=>rfl
  vX:=⟨.inl rfl,λh=>absurd h (by decide)⟩}
theorem ahx(k:Good h X c ρ σ (λ_=>0) (λ_=>0)){x:bD}(ab:x∈σ.ax){p:Nat}{r:aH}(ah:bO x.L p=some r)(aC:(x.T.ent p).here=true)(h1:σ.held (x.T.ent p).n.toNat<=1){g:ag}(u:aX h g) :
  td h X c ρ σ x p r 7 g 7 (x.T.ent p).n.toNat σ ρ (λ_=>0) (λ_=>0):=by
 have lx:=k.inv.kX ab (gE aC);have hU:=l1 lx;have al:=k.inv.here x p ab aC;have tL:=λy an=>k.inv.rZ ab aC (y:=y) an
 have zw:=k.inv.Cx ab aC (Int.le_refl 0);have zm:=k.inv.data _ al tL
 exact{
  u:=bG.ext u
  ro:=λ_ _=>rfl
  hh:=k.ext u
  ax:=rfl
  view:=rfl
  sec:=rfl
  cont:=by unfold cont;rw[ah];simp only[aC,if_true]
  tY:=al
  node:=tL
  held:=by omega
  wY:=λf=>by rw[z8 aC hU.1];omega
  w7:=λi=>by rw[Da lx aC];simp
  qf:=.inl λf=>Int.le_refl 0
  write:=λ_=>by rw[ic k.inv ab aC];simp only[Bool.toNat_true];omega
  other:=λm3=>by rw[ic k.inv ab aC]at m3;cases m3
  clean:=λh=>absurd h (by decide)
  v8:=.inl rfl
  free:=Nat.le_succ _
  used:=Nat.le_refl _
  wy:=Nat.le_add_right _ _
  ring:=λ_=>rfl
  vX:=⟨.inl rfl,λh=>absurd h (by decide)⟩}
end
end
section
variable{PV:cw} [db PV]
section
variable{h g:ag}{X:dQ}{c:cN}{ρ a8:Nat->Nat}{σ aG:b0}{d e:Nat->Int}
theorem bG.HY{a b:ag}{id:Nat}{l:List J}(u:bG ρ a b)(o:a6.Obj a id l)(U:id<a.next)(ah:ρ id=0) :a6.Obj b id l:=u.ca o U ah
theorem XA(k:Good h X c ρ σ (λ_=>0) (λ_=>0)){x:bD}(ab:x∈σ.ax){p:Nat}(aD:p<4096){r:aH}(ah:bO x.L p=some r){act:Int}
  (av:act=3->x.T.ent p=.zero/\r.kind=1) (aO:act=4->x.T.ent p=.zero/\r.kind≠1) (bb:act=5->(x.T.ent p).out=true) (cp:act=6->(x.T.ent p).here=true) (gC:act=7->(x.T.ent p).here=true/\σ.held (x.T.ent p).n.toNat<=1)
  (rT:act=3\/act=4\/act=5\/act=6\/act=7) (aB:act=7\/4<=σ.free) :
  bN (call ai PV (.func 165 [] []) [.ptr x.s 0,.agg r.vs,.int .i64 p,.int .i64 act,(x.T.ent p).dz] h) λv g=>bG ρ h g/\∃aG a8,(∀i,i<h.next->a8 i=ρ i)/\Good g X c a8 aG (λ_=>0) (λ_=>0)/\E9 c x p r act σ aG:=by
 refine cF adj rfl ?_;refine b1 (o_ (cs:=r.vs) rfl) λg1 bU dF aW=> ?_
 refine b1 (sP (cs:=(x.T.ent p).vs) rfl) λg2 cc dS a_=> ?_
 have eA:=bU.ext a_ (by omega);have hp:=aW.trans a_;have bR:=k.ext hp;have gJ:ρ h.next=0:=k.fresh (Nat.le_refl _);have AG:ρ g1.next=0:=k.fresh (by omega);have mQ:=(bR.sys.ax x ab).field;have eu:bE g2 g1.next 4=some (.int .i64 (x.T.ent p).n):=cc.rd 4;have nX:=mL ah;have mq:=(k.inv.gI x ab).may r nX.1;have ame:=lB mq;simp only[b2,q1,ak,lH,mQ.1,lG,Nat.zero_add,b6,eu];obtain⟨a,b,au⟩:=List.append_of_mem ab;refine fV (P:=λy vs g=>y=.normal/\∃st n aT c3 d1 aw,vs=[.int .i64 st,.int .i64 (n:Nat)]/\td h X c ρ σ x p r act g st n aT c3 d1 aw/\a6.Obj g h.next r.vs/\h.next<g.next) ?_ ?_
 ·rcases rT with rfl|rfl|rfl|rfl|rfl
  ·have aB:=aB.resolve_left (by decide);obtain⟨aI,aj⟩:=av rfl;simp only[c2,ak,a1];rw[if_pos (by decide)];rw[i' eA (by simp[aH.vs])];simp only[ak];rw[show List.take 6 (List.drop 0 r.vs)=r.vs from rfl];have vg:keyOf r p=some (r.file,r.bq+p-r.lo):=by unfold keyOf;rw[if_pos ⟨aj,nX.2.1,nX.2.2⟩]
   refine bS (acB g2 (tW mq) (p:=p) (by unfold kj;omega)) ?_;rintro _ g3 ⟨rfl,bw⟩;rw[vg];simp only[hg,ak];refine b1 AW λg4 c5 gb bA=> ?_
   refine cb (yu (k:=0) (cs:=[.int .i64 r.file,.int .i64 (r.bq+p-r.lo)]) c5 rfl (by simp) rfl) λg5 ⟨cS,bZ,n5⟩=> ?_
   have cS:=dC cS rfl;have s4:aX g3 g5:=bA.local bZ (λj az e=>by omega);have bC:aX g5 (g5.aV 11):=aF.aV _ _ _;have ph:=((hp.trans bw).trans s4).trans bC;have d_:=k.ext ph;have cM:=d_.sys.field.2.2.1;rw[cT]at cM;have af0:=cS.ext bC (by omega);have r5:=bw.next;have jr:=((eA.ext bw (by omega)).ext s4 (by omega)).ext bC (by omega);simp only[b2,Er,Nat.zero_add,ak,ou,cT,cM];rw[nu af0 (by simp)];simp only[ak,List.drop_zero,List.take_succ_cons,List.take_zero];refine bS (WL d_ (λf=>Int.le_refl 0) (λf=>by omega) r.file (r.bq+p-r.lo)) ?_;rintro v g6 ⟨b3,⟨tt,rfl,u_,eG⟩ |⟨fr,aG,a8,rfl,iA,an,eG,dO,ae,zS,eT,_,xE,_,G8⟩⟩
   ·have hr:bG ρ h g6:=(bG.ext (ρ:=ρ) ph).trans b3 (λ_ _=>rfl);have pR:=bG.ca b3 jr (by show h.next<g5.next+11;omega) gJ;have CJ:h.next<g6.next:=Nat.lt_of_lt_of_le (show h.next<g5.next+11 by omega) b3.next;rcases u_ with⟨rfl,zF⟩ |⟨_,h0,_⟩
    ·simp only[hg,ak,dh,dc,a1];rw[if_pos (by decide)];simp only[MI,c1];refine fV (P:=λy vs g=>y=.normal/\∃fr:Nat,vs=[.int .i64 4,.int .i64 (fr:Nat)]/\td h X c ρ σ x p r 3 g 4 fr {σ with mem:=aq σ.mem fr 0,held:=aq σ.held fr 1,free:=σ.free-1} ρ (λg=>0+(decide (g=fr)).toNat) (λ_=>0)/\a6.Obj g h.next r.vs/\h.next<g.next) ?_ ?_
     ·refine bS (JI eG (λf=>Int.le_refl 0) ab (m:=0) (Nat.two_pow_pos _) (by omega)) ?_;rintro _ g7 ⟨p3,fr,rfl,f1,f2,f3,f4,ng⟩;refine aJ.pure ⟨rfl,fr,rfl,QT ab aI ?_ (hr.trans (bG.own p3) (λ_ _=>rfl)) f1 f2 f3 f4 k.inv ng (.inr ⟨rfl,rfl⟩) (by decide) (λ_=>zF),bG.ca (bG.own p3) pR CJ gJ,Nat.lt_of_lt_of_le CJ p3.next⟩;unfold cont;rw[ah];simp only[aI];show some (if false=true then _ else if false=true then _ else base c r p)=_;unfold base;rw[if_pos aj,zF];rfl
     ·rintro _ _ g7 ⟨rfl,fr,rfl,rd,dP,G_⟩;simp only[bn,bd,hf];exact aJ.pure ⟨rfl,4,fr,_,_,_,_,rfl,rd,dP,G_⟩
    ·omega
   ·have hr:bG ρ h g6:=(bG.ext (ρ:=ρ) ph).trans b3 (λ_ _=>rfl);have pR:=bG.ca b3 jr (by show h.next<g5.next+11;omega) gJ;have CJ:h.next<g6.next:=Nat.lt_of_lt_of_le (show h.next<g5.next+11 by omega) b3.next;simp only[hg,ak,dh,dc,a1];rw[if_neg (by decide)];simp only[cO,bn,bd,hf];have j6:h.next<=(g5.aV 11).next:=ph.next
    exact aJ.pure ⟨rfl,3,fr,_,_,_,_,rfl,ahu k ab ah aI aj hr (λi U=>iA i (Nat.lt_of_lt_of_le U j6)) an eG dO ae zS eT xE G8,pR,CJ⟩
  ·have aB:=aB.resolve_left (by decide);obtain⟨aI,aj⟩:=aO rfl;simp only[c2,ak,a1];rw[if_neg (by decide),if_pos (by decide)];simp only[MI,c1];refine bS (JI bR (λf=>Int.le_refl 0) ab (m:=0) (Nat.two_pow_pos _) (by omega)) ?_;rintro _ g7 ⟨p3,fr,rfl,f1,f2,f3,f4,ng⟩;refine aJ.pure ⟨rfl,4,fr,_,_,_,_,rfl,QT ab aI ?_ ((bG.ext (ρ:=ρ) hp).trans (bG.own p3) (λ_ _=>rfl)) f1 f2 f3 f4 k.inv ng (.inl rfl) (by decide) (λh=>absurd h (by decide)),bG.ca (bG.own p3) eA (by omega) gJ,by have:=p3.next;omega⟩;unfold cont;rw[ah];simp only[aI];show some (if false=true then _ else if false=true then _ else base c r p)=_;unfold base;rw[if_neg aj];rfl
  ·have aB:=aB.resolve_left (by decide);have aY:=bb rfl;have hU:=l1 (k.inv.kX ab (x3 aY));have jm:=k.inv.out x p ab aY;have xD:=k.inv.Qt ab aY (Int.le_refl 0);have eK:(((x.T.ent p).n.toNat:Nat) :Int)=(x.T.ent p).n:=by have:=hU.1;omega
   have bC:aX g2 (g2.aV 12):=aF.aV _ _ _;have bY:=bR.ext bC;have dt:=bY.sys.field.2.2.2;rw[cT]at dt;simp only[c2,ak,a1];rw[if_neg (by decide),if_neg (by decide),if_pos (by decide)];simp only[b2,v',Nat.zero_add,ak,pc,cT,dt,eu];rw[<-eK];refine bS (aik bY.sys.core.gM bY.sys.core.ji (i:=(x.T.ent p).n.toNat) (by rw[k.dn.cG];exact jm) (by omega)) ?_;rintro _ g4 ⟨rfl,a4,d4,bA⟩;have fa:=k.sys.core.fa;have iJ:ct ρ (g2.aV 12) g4:=ct.of bA λi _ e=>by subst e;omega
   have e5:=bY.sys.core.Me a4 d4 (bA.mono λi _ e=>.inl e);have c8:Good g4 X c ρ σ (λ_=>0) (λ_=>0):=⟨bY.sys.own e5 rfl iJ (λ_ _=>rfl),k.inv,k.dn,k.sec,k.ho⟩;have zS:σ.sec (X.R.first+(x.T.ent p).n.toNat) <2^512:=c8.sys.core.ji.aic (by have:=c8.sys.core.gM.f;rw[k.dn.cG]at this;omega);have gR:=iJ.ca (eA.ext bC (by omega)) (by show h.next<g2.next+12;omega) gJ;have sr:=iJ.ca (cc.ext bC (by omega)) (by show g1.next<g2.next+12;omega) AG;simp only[hg,ak,dh];refine bS (JI c8 (λf=>Int.le_refl 0) ab zS (by omega)) ?_;rintro _ g5 ⟨fI,fr,rfl,f1,f2,f3,f4,d_⟩;have xt:g2.next+12<=g4.next:=bA.next;have jr:=fI.ca gR (by omega) gJ;have ss:=fI.ca sr (by omega) AG;have tJ:=fI.next;have s6:aX g5 (g5.aV 7):=aF.aV _ _ _;have Ac:=d_.ext s6;have Pr:=Ac.sys.field.2.2.2;rw[cT]at Pr;have ahj:bE g5 g1.next 4=some (.int .i64 (x.T.ent p).n):=ss.rd 4;simp only[b2,v',Nat.zero_add,ak,pc,cT,Pr,lG,b6,ahj];rw[<-eK];have bK:=k.Ry (λf=>by show(0:Int)<=16;omega) jm;refine bS (O0 Ac (i:=(x.T.ent p).n.toNat) jm (by show σ.bQ _≠0;omega) (by show σ.bQ _<_;omega)) ?_;rintro v g6 ⟨hr,eG⟩;have pR:=hr.ca (jr.ext s6 (by omega)) (by show h.next<g5.next+7;omega) gJ;have w:bG ρ h g6:=((((bG.ext (ρ:=ρ) (hp.trans bC)).trans (bG.own iJ) (λ_ _=>rfl)).trans (bG.own fI) (λ_ _=>rfl)).trans (bG.ext (ρ:=ρ) s6) (λ_ _=>rfl)).trans (bG.own hr) (λ_ _=>rfl)
   refine aJ.pure ⟨rfl,5,fr,_,_,_,_,rfl,ahv k ab ah aY w (by rw[k.dn.first]) f1 f2 f3 f4 ?_ (by show _<=(if σ.bQ _=1 then σ.used-1 else σ.used) +1;split<;>omega) eG,pR,by have:g5.next+7<=g6.next:=hr.next;omega⟩;show(if σ.bQ _=1 then σ.used-1 else σ.used)<=σ.used;split<;>omega
  ·have aB:=aB.resolve_left (by decide);have aC:=cp rfl;have lx:=k.inv.kX ab (gE aC);have hU:=l1 lx;have kV:=k.inv.here x p ab aC;have zw:=k.inv.Cx ab aC (Int.le_refl 0);have tL:=λy an=>k.inv.rZ ab aC (y:=y) an
   have bK:=k.Cv (λf=>by show(0:Int)<=16;omega) kV;have eK:(((x.T.ent p).n.toNat:Nat) :Int)=(x.T.ent p).n:=by have:=hU.1;omega
   have bC:aX g2 (g2.aV 11):=aF.aV _ _ _;have bY:=bR.ext bC;have so:=bY.sys.field.1;rw[cT]at so;simp only[c2,ak,a1];rw[if_neg (by decide),if_neg (by decide),if_neg (by decide),if_pos (by decide)];simp only[b2,lF,Nat.zero_add,ak,gK,cT,so,eu];rw[<-eK];refine bS (agT bY.sys.core.ps.p bY.me (by omega) (f:=(x.T.ent p).n.toNat) (by rw[k.dn.n];exact kV) (by omega)) ?_;rintro _ g4 ⟨fr,f1,f2,rfl,vP,bA⟩;rw[k.dn.n]at f1;have lX:=k.inv.rN (λf=>Int.le_refl 0) f1 f2;have cE:fr≠(x.T.ent p).n.toNat:=λe=>by rw[<-e]at zw;omega
   have iJ:ct ρ (g2.aV 11) g4:=ct.of bA λi _ e=>by have:=k.sys.core.oi e;omega
   have e5:=bY.sys.core.mJ vP bA;have i1:=k.inv.fill (σ.mem (x.T.ent p).n.toNat) lX.1 lX.2.2
   have i2:=i1.held (f:=fr) f1 1 (σ.free-1) (λg=>0+(decide (g=fr)).toNat) lX.2.2 (by
    have:refs {σ with mem:=aq σ.mem fr (σ.mem (x.T.ent p).n.toNat)} fr=refs σ fr:=rfl
    rw[this,lX.1];simp) (λg aE=>by simp[aE]) (by
    show σ.free-1+(decide (σ.held fr=0)).toNat=σ.free+(decide (1=0)).toNat;rw[decide_eq_true f2];show σ.free-1+1=σ.free+0
    omega)
   have c8:Good g4 X c ρ {σ with mem:=aq σ.mem fr (σ.mem (x.T.ent p).n.toNat),held:=aq σ.held fr 1,free:=σ.free-1} (λg=>0+(decide (g=fr)).toNat) (λ_=>0):=⟨bY.sys.own e5 rfl iJ (λ_ _=>rfl),i2,k.dn,k.sec,k.ho⟩;have gR:=iJ.ca (eA.ext bC (by omega)) (by show h.next<g2.next+11;omega) gJ;have sr:=iJ.ca (cc.ext bC (by omega)) (by show g1.next<g2.next+11;omega) AG;have xt:g2.next+11<=g4.next:=bA.next;have s5:aX g4 (g4.aV 7):=aF.aV _ _ _;have Dg:=c8.ext s5;have Pq:=Dg.sys.field.1;rw[cT]at Pq;have ahi:bE g4 g1.next 4=some (.int .i64 (x.T.ent p).n):=sr.rd 4;simp only[hg,ak,dh,b2,lF,gK,cT,Pq,lG,Nat.zero_add,b6,ahi];rw[<-eK];have hu:aq σ.held fr 1 (x.T.ent p).n.toNat=σ.held (x.T.ent p).n.toNat:=ed _ _ cE.symm;obtain⟨g5,e6,fI,d_⟩:=acY Dg (n:=(x.T.ent p).n.toNat) kV (by show aq σ.held fr 1 _≠0;rw[hu];omega) tL (by show aq σ.held fr 1 _<_;rw[hu];omega);rw[e6];simp only[c1,dh];have jr:=fI.ca (gR.ext s5 (by omega)) (by show h.next<g4.next+7;omega) gJ;have w:bG ρ h g5:=(((bG.ext (ρ:=ρ) (hp.trans bC)).trans (bG.own iJ) (λ_ _=>rfl)).trans (bG.ext (ρ:=ρ) s5) (λ_ _=>rfl)).trans (bG.own fI) (λ_ _=>rfl);refine aJ.pure ⟨rfl,6,fr,_,_,_,_,rfl,ahw k ab ah aC w f1 f2 lX.1 lX.2.2 ?_ ?_ d_,jr,by have:g4.next+7<=g5.next:=fI.next;omega⟩
   ·show σ.free<=(if aq σ.held fr 1 _=1 then σ.free-1+1 else σ.free-1) +1;split<;>omega
   ·show aq (aq σ.held fr 1) _ _ fr≠0;rw[ed _ _ cE,e3];decide
  ·obtain⟨aC,hle⟩:=gC rfl;have hU:=l1 (k.inv.kX ab (gE aC));have eK:(((x.T.ent p).n.toNat:Nat) :Int)=(x.T.ent p).n:=by have:=hU.1;omega
   simp only[c2,ak,a1];rw[if_neg (by decide),if_neg (by decide),if_neg (by decide),if_neg (by decide)];exact aJ.pure ⟨rfl,7,(x.T.ent p).n.toNat,_,_,_,_,by rw[eK],ahx k ab ah aC hle hp,eA,by omega⟩
 ·rintro _ _ g7 ⟨rfl,st,n,aT,c3,d1,aw,rfl,rd,dP,G_⟩;have bC:aX g7 (g7.aV 10):=aF.aV _ _ _;have aaJ:=rd.u.next;have gq:x∈aT.ax:=by rw[rd.ax];exact ab
  have xN:=((rd.hh.ext bC).sys.ax x gq).field.2;rw[cT]at xN;have IL:=dP.ext bC G_;simp only[bn,bd,hf,b2,uv,Nat.zero_add,ak,ov,cT,xN];rw[i' IL (by simp[aH.vs])];simp only[ak];rw[show List.take 6 (List.drop 0 r.vs)=r.vs from rfl];refine bS (Yd (g7.aV 10) r st n) ?_;rintro _ g8 ⟨rfl,u8⟩;have ja:=bC.trans u8;refine bS (ahy rd au aD ah rT (aB.symm.imp id λh=>(k.inv.jQ x ab).own p (gE (gC h).1)) ja) ?_;rintro v g9 ⟨re,aG,j7,uS⟩;simp only[dh];have OQ:=((rd.hh.ext ja).sys.ax x gq).field.2;rw[wT (by first|exact OQ|(rw[ov];exact OQ)),dh];exact aJ.pure ⟨re,aG,c3,rd.ro,j7,uS⟩
end
end
section
variable{PV:cw} [db PV]
theorem dp.len:∀{l:List aH} {a b:Int},dp a l b->(∀r,r∈l->r.may=true)->a+l.length<=b
 |[],a,b,h,_=>by have:=dp.le h;simpa using this
 |r::l,a,b,h,hm=>by obtain⟨c,h1,aa⟩:=dp.split (l:=[r]) (m:=l) h;have av:=dp.mem h1 (r:=r) (by simp);have aO:=lB (hm r (by simp));have bb:=dp.len aa (λx ab=>hm x (by simp[ab]));rw[List.length_cons];omega
theorem je.len{L:List aH}(h:je L) :L.length<=4096:=by have:=dp.len h.sM h.may;omega
abbrev rk:=aH->Bool->ba->Int->Int
structure K'(dec:rk) :Prop where
 no:∀r s n,dec r false s n=2
 d1:∀r s n,dec r true s n=1->s.here=true
 d3:∀r s n,dec r true s n=3->s.out=false/\s.here=false/\r.kind=1
 d4:∀r s n,dec r true s n=4->s.out=false/\s.here=false/\r.kind≠1
 d5:∀r s n,dec r true s n=5->s.out=true
 d6:∀r s n,dec r true s n=6->s.here=true
 d7:∀r s n,dec r true s n=7->s.here=true/\n<=1
 all:∀r b s n,dec r b s n=1\/dec r b s n=2\/dec r b s n=3\/dec r b s n=4\/dec r b s n=5\/dec r b s n=6\/dec r b s n=7
def cY(dec:rk)(σ:b0)(x:bD)(p:Nat) :Int:=dec ((bO x.L p).getD aH.zero) (bO x.L p).isSome (x.T.ent p) (mO σ (x.T.ent p))
def nD(dec:rk)(L:List aH)(p:Nat) :Prop:=∃r s n,bO L p=some r/\dec r true s n≠2
inductive kK(c:cN)(dec:rk)(s p:Nat) :Nat->b0->b0->Prop
 |nil (σ:b0) :kK c dec s p 0 σ σ
 |idle {i:Nat} {σ aT b_:b0} :kK c dec s p i σ aT->aT.free<4->Inv c aT (λ_=>0) (λ_=>0)->Idle c aT b_->kK c dec s p i σ b_
 |make {i:Nat} {σ aT b_:b0} {x:bD} :kK c dec s p i σ aT->x∈aT.ax->x.s=s->cY dec aT x p≠1->cY dec aT x p≠2->cY dec aT x p≠7->aT.free<4->Inv c aT (λ_=>0) (λ_=>0)->Made c aT b_ true->kK c dec s p (i+1) σ b_
 |B3 {i:Nat} {σ aT b_:b0} {x:bD} {r:aH} :kK c dec s p i σ aT->Inv c aT (λ_=>0) (λ_=>0)->x∈aT.ax->x.s=s->bO x.L p=some r->cY dec aT x p≠1->cY dec aT x p≠2->(cY dec aT x p=7\/4<=aT.free)->E9 c x p r (cY dec aT x p) aT b_->kK c dec s p (i+1) σ b_
theorem UM{c:cN}{σ aG:b0}(ae:view c aG=view c σ){x:bD}(ab:x∈σ.ax) :∃cn,cn∈aG.ax/\cn.s=x.s/\cn.L=x.L/\cont c aG cn=cont c σ x:=by have h1:(x.s,x.L,cont c σ x)∈view c σ:=List.mem_map.2 ⟨x,ab,rfl⟩;rw[<-ae]at h1;obtain⟨cn,aa,av⟩:=List.mem_map.1 h1;simp only[Prod.mk.injEq]at av;exact⟨cn,aa,av.1,av.2.1,av.2.2⟩
section
variable{h g:ag}{X:dQ}{c:cN}{ρ a8:Nat->Nat}{σ aG:b0}{d e:Nat->Int}
theorem W7{dec:rk}(vb:K' dec)(k:Good h X c ρ σ (λ_=>0) (λ_=>0)){x:bD}(ab:x∈σ.ax){p:Nat}{a2 a3:J}
  (ez:∀g,(∀id l,a6.Obj h id l->id<h.next->ρ id=0->a6.Obj g id l)->h.next<=g.next->∀r there s sh,bN (call ai PV a3 [.agg (aH.vs r),.bool there,ba.dz s,.int .i64 sh] g) λv bH=>v=.int .i64 (dec r there s sh)/\aX g bH) :
  bN (call ai PV (.func 87 [] []) [.ptr x.s 0,.int .i64 p,a2,a3] h) λv g=>bG ρ h g/\∃i aG a8 cn,(∀i,i<h.next->a8 i=ρ i)/\Good g X c a8 aG (λ_=>0) (λ_=>0)/\kK c dec x.s p i σ aG/\i<=200/\cn∈aG.ax/\cn.s=x.s/\cn.L=x.L/\view c aG=view c σ/\
   ((v=.tuple [.int .i64 0,.int .i64 19]/\cY dec aG cn p=2)\/
    (v=.tuple [.int .i64 (cn.T.ent p).n,.int .i64 0]/\cY dec aG cn p=1/\bO x.L p≠none)\/
    (v=.tuple [.int .i64 0,.int .i64 18]/\nD dec x.L p/\(i=200\/aG.free<4/\pt c aG/\cY dec aG cn p≠1/\cY dec aG cn p≠2/\cY dec aG cn p≠7))):=by
 refine cF aez rfl ?_
 refine gW (n:=14) (I:=λi vs g=>vs=[.int .i64 0,.int .i64 0,.int .i64 (i:Nat)]/\i<=200/\bG ρ h g/\∃aG a8 cn,(∀i,i<h.next->a8 i=ρ i)/\Good g X c a8 aG (λ_=>0) (λ_=>0)/\(kK c dec x.s p i σ aG/\(0<i->nD dec x.L p))/\cn∈aG.ax/\cn.s=x.s/\cn.L=x.L/\view c aG=view c σ) (m:=200)
  (P:=λy vs g=>bG ρ h g/\∃i aG a8 cn,(∀i,i<h.next->a8 i=ρ i)/\Good g X c a8 aG (λ_=>0) (λ_=>0)/\(kK c dec x.s p i σ aG/\(0<i->nD dec x.L p))/\i<=200/\cn∈aG.ax/\cn.s=x.s/\cn.L=x.L/\view c aG=view c σ/\
    ((y=.exit 0/\i=200/\vs.length=3)\/(y=.ret/\∃a b d,vs=[a,b,d]/\
    ((a=.int .i64 0/\b=.int .i64 19/\cY dec aG cn p=2)\/
     (a=.int .i64 (cn.T.ent p).n/\b=.int .i64 0/\cY dec aG cn p=1/\bO x.L p≠none)\/
     (a=.int .i64 0/\b=.int .i64 18/\nD dec x.L p/\(aG.free<4/\pt c aG/\cY dec aG cn p≠1/\cY dec aG cn p≠2/\cY dec aG cn p≠7)))))) (by decide) ⟨rfl,by omega,bG.ext (aF.refl _ _),σ,ρ,x,λ_ _=>rfl,k,⟨.nil σ,λh=>absurd h (by omega)⟩,ab,rfl,rfl,rfl⟩ ?_ ?_
 ·rintro i _ h1 U ⟨rfl,r3,aW,aT,c3,bB,gJ,a',c7,gq,gO,tB,iC⟩;simp only[bn,bd,cQ,ak,a1];by_cases ci:(i:Int) <200
  ·rw[if_pos (by simpa using ci)];have oq:=a'.sys.ax bB gq;have Cl:=oq.field;obtain⟨e0,ol,ij,nq⟩:=oq.str;rw[gO]at ol Cl;have dY:=a'.inv.gI bB gq;have CK:=dY.len;have aw:bF .i64 ((i:Int) +1)=((i+1:Nat) :Int):=by rw[wrap_i64 (by omega) (by omega)];omega
   refine fV (P:=λy vs g=>bG ρ h g/\((y=.normal/\vs=[.int .i64 0,.int .i64 0]/\∃aG a8 cn,(∀i,i<h.next->a8 i=ρ i)/\Good g X c a8 aG (λ_=>0) (λ_=>0)/\(kK c dec x.s p (i+1) σ aG/\(0<i+1->nD dec x.L p))/\cn∈aG.ax/\cn.s=x.s/\cn.L=x.L/\view c aG=view c σ)\/
     (y=.ret/\∃i aG a8 cn,(∀i,i<h.next->a8 i=ρ i)/\Good g X c a8 aG (λ_=>0) (λ_=>0)/\(kK c dec x.s p i σ aG/\(0<i->nD dec x.L p))/\i<=200/\cn∈aG.ax/\cn.s=x.s/\cn.L=x.L/\view c aG=view c σ/\∃a b,vs=[a,b]/\((a=.int .i64 0/\b=.int .i64 19/\cY dec aG cn p=2)\/
    (a=.int .i64 (cn.T.ent p).n/\b=.int .i64 0/\cY dec aG cn p=1/\bO x.L p≠none)\/
    (a=.int .i64 0/\b=.int .i64 18/\nD dec x.L p/\(aG.free<4/\pt c aG/\cY dec aG cn p≠1/\cY dec aG cn p≠2/\cY dec aG cn p≠7)))))) ?_ ?_
   ·simp only[b2,J2,Nat.zero_add,ak,sS,Obj.get ol (i:=2) rfl];refine bS (Yn ij (by omega) p) ?_;rintro _ av ⟨rfl,bw⟩;simp only[hg,ak];refine b1 yn λg4 c5 gb bA=> ?_
    refine cb (wi (k:=0) (cs:=((bO bB.L p).getD aH.zero).vs) c5 rfl (by simp[aH.vs]) rfl) λg5 ⟨cS,bZ,n5⟩=> ?_
    have cS:=dC cS rfl;have s4:aX av g5:=bA.local bZ (λj az e=>by omega);have wq:=bw.trans s4;have d_:=a'.ext wq;have f5:=(d_.sys.ax bB gq).field;rw[gO]at f5;simp only[b2,uv,Nat.zero_add,ak,ov,f5.2];refine bS (Sd d_.ps (d_.lD gq) p) ?_;rintro _ g6 ⟨rfl,b3⟩;simp only[hg,ak];refine b1 sN λg7 dP n7 dM=> ?_
    refine cb (pe (k:=0) (cs:=(bB.T.ent p).vs) dP rfl (by simp[ba.vs]) rfl) λg8 ⟨hG,u8,n8⟩=> ?_
    have hG:=dC hG rfl;have UB:aX g6 g8:=dM.local u8 (λj az e=>by omega);have bC:aX g8 (g8.aV 9):=aF.aV _ _ _;have r5:=bw.next;have xu:=b3.next;have IK:=((cS.ext b3 (by omega)).ext UB (by omega));have PT:=IK.ext bC (by omega);have PZ:=hG.ext bC (by omega);rw[i' PT (by simp[aH.vs]),A2 PZ (by simp[ba.vs])];simp only[ak];rw[show List.take 6 (List.drop 0 ((bO bB.L p).getD aH.zero).vs)=((bO bB.L p).getD aH.zero).vs from rfl,show J.agg (List.take 5 (List.drop 0 (bB.T.ent p).vs))=(bB.T.ent p).dz from rfl];have Uu:=((wq.trans b3).trans UB).trans bC;have xL:=a'.ext Uu;have xD:=ail xL.sys gq (bB.T.ent p) (λaC=>⟨(l1 (a'.inv.kX gq (gE aC))).1,by rw[a'.dn.n];exact a'.inv.here bB p gq aC⟩) (λaY=>⟨(l1 (a'.inv.kX gq (x3 aY))).1,by rw[a'.dn.cG];exact a'.inv.out bB p gq aY⟩);rw[gO]at xD;refine bS xD ?_;rintro _ g9 ⟨rfl,e2⟩;have Uv:=Uu.trans e2;have re:bG ρ h g9:=aW.trans (bG.ext (ρ:=c3) Uv) gJ;refine bS (ez g9 (λid l o ar ah=>re.ca o ar ah) re.next _ _ _ _) ?_;rintro _ g10 ⟨rfl,gV⟩;have Ut:=Uv.trans gV;have n4:=a'.ext Ut;have pn:bG ρ h g10:=aW.trans (bG.ext (ρ:=c3) Ut) gJ;have n9:=e2.next;have n10:=gV.next;have aaK:(g8.aV 9).next=g8.next+9:=rfl
    have PU:=PT.ext e2 (by omega);have PY:=PZ.ext e2 (by omega);have PS:=PU.ext gV (by omega);have PX:=PY.ext gV (by omega);simp only[dh];rw[wT (by rw[A2 PY (by simp[ba.vs])];rfl),dh,wT (by rw[i' PU (by simp[aH.vs])];rfl),dh];have zo:dec ((bO bB.L p).getD aH.zero) (bO bB.L p).isSome (bB.T.ent p) (mO aT (bB.T.ent p))=cY dec aT bB p:=rfl;rw[zo];have gn:cY dec aT bB p=1\/cY dec aT bB p=2\/cY dec aT bB p=3\/cY dec aT bB p=4\/cY dec aT bB p=5\/cY dec aT bB p=6\/cY dec aT bB p=7:=vb.all _ _ _ _
    have Nr:cY dec aT bB p≠2->∃r,bO bB.L p=some r/\cY dec aT bB p=dec r true (bB.T.ent p) (mO aT (bB.T.ent p)):=λcE=>by
     cases ah:bO bB.L p with
     |none=>exact absurd (by unfold cY;rw[ah];exact vb.no _ _ _) cE
     |some r=>exact⟨r,rfl,by unfold cY;rw[ah];rfl⟩
    generalize ae:cY dec aT bB p=v at gn Nr;simp only[c2,ak,a1];by_cases bW:v=2
    ·rw[if_pos (by simpa using bW)];exact aJ.pure ⟨pn,.inr ⟨rfl,i,aT,c3,bB,gJ,n4,c7,r3,gq,gO,tB,iC,_,_,rfl,.inl ⟨rfl,rfl,by rw[ae];exact bW⟩⟩⟩
    rw[if_neg (by simpa using bW)];obtain⟨r,ah,xH⟩:=Nr bW;have aa':bO x.L p≠none:=by rw[<-tB,ah];simp
    have mh:nD dec x.L p:=⟨r,_,_,tB▸ah,λe=>bW (xH.trans e)⟩;by_cases bc:v=1
    ·rw[if_pos (by simpa using bc)];have eu:bE g10 g6.next 4=some (.int .i64 (bB.T.ent p).n):=PX.rd 4;simp only[lG,Nat.zero_add,b6,eu,ak];exact aJ.pure ⟨pn,.inr ⟨rfl,i,aT,c3,bB,gJ,n4,c7,r3,gq,gO,tB,iC,_,_,rfl,.inr (.inl ⟨rfl,rfl,by rw[ae];exact bc,aa'⟩)⟩⟩
    rw[if_neg (by simpa using bc)];have N2:(bO bB.L p).getD aH.zero=r:=by rw[ah];rfl
    rw[N2]at PS
    have NZ:p<4096:=by have h1:=mL ah;have aa:=lB (dY.may r h1.1);omega
    have rT:v=3\/v=4\/v=5\/v=6\/v=7:=by
     rcases gn with h|h|h
     ·exact absurd h bc
     ·exact absurd h bW
     ·exact h
    have qy:=F' (λaI=>a'.inv.kX gq aI) (s:=bB.T.ent p)
    have Ml:(v=7\/4<=aT.free)->aJ (cd (dJ ai g10 47 (.ptr av.next 0)) λv44=>cd (dJ ai g10 169 (.ptr g6.next 0)) λakv=>eM (call ai PV (.func 165 [] []) [.ptr x.s 0,v44,.int .i64 p,.int .i64 v,akv] g10) λv46 GH=>some (cW.normal,[J.int .i64 0,.int .i64 0],GH)) λy vs g=>bG ρ h g/\((y=.normal/\vs=[.int .i64 0,.int .i64 0]/\∃aG a8 cn,(∀i,i<h.next->a8 i=ρ i)/\Good g X c a8 aG (λ_=>0) (λ_=>0)/\(kK c dec x.s p (i+1) σ aG/\(0<i+1->nD dec x.L p))/\cn∈aG.ax/\cn.s=x.s/\cn.L=x.L/\view c aG=view c σ)\/(y=.ret/\∃i aG a8 cn,(∀i,i<h.next->a8 i=ρ i)/\Good g X c a8 aG (λ_=>0) (λ_=>0)/\(kK c dec x.s p i σ aG/\(0<i->nD dec x.L p))/\i<=200/\cn∈aG.ax/\cn.s=x.s/\cn.L=x.L/\view c aG=view c σ/\∃a b,vs=[a,b]/\((a=.int .i64 0/\b=.int .i64 19/\cY dec aG cn p=2)\/(a=.int .i64 (cn.T.ent p).n/\b=.int .i64 0/\cY dec aG cn p=1/\bO x.L p≠none)\/(a=.int .i64 0/\b=.int .i64 18/\nD dec x.L p/\(aG.free<4/\pt c aG/\cY dec aG cn p≠1/\cY dec aG cn p≠2/\cY dec aG cn p≠7))))):=λaB=>by
     rw[i' PS (by simp[aH.vs])];simp only[ak];rw[A2 PX (by simp[ba.vs])];simp only[ak];rw[show List.take 6 (List.drop 0 r.vs)=r.vs from rfl,show J.agg (List.take 5 (List.drop 0 (bB.T.ent p).vs))=(bB.T.ent p).dz from rfl]
     have qx:=XA n4 gq NZ ah (act:=v) (λe=>by have:=vb.d3 r _ _ (xH.symm.trans e);exact⟨qy this.1 this.2.1,this.2.2⟩) (λe=>by have:=vb.d4 r _ _ (xH.symm.trans e);exact⟨qy this.1 this.2.1,this.2.2⟩)
      (λe=>vb.d5 r _ _ (xH.symm.trans e)) (λe=>vb.d6 r _ _ (xH.symm.trans e)) (λe=>by
        have:=vb.d7 r _ _ (xH.symm.trans e);refine⟨this.1,?_⟩;have aa:=this.2;unfold mO at aa;rw[if_pos this.1]at aa
        omega) rT aB
     rw[gO]at qx;refine bS qx ?_;rintro _ g14 ⟨KR,b_,ek,AG,Df,uS⟩;obtain⟨kG,cA,cM,dt,_⟩:=UM uS.view gq;refine aJ.pure ⟨pn.trans KR gJ,.inl ⟨rfl,rfl,b_,ek,kG,λj az=>(AG j (Nat.lt_of_lt_of_le az pn.next)).trans (gJ j az),Df,⟨.B3 c7.1 a'.inv gq gO ah (by rw[ae];exact bc) (by rw[ae];exact bW) (by rw[ae];exact aB) (by rw[ae];exact uS),λ_=>mh⟩,cA,cM.trans gO,dt.trans tB,uS.view.trans iC⟩⟩
    simp only[dc,ak];by_cases mZ:v=7
    ·rw[decide_eq_false (show¬(v≠7)from λh=>h mZ)];simp only[cJ,Bool.false_eq_true,if_false,cO,bn,bd,cB,ak,a1];exact Ml (.inl mZ)
    ·rw[decide_eq_true (show v≠7 from mZ)];have f10:=(n4.sys.ax bB gq).field;rw[gO]at f10;simp only[cJ,if_true,b2,q1,lF,ak,lH,gK,f10.1,n4.sys.field.1,Gx n4.sys.core.ps.p,c1,cQ,cO,bn,bd,cB,a1];by_cases e5:(aT.free:Int) <4
     ·rw[if_pos (by simpa using e5)];refine bS (Ps n4) ?_;rintro _ g13 ⟨UO,b,b_,rfl,OG,md,af⟩;simp only[fA,ak,a1];obtain⟨kG,cA,cM,dt,dK⟩:=UM md.view gq;cases b with
      |true=>
       rw[if_neg (by decide)];exact aJ.pure ⟨pn.trans UO gJ,.inl ⟨rfl,rfl,b_,c3,kG,gJ,OG,⟨.make c7.1 gq gO (by rw[ae];exact bc) (by rw[ae];exact bW) (by rw[ae];exact mZ) (by omega) a'.inv md,λ_=>mh⟩,cA,cM.trans gO,dt.trans tB,md.view.trans iC⟩⟩
      |false=>
       rw[if_pos (by decide)];obtain⟨vx,AQ⟩:=af rfl;have m':bB∈b_.ax:=by rw[vx.ax];exact gq
       have GS:cY dec b_ bB p=v:=by rw[<-ae];unfold cY mO;rw[vx.held,vx.bQ]
       refine aJ.pure ⟨pn.trans UO gJ,.inr ⟨rfl,i,b_,c3,bB,gJ,OG,?_,r3,m',gO,tB,md.view.trans iC,_,_,rfl,.inr (.inr ⟨rfl,rfl,mh,by rw[vx.free];omega,AQ,by rw[GS];exact bc,by rw[GS];exact bW,by rw[GS];exact mZ⟩)⟩⟩;exact⟨.idle c7.1 (by omega) a'.inv vx,c7.2⟩
     ·rw[if_neg (by simpa using e5)];exact Ml (.inr (by omega))
   ·rintro y vs g ⟨w,⟨rfl,rfl,aG,a8,cn,gh,gi,hH,g_,jt,pW,uc⟩ |⟨rfl,j,aG,a8,cn,gh,gi,hH,Ay,g_,jt,pW,uc,a,b,rfl,Ji⟩⟩
    ·simp only[bn,bd,hf,cP,aw,ak];exact aJ.pure (.inl ⟨rfl,by omega,rfl,by omega,w,aG,a8,cn,gh,gi,hH,g_,jt,pW,uc⟩)
    ·simp only[bn,bd,B8];exact aJ.pure (.inr ⟨by simp,w,j,aG,a8,cn,gh,gi,hH,Ay,g_,jt,pW,uc,.inr ⟨rfl,a,b,_,rfl,Ji⟩⟩)
  ·rw[if_neg (by simpa using ci)];have:i=200:=by omega
   exact aJ.pure (.inr ⟨by simp,aW,i,aT,c3,bB,gJ,a',c7,r3,gq,gO,tB,iC,.inl ⟨rfl,this,rfl⟩⟩)
 ·rintro y vs g ⟨w,i,aG,a8,cn,gh,gi,hH,Ay,g_,jt,pW,uc,⟨rfl,rfl,ar⟩ |⟨rfl,a,b,d,rfl,Ji⟩⟩
  ·obtain⟨v1,v2,v3,rfl⟩ :∃v1 v2 v3,vs=[v1,v2,v3]:=by
    match vs,ar with
    |[a,b,c],_=>exact⟨a,b,c,rfl⟩
   simp only[bn,bd,fZ,if_true];exact aJ.pure ⟨w,200,aG,a8,cn,gh,gi,hH.1,by omega,g_,jt,pW,uc,.inr (.inr ⟨rfl,hH.2 (by decide),.inl rfl⟩)⟩
  ·simp only[bn,bd,qj];refine aJ.pure ⟨w,i,aG,a8,cn,gh,gi,hH.1,Ay,g_,jt,pW,uc,?_⟩;rcases Ji with⟨rfl,rfl,q⟩ |⟨rfl,rfl,q⟩ |⟨rfl,rfl,q⟩
   ·exact .inl ⟨rfl,q⟩
   ·exact .inr (.inl ⟨rfl,q⟩)
   ·exact .inr (.inr ⟨rfl,q.1,.inr q.2⟩)
end
end
end Go.Proofs.YtkdjcmpgnkecfaaGreatDoor
end
