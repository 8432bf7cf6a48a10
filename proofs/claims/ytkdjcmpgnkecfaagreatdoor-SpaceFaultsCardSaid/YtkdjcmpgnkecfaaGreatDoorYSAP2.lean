/-
  Texts B0 G0 R5 W23 R7 W60 M3 M4, joined; own names made short.
-/
import Derived.Test.YtkdjcmpgnkecfaaGreatDoorYSAP1
set_option linter.unusedVariables false
set_option linter.unusedSimpArgs false
set_option linter.unusedSectionVars false
set_option exponentiation.threshold 600
noncomputable section
namespace Go.Proofs.YtkdjcmpgnkecfaaGreatDoor
instance:DecidableEq bj:=λa b=>
 if h:a.here=b.here/\a.write=b.write/\a.copy=b.copy/\a.out=b.out/\a.n=b.n then isTrue (by cases a;cases b;simp_all)else isFalse (by rintro rfl;simp at h)
instance:DecidableEq aU:=λa b=>
 if h:a.lo=b.lo/\a.af=b.af/\a.perm=b.perm/\a.kind=b.kind/\a.file=b.file/\a.bM=b.bM then isTrue (by cases a;cases b;simp_all)else isFalse (by rintro rfl;simp at h)
open Go.a8
theorem aqA{h:ae}{id k:Nat}{l cs:List aa}(o:a8.Obj h id l)(ay:cs.length=3)(av:k+cs.length<=l.length)(ai:cs.all dH=true) :∃g,bN J h 27 (.ptr id k) (.agg cs)=some g/\(a8.Obj g id (l.take k++cs++l.drop (k+cs.length))/\aM (λj=>j=id) h g/\g.next=h.next):=tt (i:=DX) (by kernel_rfl) (by decide) o ay av ai
theorem apH:dz J 27=some (λid=>aa.ptr id 0,.cells ([.int .i64 0,.int .i64 0,.int .i64 0] :List aa).length false [] (bu.ofList [.int .i64 0,.int .i64 0,.int .i64 0])):=nP (i:=DX) (by kernel_rfl) rfl
theorem aqc{id off n:Nat}(aw:n<3) :cZ J 27 (.ptr id off) (.int .i64 n)=some (.ptr id (off+n)):=by have:=UY (E:=J) (t:=27) (i:=DX) (ie:=lA) (by kernel_rfl) rfl (by kernel_rfl) aw (id:=id) (off:=off);rwa[show off+n*lA.size=off+n by show off+n*1=_;omega]at this
section
set_option maxRecDepth 100000
variable{PV:cn} [cN PV]
def Br(a0:aa)(C:bW)(h:ae) :Option a1:=U (ax J h .eql 42 a0 .nilPtr) λv1=>bq v1 (some (.ret,[(.int .i64 0)],h)) (U (bB a0) λv2=>U (aQ J 156 v2 0) λv3=>U (ak J h 152 v3) λv4=>a7 (C (.func 80 [] []) [v4] h) λv5 h1=>some (.ret,[v5],h1))
theorem Mb{a0:aa} :LT PV 36 [a0] (Br a0):=
 cc (f:=Tryz.f36) (.seq (.ah []) (.seq (.seq (.ah []) (.cond (.seq (.ah []) .leaf) .leaf)) (.seq (.ah []) .leaf))) (by kernel_rfl) (b' rfl (by kernel_rfl)) λ_ _=>by kernel_rfl
end
section
variable{PV:cn} [cN PV]
section
variable{h g:ae}{X:ew}{ρ bD:Nat->Nat}{σ aR:b8}
theorem C6(k:Sys h X ρ σ) :call J PV (.func 36 [] []) [.ptr X.M 0] h=some (.int .i64 σ.free,h):=by refine Mb (x:=.ret) (vs:=[.int .i64 σ.free]) (first:=[]) (cap:=[]) ?_ rfl;simp only[Br,p4,ar,ba,Bool.false_eq_true,if_false,cl,k7,ha,k.field.1,zz k.core.ps.p,c3]
end
end
section
set_option maxRecDepth 100000
variable{PV:cn} [cN PV]
def Rc(a0 ao a2:aa)(C:bW)(h:ae) :Option a1:=a7 (C (.func 28 [] []) [] h) λv1 h1=>a7 (C (.func 29 [] []) [(.int .i64 64),(.int .i64 4)] h1) λv2 ab=>U (cm v2 0) λv3=>U (cm v2 1) λv4=>U (ax J ab .eql 42 v3 .nilPtr) λv5=>bq v5 (some (.ret,[(.bool false)],ab)) (a7 (C (.func 30 [] []) [v3] ab) λv6 al=>U (cm v6 0) λbl=>U (cm v6 1) λbA=>U (ax J al .neq 29 bA (.int .i64 0)) λv9=>bG (b7 v9 false (U (ax J al .and 3 a0 (.int .i64 7)) λv10=>a7 (C (.func 35 [] []) [(.int .i64 1),(.int .i64 2),v10] al) λv11 aE=>a7 (C (.func 31 [] []) [bl,v11] aE) λv12 aL=>U (ax J aL .neq 29 v12 (.int .i64 0)) λcd=>some (.normal,[cd],aL)) (some (.normal,[.undef],al))) λ_ aK bm=>a_ aK λb9 kp=>br kp (U (bZ v9 (.bool true) b9) λch=>bq ch (some (.ret,[(.bool false)],bm)) (a7 (C (.func 36 [] []) [v3] bm) λcj cr=>U (ax J cr .rem 3 a2 (.int .i64 192)) λcC=>U (ax J cr .add 3 cC (.int .i64 192)) λcx=>U (ax J cr .rem 3 cx (.int .i64 192)) λcL=>U (ax J cr .rem 3 ao (.int .i64 3)) λv20=>U (ax J cr .add 3 v20 (.int .i64 3)) λv21=>U (ax J cr .rem 3 v21 (.int .i64 3)) λv22=>U (ax J cr .add 3 (.int .i64 1) v22) λv23=>U (dY J 27 [(0,(.int .i64 4)),(1,(.int .i64 2)),(2,(.int .i64 1))]) λv24=>ca (dz J 27) cr λv25 cz=>U (bN J cz 27 v25 v24) λc6=>U (ax J c6 .quo 3 cL (.int .i64 64)) λv26=>U (ax J c6 .eql 3 v26 (.int .i64 1)) λv27=>bG (b7 v27 true (U (ax J c6 .sub 3 v23 (.int .i64 1)) λv28=>U (cZ J 27 v25 v28) λv29=>U (ak J c6 3 v29) λv30=>U (ax J c6 .and 3 a0 v30) λv31=>U (ax J c6 .neq 3 v31 (.int .i64 0)) λv32=>some (.normal,[v32],c6)) (some (.normal,[.undef],c6))) λ_ aK dF=>a_ aK λv33 Eh=>br Eh (U (bZ v27 v33 (.bool false)) λeP=>a7 (C (.func 33 [] []) [bl,cL,v23,(.int .u8 120)] dF) λv35 dZ=>U (cm v35 0) λv36=>U (cm v35 1) λv37=>U (gQ .not eP) λfE=>bq fE (bG (b7 v1 true (U (ax J dZ .eql 29 v37 (.int .i64 19)) λfy=>some (.normal,[fy],dZ)) (some (.normal,[.undef],dZ))) λ_ aK dv=>a_ aK λv40 Ek=>br Ek (U (bZ v1 v40 (.bool false)) λv41=>bG (b7 v41 true (U (ax J dv .eql 5 v36 (.int .u8 0)) λgv=>some (.normal,[gv],dv)) (some (.normal,[.undef],dv))) λ_ aK e5=>a_ aK λfF El=>br El (U (bZ v41 fF (.bool false)) λv44=>bG (b7 v44 true (a7 (C (.func 36 [] []) [v3] e5) λgI eX=>U (ax J eX .eql 3 gI cj) λv46=>some (.normal,[v46],eX)) (some (.normal,[.undef],e5))) λ_ aK hd=>a_ aK λgR En=>br En (U (bZ v44 gR (.bool false)) λhb=>some (.ret,[hb],hd))))) (U (ax J dZ .eql 3 v23 (.int .i64 2)) λv49=>bG (bq v49 (some (.normal,[(.int .u8 120)],dZ)) (some (.normal,[(.int .u8 0)],dZ))) λarW aK hC=>a_ aK λix Pc=>br Pc (jF arW (bG (b7 v1 true (U (ax J hC .eql 29 v37 (.int .i64 0)) λv51=>some (.normal,[v51],hC)) (some (.normal,[.undef],hC))) λ_ aK hv=>a_ aK λiy Eo=>br Eo (U (bZ v1 iy (.bool false)) λv53=>bG (b7 v53 true (U (ax J hv .eql 5 v36 ix) λic=>some (.normal,[ic],hv)) (some (.normal,[.undef],hv))) λ_ aK hx=>a_ aK λig Pe=>br Pe (U (bZ v53 ig (.bool false)) λjD=>bG (b7 jD true (a7 (C (.func 36 [] []) [v3] hx) λv57 kt=>U (ax J kt .lss 3 v57 cj) λj8=>some (.normal,[j8],kt)) (some (.normal,[.undef],hx))) λ_ aK kV=>a_ aK λv59 Pg=>br Pg (U (bZ jD v59 (.bool false)) λjQ=>bG (b7 jQ true (a7 (C (.func 34 [] []) [v3] kV) λjm lp=>some (.normal,[jm],lp)) (some (.normal,[.undef],kV))) λ_ aK nq=>a_ aK λjR Pj=>br Pj (U (bZ jQ jR (.bool false)) λv63=>some (.ret,[v63],nq)))))) (some (.ret,[(.bool false)],hC)) λi=>none))))))
theorem akk{a0 ao a2:aa} :LT PV 5 [a0,ao,a2] (Rc a0 ao a2):=
 cc (f:=Tryz.f5) (.seq (.ah []) (.seq (.ah []) (.seq (.ah []) (.seq (.seq (.ah []) (.cond (.seq (.ah []) .leaf) .leaf)) (.seq (.ah []) (.seq (.seq (.ah [[40]]) (.cond (.seq (.ah []) .leaf) .leaf)) (.seq (.ah []) (.seq (.ah []) (.seq (.ah []) (.seq (.ah []) (.seq (.ah [[64]]) (.seq (.ah []) (.seq (.seq (.ah []) (.cond (.seq (.ah [[78],[82],[88]]) .leaf) .leaf)) (.seq (.ah []) (.seq (.seq (.ah []) (.cut [19] [] (.cond (.ah []) .leaf))) (.seq (.ah [[95],[100],[106],[110]]) .leaf)))))))))))))))) (by kernel_rfl) (b' rfl (by kernel_rfl)) λ_ _=>by kernel_rfl
end
section
variable{PV:cn} [cN PV]
theorem JG{dec:Nat->Nat->bj}{n:Nat}{T:dt}(h:hB dec n T) :1<=T.ee:=by
 unfold dt.ee;simp only[dx]
 have:(T.bd 0 0).isSome=true:=by
  cases e:T.bd 0 0 with
  |none=>exact absurd e h.root
  |some f=>rfl
 have h1:cq (λq=>(T.bd 0 q).isSome) (8^0)=1:=by show 0+((T.bd 0 0).isSome).toNat=1;rw[this];rfl
 generalize cq (λq=>(T.bd 1 q).isSome) (8^1)=ao at*
 generalize cq (λq=>(T.bd 2 q).isSome) (8^2)=a2 at*
 generalize cq (λq=>(T.bd 3 q).isSome) (8^3)=a3 at*
 generalize cq (λq=>(T.bd 0 q).isSome) (8^0)=a0 at*
 omega
theorem ML{l:List bH}{x:bH}(h:x∈l) :x.T.ee<=j2 l:=by obtain⟨a,b,rfl⟩:=List.append_of_mem h;rw[MK];show _<=_+(x.T.ee+j2 b);omega
end
theorem abf(a:Int) :∃m:Nat,m<=7/\jb .i64 a 7=m/\BitVec.ofInt 64 (m:Int)=BitVec.ofInt 64 a&&&BitVec.ofInt 64 7:=by
 have hle:(BitVec.ofInt 64 a&&&BitVec.ofInt 64 7).toNat<=7:=by rw[BitVec.toNat_and];exact Nat.le_trans Nat.and_le_right (by decide)
 refine⟨_,hle,?_,?_⟩
 ·show IntKind.i64.wrap (((BitVec.ofInt 64 a&&&BitVec.ofInt 64 7).toNat:Nat) :Int)=_;generalize (BitVec.ofInt 64 a&&&BitVec.ofInt 64 7).toNat=n at hle;have:n=0\/n=1\/n=2\/n=3\/n=4\/n=5\/n=6\/n=7:=by omega
  rcases this with rfl|rfl|rfl|rfl|rfl|rfl|rfl|rfl<;>decide
 ·rw[BitVec.ofInt_natCast,BitVec.ofNat_toNat,BitVec.setWidth_eq]
theorem abg{a:Int}{m:Nat}(h:BitVec.ofInt 64 (m:Int)=BitVec.ofInt 64 a&&&BitVec.ofInt 64 7){b:Int}(aj:b=4\/b=2\/b=1) :jb .i64 (m:Int) b=jb .i64 a b:=by
 show IntKind.i64.wrap (((BitVec.ofInt 64 (m:Int) &&&BitVec.ofInt 64 b).toNat:Nat) :Int)=IntKind.i64.wrap (((BitVec.ofInt 64 a&&&BitVec.ofInt 64 b).toNat:Nat) :Int);rw[h,BitVec.and_assoc];rcases aj with rfl|rfl|rfl
 ·rw[show BitVec.ofInt 64 7&&&BitVec.ofInt 64 4=BitVec.ofInt 64 4 by decide]
 ·rw[show BitVec.ofInt 64 7&&&BitVec.ofInt 64 2=BitVec.ofInt 64 2 by decide]
 ·rw[show BitVec.ofInt 64 7&&&BitVec.ofInt 64 1=BitVec.ofInt 64 1 by decide]
theorem Oy(a:Int){b:Int}(aj:0<b) : -b<a.tmod b/\a.tmod b<b:=by
 by_cases h:0<=a
 ·rw[Int.tmod_eq_emod_of_nonneg h];exact⟨by have:=Int.emod_nonneg a (show b≠0 by omega);omega,Int.emod_lt_of_pos a aj⟩
 ·obtain⟨c,rfl⟩ :∃c,a= -c:=⟨-a,by omega⟩;rw[Int.neg_tmod,Int.tmod_eq_emod_of_nonneg (by omega)];have h1:=Int.emod_nonneg c (show b≠0 by omega);have ab:=Int.emod_lt_of_pos c aj;omega
theorem Hv(a:Int){b:Int}(aj:0<b)(pt:b<=1000000) :∃n:Nat,(n:Int) <b/\(b0 .i64 (a.tmod b+b)).tmod b=n:=by have h:=Oy a aj;rw[wrap_i64 (by omega) (by omega),Int.tmod_eq_emod_of_nonneg (by omega)];have h1:=Int.emod_nonneg (a.tmod b+b) (show b≠0 by omega);have ab:=Int.emod_lt_of_pos (a.tmod b+b) aj;exact⟨((a.tmod b+b) %b).toNat,by omega,by omega⟩
theorem aey{c:df}{σ:b8}{e:Nat->Int}(h:Inv c σ (λ_=>0) e){x:bH}(ag:x∈σ.au){p:Nat}(aD:(x.T.ent p).here=true) :σ.free+2<=c.n:=by have h1:=h.room;have ab:=ML ag;have al:=JG (h.jl x ag);have aE:=h.Cc ag aD;have aL:=zk (f:=λf=>decide (refs σ f≠0)) (h.here x p ag aD) (by simp;omega);omega
theorem akZ:(yg (Dr hA 64 4)).map (λq=>(q.2.2.2.A.n,q.2.2.2.R.c1,rq q.2.2.2.F.cb))=some (64,4,7):=by kernel_rfl
theorem abM:dY J 27 [(0,(.int .i64 4)),(1,(.int .i64 2)),(2,(.int .i64 1))]=some (.agg [.int .i64 4,.int .i64 2,.int .i64 1]):=by kernel_rfl
def rj(u:Nat) :Int:=if u=1 then 4 else if u=2 then 2 else 1
theorem abd{perm:Int}{u:Nat}(h1:1<=u)(al:u<=3) :kO perm u=n0 perm (rj u):=by
 have:u=1\/u=2\/u=3:=by omega
 rcases this with rfl|rfl|rfl<;>rfl
theorem adY(perm use at':Int) :∃g,call J hA (.func 5 [] []) [.int .i64 perm,.int .i64 use,.int .i64 at'] dB=some (.bool true,g):=by
 have key:bh (call J hA (.func 5 [] []) [.int .i64 perm,.int .i64 use,.int .i64 at'] dB) λv g=>v=.bool true:=by
  refine bh.mk (λe=>akk (first:=[]) (cap:=[]) e rfl) ?_;unfold Rc;obtain⟨g1,X,c,ρ,σ,b,cb,m,fX⟩:=Ms akZ;obtain⟨sec,xI⟩:=m.vU;have aF:∀rows,u2 rows<=53->Quiet c rows:=λrows an=>quiet_of m.loose xI (by rw[fX,m.n];omega)
  rw[H4];simp only[c3];rw[Hz m.cQ];simp only[c3,dA,List.getElem?_cons_zero,List.getElem?_cons_succ,ar,p4,ba,Bool.false_eq_true,if_false];refine b4 (Dx m.nm (by rw[m.free];decide)) ?_;rintro v g2 ⟨dT,s,t,f,ev,rfl,wi,oV,b_,pH⟩;obtain⟨pm,atu,adD,FN⟩:=abf perm;have fU:¬((0:Int)≠0):=by decide
  simp only[dA,List.getElem?_cons_zero,List.getElem?_cons_succ,ar,dP,decide_eq_false fU,cP,if_true,xd,adD]
  have lN:(⟨1,2,(pm:Int),2,-1,0⟩ :aU).may=true:=My ⟨by show(0:Int)<=1;omega,by show(1:Int) <2;omega,by show(2:Int)<=4096;omega,by show(0:Int)<=pm;omega,by show(pm:Int)<=7;omega,by
   show(if(2:Int)=1 then _ else _);rw[if_neg (by decide)];show(1:Int) <2/\(2:Int)<=4/\(-1:Int)= -1/\(0:Int)=0
   decide⟩
  refine fO (P:=λy vs g=>vs=[.bool false]/\∃fG qe,Good g X c qe fG (λ_=>0) (λ_=>0)/\fG.free=σ.free-1/\view c fG=[(s,[⟨1,2,pm,2,-1,0⟩],λp:Nat=>if(⟨1,2,pm,2,-1,0⟩ :aU).has p then some 0 else none)]) ?_ ?_
  ·refine b4 (PB g2 1 2 pm) ?_;rintro _ g3 ⟨rfl,bR⟩;refine b4 (B1 m.nm m.loose m.au (b_.ext bR) lN (by show(2:Int)≠1;decide)) ?_;rintro _ g4 ⟨rfl,fq,fG,qe,b3,h1,_,_,ab⟩;simp only[dP,decide_eq_false fU,ar];exact aV.pure ⟨rfl,fG,qe,b3,h1,ab⟩
  rintro _ _ g4 ⟨rfl,fG,qe,b3,v8,oc⟩;generalize dB:(⟨1,2,pm,2,-1,0⟩ :aU)=r at oc lN
  have Ut:∀p:Int,r.has p=decide (p=1):=λp=>by
   rw[<-dB];unfold aU.has;rw[Bool.eq_iff_iff,decide_eq_true_eq,decide_eq_true_eq];constructor
   ·rintro⟨h1,ab⟩;have h1:(1:Int)<=p:=h1;have ab:p<(2:Int):=ab;omega
   ·rintro rfl;exact⟨by show(1:Int)<=1;omega,by show(1:Int) <2;omega⟩
  have Lw:r.perm=pm:=by rw[<-dB]
  have e1:r.lo=1/\r.af=2:=by rw[<-dB];exact⟨rfl,rfl⟩
  have iG:u2 [[r]]=5:=by show(1+((mo 512 r+0) +(mo 64 r+0) +(mo 8 r+0))) +((r.af.toNat-r.lo.toNat) +0) +0=5;unfold mo;rw[e1.1,e1.2];rfl
  have xG:=C6 (PV:=hA) b3.sys;rw[v8,m.free]at xG;obtain⟨A,h6,t'⟩:=Hv at' (b:=192) (by decide) (by decide);obtain⟨ja,asU,adu⟩:=Hv use (b:=3) (by decide) (by decide);have bw:b0 .i64 (1+(ja:Int))=((ja+1:Nat) :Int):=by rw[wrap_i64 (by omega) (by omega)];omega
  have eq:b0 .i64 ((A:Int).tdiv 64)=((A/64:Nat) :Int):=by rw[show(A:Int).tdiv 64=((A/64:Nat) :Int)from rfl,wrap_i64 (by omega) (by omega)]
  simp only[bz,bp,cF,Bool.false_eq_true,if_false,ar,ba,xG,c3,tR .i64 (show(192:Int)≠0 by decide),tR .i64 (show(3:Int)≠0 by decide),du,t',adu,bw,abM];refine cM apH λg5 eH n5 cD=> ?_
  refine cX (aqA (k:=0) (cs:=[.int .i64 4,.int .i64 2,.int .i64 1]) eH rfl (by simp) rfl) λg6 ⟨eO,cJ,n6⟩=> ?_
  have eO:=ff eO rfl;have aqK:bf g4 g6:=cD.local cJ (λj aO e=>by omega);simp only[vF .i64 (show(64:Int)≠0 by decide),eq,ar,dn];have eL:=b3.ext aqK
  have afh:(([.int .i64 4,.int .i64 2,.int .i64 1] :List aa))[ja]? =some (.int .i64 (rj (ja+1))):=by
   have:ja=0\/ja=1\/ja=2:=by omega
   rcases this with rfl|rfl|rfl<;>rfl
  have KH:rj (ja+1)=4\/rj (ja+1)=2\/rj (ja+1)=1:=by
   have:ja=0\/ja=1\/ja=2:=by omega
   rcases this with rfl|rfl|rfl
   ·exact .inl rfl
   ·exact .inr (.inl rfl)
   ·exact .inr (.inr rfl)
  have TH:kO r.perm ((ja+1:Nat) :Int)=decide (jb .i64 perm (rj (ja+1))≠0):=by rw[abd (by omega) (by omega),Lw];unfold n0;rw[abg FN KH]
  have rz:mE [r] (A/64) ((ja+1:Nat) :Int)↔(A/64=1/\jb .i64 perm (rj (ja+1))≠0):=by
   unfold mE;rw[AG,Ut];constructor
   ·rintro⟨q,h1,ab⟩;by_cases aI:((A/64:Nat) :Int)=1
    ·rw[if_pos (by simpa using aI)]at h1;rw[<-Option.some.inj h1,TH]at ab;exact⟨by omega,of_decide_eq_true ab⟩
    ·rw[if_neg (by simpa using aI)]at h1;cases h1
   ·rintro⟨h1,ab⟩;refine⟨r,if_pos (by rw[decide_eq_true_eq];omega),?_⟩;rw[TH];exact decide_eq_true ab
  refine fO (P:=λy vs g=>vs.length=1/\g=g6/\(A/64=1->vs=[.bool (decide (jb .i64 perm (rj (ja+1))≠0))])) ?_ ?_
  ·by_cases bo:((A/64:Nat) :Int)=1
   ·have adI:b0 .i64 (((ja+1:Nat) :Int) -1)=((ja:Nat) :Int):=by rw[wrap_i64 (by omega) (by omega)];omega
    have hE:bP g6 g4.next ja=some (.int .i64 (rj (ja+1))):=by rw[eO.rd];exact afh
    simp only[decide_eq_true bo,cP,if_true,fT,adI,ar,aqc (id:=g4.next) (off:=0) (n:=ja) (by omega),Nat.zero_add,cW,hE,xd,dP];exact aV.pure ⟨rfl,rfl,λ_=>rfl⟩
   ·simp only[decide_eq_false bo,cP,Bool.false_eq_true,if_false];exact aV.pure ⟨rfl,rfl,λh=>absurd h (by omega)⟩
  rintro _ vs Tt ⟨jf,kc,iH⟩;have BN:=kc.symm;subst BN
  obtain⟨v33,rfl⟩ :∃a,vs=[a]:=by
   match vs,jf with
   |[a],_=>exact⟨a,rfl⟩
  have agu:bZ (.bool (decide (((A/64:Nat) :Int)=1))) v33 (.bool false)=some (.bool (decide (A/64=1/\jb .i64 perm (rj (ja+1))≠0))):=by
   by_cases bo:A/64=1
   ·have:=iH bo;simp only[List.cons.injEq,and_true]at this;rw[this,decide_eq_true (show((A/64:Nat) :Int)=1 by omega),cF,if_pos rfl];by_cases cp:jb .i64 perm (rj (ja+1))≠0
    ·rw[decide_eq_true cp,decide_eq_true ⟨bo,cp⟩]
    ·rw[decide_eq_false cp,decide_eq_false (λh=>cp h.2)]
   ·rw[decide_eq_false (show¬((A/64:Nat) :Int)=1 by omega),cF,if_neg (by decide),decide_eq_false (λh=>bo h.1)]
  simp only[bz,bp,agu,ar];have KC:(view c fG).map (·.2.1)=[[r]]:=by rw[oc];rfl
  obtain⟨x,ag,xs,ar2,ar4⟩:=yT (q:=(s,[r],λp:Nat=>if r.has p then some 0 else none)) (by rw[oc];simp:_∈view c fG);have oZ:=aaA (PV:=hA) eL (by rw[p9 (c:=c),KC];exact aF _ (by rw[iG];decide)) ag (addr:=A) (by omega) ((ja+1:Nat) :Int) (b:=120) (by decide);rw[xs,ar2]at oZ;refine b4 oZ ?_;rintro v35 g7 ⟨jn,q',vt,F6,j0,⟨e7,rfl,KZ,mW⟩ |⟨ku,qM,als,Cq,rM,rfl,mW,aul,ahE,atG,af2⟩⟩
  ·have TS:=C6 (PV:=hA) j0.sys;rw[KZ,v8,m.free]at TS;simp only[dA,List.getElem?_cons_zero,List.getElem?_cons_succ,ar,decide_eq_false (λh=>e7 (rz.2 h)),fD,Bool.not_false,ba,if_true,dn,decide_true,cP,c4,bz,bp,cF,TS,c3];exact aV.pure rfl
  ·have KZ:=C6 (PV:=hA) j0.sys;have b6:=aey j0.inv ahE af2;rw[m.n]at b6;have qt:=(rz.1 ku).1
   have ik:qM=0:=by
    rw[ar4]at Cq;have:r.has ((A/64:Nat) :Int)=true:=by rw[Ut,decide_eq_true_eq];omega
    have ab:(if r.has ((A/64:Nat) :Int)=true then some 0 else none)=some qM:=Cq;rw[if_pos this]at ab;exact(Option.some.inj ab).symm
   subst ik;simp only[dA,List.getElem?_cons_zero,List.getElem?_cons_succ,ar,decide_eq_true (rz.1 ku),fD,Bool.not_true,ba,Bool.false_eq_true,if_false,dn];refine fO (P:=λy vs g=>y=.normal/\g=g7/\vs=[.int .u8 ((cB als (A%64) 1:Nat) :Int)]) ?_ ?_
   ·by_cases cp:ja+1=2
    ·rw[if_pos (by rw[decide_eq_true_eq];omega)];rw[if_pos (by omega)]at rM;refine aV.pure ⟨rfl,rfl,?_⟩;rw[rM,ti (by decide)];rfl
    ·rw[if_neg (by rw[decide_eq_true_eq];omega)];rw[if_neg (by omega)]at rM;refine aV.pure ⟨rfl,rfl,?_⟩;rw[rM];have:cB 0 (A%64) 1=0:=by unfold cB;simp
     rw[this];rfl
   rintro _ _ g8 ⟨rfl,nU,rfl⟩;have ads:=nU.symm;subst ads;have ed:(q'.free:Int) <((64-1:Nat) :Int):=by omega
   simp only[bz,bp,jd,decide_true,cP,if_true,c4,cF,ar,KZ,c3,dk,decide_eq_true ed,dn];refine fO (P:=λy vs g=>vs=[.bool true]) (b4 (AO j0) λv g ai=>aV.pure (by rw[ai.1])) ?_;rintro y _ g10 rfl;simp only[bz,bp,cF,if_true,ar];exact aV.pure rfl
 obtain⟨v,g,e,rfl⟩:=key;exact⟨g,e⟩
end Go.Proofs.YtkdjcmpgnkecfaaGreatDoor
end
