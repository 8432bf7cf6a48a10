/-
  Texts B0 L9 G0 D0 R1 W8 R4 W17 W16 W9 W20 R5 W23 W40 W41, joined; own names made short.
-/
import Derived.Test.YtkdjcmpgnkecfaaGreatDoorZ7
set_option linter.unusedVariables false
set_option linter.unusedSimpArgs false
set_option linter.unusedSectionVars false
set_option exponentiation.threshold 600
noncomputable section
namespace Go.Proofs.YtkdjcmpgnkecfaaGreatDoor
instance:DecidableEq bj:=λa b=>
 if h:a.here=b.here/\a.write=b.write/\a.copy=b.copy/\a.out=b.out/\a.n=b.n then isTrue (by cases a;cases b;simp_all)else isFalse (by rintro rfl;simp at h)
instance:DecidableEq aU:=λa b=>
 if h:a.lo=b.lo/\a.af=b.af/\a.perm=b.perm/\a.kind=b.kind/\a.file=b.file/\a.bM=b.bM then isTrue (by cases a;cases b;simp_all)else isFalse (by rintro rfl;simp at h)
end Go.Proofs.YtkdjcmpgnkecfaaGreatDoor
namespace Go.a8
section
variable{E:Env}{t:TypeId}{i:bK}
theorem Nn{e:TypeId}(aW:E.ty t=some i)(aC:i.desc=.pointer e)(h:ae) :ax E h .eql t .nilPtr .nilPtr=some (.bool true):=by simp[ax,uc,gE,aW,aC]
end
end Go.a8
namespace Go.Proofs.YtkdjcmpgnkecfaaGreatDoor
open Go.a8
theorem apO{v:aa}{cs:List aa}(aH:v.cells=cs) :c9 J 156 v=some (λid=>aa.ptr id 0,.cells cs.length false [] (bu.ofList cs)):=kQ (i:=OG) (by kernel_rfl) rfl aH
theorem apT{v:aa}{cs:List aa}(aH:v.cells=cs) :c9 J 288 v=some (λid=>aa.ptr id 0,.cells cs.length false [] (bu.ofList cs)):=kQ (i:=OL) (by kernel_rfl) rfl aH
theorem apU{v:aa}{cs:List aa}(aH:v.cells=cs) :c9 J 295 v=some (λid=>aa.ptr id 0,.cells cs.length false [] (bu.ofList cs)):=kQ (i:=OM) (by kernel_rfl) rfl aH
@[simp] theorem ap6 (id off:Nat) :aQ J 234 (.ptr id off) 1=some (.ptr id (off+1)):=by kernel_rfl
@[simp] theorem aqo (h:ae) :ax J h .eql 32 .nilPtr .nilPtr=some (.bool true):=Nn (i:=yJ) (by kernel_rfl) rfl h
@[simp] theorem aqp (h:ae) (a b:Nat) :ax J h .neq 32 (.ptr a b) .nilPtr=some (.bool true):=No (i:=yJ) (by kernel_rfl) rfl h a b
@[simp] theorem aqq (h:ae) :ax J h .eql 42 .nilPtr .nilPtr=some (.bool true):=Nn (i:=Ba) (by kernel_rfl) rfl h
@[simp] theorem YG (h:ae) (a b:Nat) :ax J h .eql 83 (.ptr a b) .nilPtr=some (.bool false):=r5 (i:=yL) (by kernel_rfl) rfl h a b
@[simp] theorem aqt (h:ae) :ax J h .eql 83 .nilPtr .nilPtr=some (.bool true):=Nn (i:=yL) (by kernel_rfl) rfl h
section
set_option maxRecDepth 100000
variable{PV:cn} [cN PV]
def PZ(a0:aa)(C:bW)(h:ae) :Option a1:=U (ax J h .lss 3 a0 (.int .i64 1)) λv1=>bG (b7 v1 false (U (ax J h .gtr 3 a0 (.int .i64 4096)) λv2=>some (.normal,[v2],h)) (some (.normal,[.undef],h))) λ_ aK h1=>a_ aK λv3 eJ=>br eJ (U (bZ v1 (.bool true) v3) λv4=>bq v4 (some (.ret,[.nilPtr],h1)) (U (ax J (ae.aB h1 9) .mul 3 a0 (.int .i64 64)) λv5=>qi (mn J 135 v5 v5) (h1.next+2) (ae.aB h1 9) λv6 ab=>qi (mn J 64 a0 a0) (h1.next+4) ab λbl al=>U (dY J 268 [(0,v6),(1,bl),(2,a0)]) λbA=>qi (c9 J 268 bA) (h1.next+7) al λv9 aE=>some (.ret,[v9],aE)))
theorem ai4{a0:aa} :LT PV 139 [a0] (PZ a0):=
 cc (f:=Tryz.f139) (.seq (.ah []) (.seq (.seq (.ah [[7]]) (.cond (.seq (.ah []) .leaf) .leaf)) (.seq .drawn .leaf))) (by kernel_rfl) (b' rfl (by kernel_rfl)) λ_ _=>by kernel_rfl
end
section
set_option maxRecDepth 100000
variable{PV:cn} [cN PV]
def PY(a0 ao:aa)(C:bW)(h:ae) :Option a1:=U (ax J h .neq 32 a0 .nilPtr) λv1=>bq v1 (U (bB a0) λv2=>U (aQ J 244 v2 1) λv3=>U (ak J h 3 v3) λv4=>U (pP v4 [ao]) λv5=>U (bB a0) λv6=>U (aQ J 244 v6 1) λbl=>U (bN J h 3 bl v5) λh1=>some (.ret,[],h1)) (some (.ret,[],h))
theorem ai3{a0 ao:aa} :LT PV 138 [a0,ao] (PY a0 ao):=
 cc (f:=Tryz.f138) (.seq (.ah []) (.cond (.ah []) .leaf)) (by kernel_rfl) (b' rfl (by kernel_rfl)) λ_ _=>by kernel_rfl
def PW(a0 ao a2:aa)(C:bW)(h:ae) :Option a1:=U (ax J h .eql 32 a0 .nilPtr) λv1=>bG (b7 v1 false (U (ax J h .lss 3 a2 (.int .i64 0)) λv2=>some (.normal,[v2],h)) (some (.normal,[.undef],h))) λ_ aK h1=>a_ aK λv3 eJ=>br eJ (U (bZ v1 (.bool true) v3) λv4=>bG (b7 v4 false (U (ax J h1 .gtr 3 a2 (.int .i64 4096)) λv5=>some (.normal,[v5],h1)) (some (.normal,[.undef],h1))) λ_ aK ab=>a_ aK λv6 gS=>br gS (U (bZ v4 (.bool true) v6) λbl=>bG (b7 bl false (U (ax J ab .lss 3 ao (.int .i64 0)) λbA=>some (.normal,[bA],ab)) (some (.normal,[.undef],ab))) λ_ aK al=>a_ aK λv9 iz=>br iz (U (bZ bl (.bool true) v9) λv10=>bG (b7 v10 false (a7 (C (.func 134 [] []) [a0] al) λv11 aE=>U (ax J aE .sub 3 v11 a2) λv12=>U (ax J aE .gtr 3 ao v12) λcd=>some (.normal,[cd],aE)) (some (.normal,[.undef],al))) λ_ aK aL=>a_ aK λb9 kp=>br kp (U (bZ v10 (.bool true) b9) λch=>bq ch (some (.ret,[.nilPtr,(.int .i64 1)],aL)) (ca (mn J 64 a2 a2) aL λcj bm=>U (dY J 288 [(0,a0),(1,ao),(2,cj)]) λcC=>ca (c9 J 288 cC) bm λcx cr=>some (.ret,[cx,(.int .i64 0)],cr))))))
theorem ai1{a0 ao a2:aa} :LT PV 136 [a0,ao,a2] (PW a0 ao a2):=
 cc (f:=Tryz.f136) (.seq (.ah []) (.seq (.seq (.ah [[12],[16],[20],[28]]) (.cond (.seq (.ah []) .leaf) .leaf)) (.seq (.ah []) .leaf))) (by kernel_rfl) (b' rfl (by kernel_rfl)) λ_ _=>by kernel_rfl
def Bp(a0:aa)(C:bW)(h:ae) :Option a1:=U (ax J h .eql 154 a0 .nilPtr) λv1=>bq v1 (some (.ret,[(.int .i64 0)],h)) (U (bB a0) λv2=>U (aQ J 288 v2 3) λv3=>U (ak J h 3 v3) λv4=>some (.ret,[v4],h))
theorem Ma{a0:aa} :LT PV 101 [a0] (Bp a0):=
 cc (f:=Tryz.f101) (.seq (.ah []) (.seq (.seq (.ah []) (.cond (.seq (.ah []) .leaf) .leaf)) (.seq (.ah []) .leaf))) (by kernel_rfl) (b' rfl (by kernel_rfl)) λ_ _=>by kernel_rfl
end
section
variable{PV:cn} [cN PV]
section
variable{h g:ae}{D:ij}{sec:Nat->Nat}{dh:Nat}
theorem adk(k:fH h D sec dh){i m:Nat}(af:i<D.n)(aA:i<dh) :bh (call J PV (.func 53 [] []) [.ptr D.d 0,.int .i64 i,.str 64 m] h) λv g=>v=.int .i64 13/\bf h g:=by
 refine bh.mk (λe=>Vt (first:=[]) (cap:=[]) e rfl) ?_;unfold IS;refine cM (Og (cs:=[.ptr D.d 0]) rfl) λg1 ct dR bb=> ?_
 refine cM (yC (cs:=[.int .i64 (i:Nat)]) rfl) λg2 cE eN bn=> ?_
 refine cM (Yl (cs:=[.str 64 m]) rfl) λg3 cO gp bR=> ?_
 have b6:=k.lt;have jz:=ct.ext (bn.trans bR) (by omega);have yj:=cE.ext bR (by omega);have fM:bf h g3:=(bb.trans bn).trans bR;simp only[u9,cW,Obj.get jz (i:=0) rfl,Obj.get yj (i:=0) rfl,ar];have b3:=k.ext fM;refine b4 (OW b3 af (Q:=λv g=>v=.int .i64 13/\bf g3 g) ?_) ?_
 ·refine bh.mk (λe=>Vh (first:=[]) (mid:=[_]) (cap:=[_,_,_]) e rfl) ?_;unfold IE;have cf:bf g3 (g3.aB 7):=aM.aB _ _ _;have ta:=b3.ext cf;have hP:bP (g3.aB 7) D.d 1=some (.int .i64 (dh:Nat)):=by obtain⟨ex,r,w,o⟩:=ta.str;exact o.rd 1
  have bo:(i:Int) <(dh:Int):=by omega
  rw[dd]at hP;simp only[A2,Obj.get cO (i:=0) rfl,ar,Af,dP,ba];rw[if_neg (by decide)];simp only[u9,cW,Obj.get jz (i:=0) rfl,Obj.get yj (i:=0) rfl,dd,ar,cl,Ol,Nat.zero_add,hP,dk,ba,eh,decide_eq_true_eq,if_pos bo];exact aV.pure ⟨rfl,cf⟩
 ·rintro _ g4 ⟨rfl,bO⟩;exact aV.pure ⟨rfl,fM.trans bO⟩
theorem aoJ(k:fH h D sec dh){n:Nat}(aw:n<=16384) :bh (call J PV (.func 138 [] []) [.ptr D.d 0,.int .i64 n] h) λv g=>fH g D sec (max dh n)/\aM (λj=>j=D.d) h g:=by
 refine bh.mk (λe=>ai3 (first:=[]) (cap:=[]) e rfl) ?_;unfold PY;obtain⟨ex,r,w,o⟩:=k.str
 have em:pP (.int .i64 (dh:Nat)) [.int .i64 n]=some (.int .i64 ((max dh n:Nat) :Int)):=by
  have aA:=k.s;show some (aa.int .i64 (bif mm (dh:Int) (n:Int)then(n:Int)else(dh:Int)))=_;by_cases c:(dh:Int) <n
  ·have:mm (dh:Int) n=true:=by rw[oi];simpa using c
   rw[this];show some (aa.int .i64 (n:Int))=_;rw[show max dh n=n by omega]
  ·have:mm (dh:Int) n=false:=by rw[oi];simpa using c
   rw[this];show some (aa.int .i64 (dh:Int))=_;rw[show max dh n=dh by omega]
 simp only[aqp,ar,ba,if_true,cl,Ol,Nat.zero_add,cW,Obj.get o (i:=1) rfl,em];refine cX (m5 (k:=1) (v:=.int .i64 ((max dh n:Nat) :Int)) o (by simp) rfl rfl) λg ⟨cg,u,ho⟩=> ?_
 refine aV.pure ⟨⟨k.n,by have:=k.s;omega,by rw[ho];exact k.lt,k.ne,⟨ex,r,w,cg⟩,?_⟩,u⟩;rw[u.get _ k.lt.2 (λe=>k.ne e.symm)];exact k.bytes
end
end
section
set_option maxRecDepth 100000
variable{PV:cn} [cN PV]
def PX(a0:aa)(C:bW)(h:ae) :Option a1:=U (ax J h .eql 83 a0 .nilPtr) λv1=>bq v1 (some (.ret,[(.int .i64 0)],h)) (U (bB a0) λv2=>U (aQ J 234 v2 1) λv3=>U (ak J h 3 v3) λv4=>some (.ret,[v4],h))
theorem ai2{a0:aa} :LT PV 137 [a0] (PX a0):=
 cc (f:=Tryz.f137) (.seq (.ah []) (.seq (.seq (.ah []) (.cond (.seq (.ah []) .leaf) .leaf)) (.seq (.ah []) .leaf))) (by kernel_rfl) (b' rfl (by kernel_rfl)) λ_ _=>by kernel_rfl
def P0(a0 ao:aa)(C:bW)(h:ae) :Option a1:=U (ax J h .eql 152 a0 .nilPtr) λv1=>bG (b7 v1 false (U (ax J h .eql 83 ao .nilPtr) λv2=>some (.normal,[v2],h)) (some (.normal,[.undef],h))) λ_ aK h1=>a_ aK λv3 eJ=>br eJ (U (bZ v1 (.bool true) v3) λv4=>bq v4 (some (.ret,[.nilPtr],h1)) (ca (Mt) h1 λv5 ab=>U (dY J 295 [(0,a0),(1,ao),(2,v5)]) λv6=>ca (c9 J 295 v6) ab λbl al=>some (.ret,[bl],al)))
theorem ai5{a0 ao:aa} :LT PV 140 [a0,ao] (P0 a0 ao):=
 cc (f:=Tryz.f140) (.seq (.ah []) (.seq (.seq (.ah [[9]]) (.cond (.seq (.ah []) .leaf) .leaf)) (.seq (.ah []) .leaf))) (by kernel_rfl) (b' rfl (by kernel_rfl)) λ_ _=>by kernel_rfl
def PN(a0:aa)(C:bW)(h:ae) :Option a1:=U (ax J h .eql 153 a0 .nilPtr) λv1=>bq v1 (some (.ret,[(.int .i64 0)],h)) (U (bB a0) λv2=>U (aQ J 295 v2 3) λv3=>U (ak J h 293 v3) λv4=>U (dw J h 293 v4) λv5=>some (.ret,[v5],h))
theorem aiU{a0:aa} :LT PV 106 [a0] (PN a0):=
 cc (f:=Tryz.f106) (.seq (.ah []) (.seq (.seq (.ah []) (.cond (.seq (.ah []) .leaf) .leaf)) (.seq (.ah []) .leaf))) (by kernel_rfl) (b' rfl (by kernel_rfl)) λ_ _=>by kernel_rfl
end
section
variable{PV:cn} [cN PV]
section
variable{h g:ae}{F:kI}{D:ij}{sec:Nat->Nat}{dh:Nat}
theorem Tr(k:kL h F D) :call J PV (.func 137 [] []) [.ptr F.f 0] h=some (.int .i64 (F.used:Nat),h):=by
 obtain⟨m,o⟩:=k.str;refine ai2 (x:=.ret) (vs:=[.int .i64 (F.used:Nat)]) (first:=[]) (cap:=[]) ?_ rfl;have e:∀a b:Nat,ax J h .eql 83 (.ptr a b) .nilPtr=some (.bool false):=λa b=>r5 (i:=yL) (by kernel_rfl) rfl h a b
 simp only[PX,e,ar,ba,Bool.false_eq_true,if_false,cl,ap6,Nat.zero_add,cW,Obj.get o (i:=1) rfl]
end
end
section
variable{PV:cn} [cN PV]
section
variable{h:ae}{A:gw}{mem held:Nat->Nat}{free:Nat}
theorem G0(n:Nat)(aw:n<=1099511627776) :mn J 135 (.int .i64 (n:Nat)) (.int .i64 (n:Nat))=some (λid=>aa.slice id 0 n n 1 true,.bytes n false 0):=by
 have aG:J.ty 135=some nK:=by kernel_rfl
 have aT:J.ty 5=some m6:=by kernel_rfl
 unfold mn wx;rw[aG]
 show(match(match J.ty 5 with
  |some ie=>
   bif Nat.ble n n&&Nat.ble (ie.bytes*n) 140737488355328&&Nat.ble 1 ie.bytes then
    match jh ie.desc,ie.zero with
    |true,[.int .u8 (.ofNat 0)]=>some (n,n,ie.size,bT.bytes n false 0)
    |_,_=>some (n,n,ie.size,.cells (n*ie.size) false ie.zero .nil)
   else none
  |none=>none)with|some (l,c,sz,o)=>some ((λid=>aa.slice id 0 l c sz true),o) |none=>none)=_
 rw[aT];have h1:Nat.ble n n=true:=ec.2 (Nat.le_refl _);have ab:Nat.ble (m6.bytes*n) 140737488355328=true:=ec.2 (by show 1*n<=_;omega);simp only[h1,ab,Bool.true_and];rfl
theorem ana(h:ae){n:Nat}(h1:1<=n)(ab:n<=4096) :∃g,call J PV (.func 139 [] []) [.int .i64 n] h=some (.ptr (h.next+7) 0,g)/\er g ⟨h.next+7,h.next+2,h.next+4,n⟩ (λ_=>0) (λ_=>0) n/\bf h g/\g.next=h.next+9:=by
 have bo:¬(n:Int) <1:=by omega
 have cp:¬(4096:Int) <n:=by omega
 have aG:b0 .i64 ((n:Int) *64)=((64*n:Nat) :Int):=by rw[wrap_i64 (by omega) (by omega)];omega
 let an:=h.aB 9;let xw:=an.put (h.next+2) (.bytes (64*n) false 0);let al:=xw.put (h.next+4) (.cells (n*1) false [.int .i64 0] .nil);let aE:=al.put (h.next+7) (.cells 3 false [] (bu.ofList [aa.slice (h.next+2) 0 (64*n) (64*n) 1 true,.slice (h.next+4) 0 n n 1 true,.int .i64 n]));have aj:dY J 268 [(0,aa.slice (h.next+2) 0 (64*n) (64*n) 1 true),(1,.slice (h.next+4) 0 n n 1 true),(2,.int .i64 n)]=some (.agg [aa.slice (h.next+2) 0 (64*n) (64*n) 1 true,.slice (h.next+4) 0 n n 1 true,.int .i64 n]):=by kernel_rfl
 have KL:c9 J 268 (.agg [aa.slice (h.next+2) 0 (64*n) (64*n) 1 true,.slice (h.next+4) 0 n n 1 true,.int .i64 n])=some (λid=>aa.ptr id 0,.cells 3 false [] (bu.ofList [aa.slice (h.next+2) 0 (64*n) (64*n) 1 true,.slice (h.next+4) 0 n n 1 true,.int .i64 n])):=kQ (i:=OI) (by kernel_rfl) rfl rfl;refine⟨aE,ai4 (x:=.ret) (vs:=[.ptr (h.next+7) 0]) (first:=[]) (cap:=[]) ?_ rfl,?_,?_,rfl⟩
 ·simp only[PZ,dk,ar,decide_eq_false bo,cP,if_true,iT,decide_eq_false cp,c4,bz,bp,cF,Bool.false_eq_true,if_false,ba,nh,aG];rw[G0 _ (by omega),Je,G1 _ (by omega),Je,aj,ar,KL,Je]
 ·have g2:aE.get (h.next+2)=.bytes (64*n) false 0:=by
   show(al.put _ _).get _=_;rw[ke (by omega),ke (by omega),ln]
  have g4:aE.get (h.next+4)=.cells (n*1) false [.int .i64 0] .nil:=by show(al.put _ _).get _=_;rw[ke (by omega),ln]
  refine⟨ab,⟨by show h.next+7<h.next+9;omega,by show h.next+2<h.next+9;omega,by show h.next+4<h.next+9;omega⟩,⟨by show h.next+7≠h.next+2;omega,by show h.next+7≠h.next+4;omega,by show h.next+2≠h.next+4;omega⟩,⟨true,true,?_⟩,⟨false,0,g2,λf _=>by simp[cB]⟩,Hc g4⟩;have on:=Obj.new (h:=⟨h.next+7,al.dS⟩) [aa.slice (h.next+2) 0 (64*n) (64*n) 1 true,.slice (h.next+4) 0 n n 1 true,.int .i64 n] false []
  exact⟨⟨[],_,ln _ _ _⟩,λi=>by
   have:=on.rd i;unfold bP at this|-;rw[ks]at this;show(aE.get (h.next+7)).cell i=_;rw[show aE.get (h.next+7)=_ from ln _ _ _]
   exact this⟩
 ·refine⟨by show h.next<=h.next+9;omega,λi af _=> ?_⟩;show(al.put _ _).get i=_;rw[ke (by omega),ke (by omega),ke (by omega)];rfl
end
end
section
variable{PV:cn} [cN PV]
section
variable{h g:ae}{R:ra}{D:ij}{bY:Nat->Nat}{used:Nat}{sec:Nat->Nat}{dh:Nat}
theorem N9(k:hp h R D bY used) :call J PV (.func 101 [] []) [.ptr R.a 0] h=some (.int .i64 (used:Nat),h):=by obtain⟨ex,o⟩:=k.str;refine Ma (x:=.ret) (vs:=[.int .i64 (used:Nat)]) (first:=[]) (cap:=[]) ?_ rfl;simp only[Bp,A6,ar,ba,Bool.false_eq_true,if_false,cl,DI,Nat.zero_add,cW,Obj.get o (i:=3) rfl]
end
end
section
variable{PV:cn} [cN PV]
section
variable{h g:ae}{X:ew}{ρ bD:Nat->Nat}{σ:b8}{ring:List dj}{hand:Nat}
theorem acB(k:Core h X ρ σ) :call J PV (.func 106 [] []) [.ptr X.k 0] h=some (.int .i64 (σ.ring.length:Nat),h):=by obtain⟨rv,hits,fills,os,hK,ex,dO⟩:=k.dX.str;refine aiU (x:=.ret) (vs:=[.int .i64 (σ.ring.length:Nat)]) (first:=[]) (cap:=[]) ?_ rfl;have ay:=hK.len (T:=293) (si:=q3) (by kernel_rfl) rfl;rw[List.length_map,List.length_map]at ay;simp only[PN,A5,ar,ba,Bool.false_eq_true,if_false,cl,wX,Nat.zero_add,wY,Obj.get os (i:=3) rfl,ay]
end
end
section
set_option maxRecDepth 100000
variable{PV:cn} [cN PV]
def EC(a0 ao a2 a3:aa)(C:bW)(h:ae) :Option a1:=U (ax J h .eql 32 a0 .nilPtr) λv1=>bG (b7 v1 false (U (ax J h .eql 83 ao .nilPtr) λv2=>some (.normal,[v2],h)) (some (.normal,[.undef],h))) λ_ aK h1=>a_ aK λv3 eJ=>br eJ (U (bZ v1 (.bool true) v3) λv4=>bG (b7 v4 false (U (ax J h1 .lss 3 a2 (.int .i64 16)) λv5=>some (.normal,[v5],h1)) (some (.normal,[.undef],h1))) λ_ aK ab=>a_ aK λv6 gS=>br gS (U (bZ v4 (.bool true) v6) λbl=>bG (b7 bl false (U (ax J ab .gtr 3 a2 (.int .i64 4096)) λbA=>some (.normal,[bA],ab)) (some (.normal,[.undef],ab))) λ_ aK al=>a_ aK λv9 iz=>br iz (U (bZ bl (.bool true) v9) λv10=>bq v10 (some (.ret,[.nilPtr,(.int .i64 1)],al)) (a7 (C (.func 137 [] []) [ao] al) λv11 aE=>a7 (C (.func 136 [] []) [a0,v11,a3] aE) λv12 aL=>U (cm v12 0) λcd=>U (cm v12 1) λb9=>U (ax J aL .neq 29 b9 (.int .i64 0)) λch=>bq ch (some (.ret,[.nilPtr,b9],aL)) (a7 (C (.func 137 [] []) [ao] aL) λcj bm=>a7 (C (.func 138 [] []) [a0,cj] bm) λcC cr=>a7 (C (.func 139 [] []) [a2] cr) λcx cz=>a7 (C (.func 140 [] []) [cx,ao] cz) λcL c6=>U (dY J 156 [(0,cx),(1,ao),(2,cL),(3,cd)]) λv20=>ca (c9 J 156 v20) c6 λv21 dF=>some (.ret,[v21,(.int .i64 0)],dF))))))
theorem Md{a0 ao a2 a3:aa} :LT PV 51 [a0,ao,a2,a3] (EC a0 ao a2 a3):=
 cc (f:=Tryz.f51) (.seq (.ah []) (.seq (.seq (.ah [[17],[21],[25]]) (.cond (.seq (.ah []) .leaf) .leaf)) (.seq (.ah []) (.seq (.seq (.ah []) (.cond (.seq (.ah []) .leaf) .leaf)) (.seq (.ah []) (.seq (.ah []) (.seq (.ah []) .leaf))))))) (by kernel_rfl) (b' rfl (by kernel_rfl)) λ_ _=>by kernel_rfl
def Br(a0:aa)(C:bW)(h:ae) :Option a1:=U (ax J h .eql 42 a0 .nilPtr) λv1=>bq v1 (some (.ret,[(.int .i64 0)],h)) (U (bB a0) λv2=>U (aQ J 156 v2 0) λv3=>U (ak J h 152 v3) λv4=>a7 (C (.func 80 [] []) [v4] h) λv5 h1=>some (.ret,[v5],h1))
theorem Mb{a0:aa} :LT PV 36 [a0] (Br a0):=
 cc (f:=Tryz.f36) (.seq (.ah []) (.seq (.seq (.ah []) (.cond (.seq (.ah []) .leaf) .leaf)) (.seq (.ah []) .leaf))) (by kernel_rfl) (b' rfl (by kernel_rfl)) λ_ _=>by kernel_rfl
def Bs(a0:aa)(C:bW)(h:ae) :Option a1:=U (ax J h .eql 42 a0 .nilPtr) λv1=>bq v1 (some (.ret,[(.int .i64 0)],h)) (U (bB a0) λv2=>U (aQ J 156 v2 3) λv3=>U (ak J h 154 v3) λv4=>a7 (C (.func 101 [] []) [v4] h) λv5 h1=>some (.ret,[v5],h1))
theorem Mc{a0:aa} :LT PV 40 [a0] (Bs a0):=
 cc (f:=Tryz.f40) (.seq (.ah []) (.seq (.seq (.ah []) (.cond (.seq (.ah []) .leaf) .leaf)) (.seq (.ah []) .leaf))) (by kernel_rfl) (b' rfl (by kernel_rfl)) λ_ _=>by kernel_rfl
def Q'(a0:aa)(C:bW)(h:ae) :Option a1:=U (ax J h .eql 42 a0 .nilPtr) λv1=>bq v1 (some (.ret,[(.int .i64 0)],h)) (U (bB a0) λv2=>U (aQ J 156 v2 2) λv3=>U (ak J h 153 v3) λv4=>a7 (C (.func 106 [] []) [v4] h) λv5 h1=>some (.ret,[v5],h1))
theorem akh{a0:aa} :LT PV 42 [a0] (Q' a0):=
 cc (f:=Tryz.f42) (.seq (.ah []) (.seq (.seq (.ah []) (.cond (.seq (.ah []) .leaf) .leaf)) (.seq (.ah []) .leaf))) (by kernel_rfl) (b' rfl (by kernel_rfl)) λ_ _=>by kernel_rfl
def Re(a0:aa)(C:bW)(h:ae) :Option a1:=U (ax J h .eql 42 a0 .nilPtr) λv1=>bq v1 (some (.ret,[(.int .i64 0)],h)) (U (bB a0) λv2=>U (aQ J 156 v2 4) λv3=>U (ak J h 75 v3) λv4=>U (dw J h 75 v4) λv5=>some (.ret,[v5],h))
theorem akl{a0:aa} :LT PV 52 [a0] (Re a0):=
 cc (f:=Tryz.f52) (.seq (.ah []) (.seq (.seq (.ah []) (.cond (.seq (.ah []) .leaf) .leaf)) (.seq (.ah []) .leaf))) (by kernel_rfl) (b' rfl (by kernel_rfl)) λ_ _=>by kernel_rfl
end
section
variable{PV:cn} [cN PV]
section
variable{h g:ae}{X:ew}{ρ bD:Nat->Nat}{σ aR:b8}
theorem C6(k:Sys h X ρ σ) :call J PV (.func 36 [] []) [.ptr X.M 0] h=some (.int .i64 σ.free,h):=by refine Mb (x:=.ret) (vs:=[.int .i64 σ.free]) (first:=[]) (cap:=[]) ?_ rfl;simp only[Br,p4,ar,ba,Bool.false_eq_true,if_false,cl,k7,ha,k.field.1,zz k.core.ps.p,c3]
theorem GZ(k:Sys h X ρ σ) :call J PV (.func 40 [] []) [.ptr X.M 0] h=some (.int .i64 (σ.used:Nat),h):=by refine Mc (x:=.ret) (vs:=[.int .i64 (σ.used:Nat)]) (first:=[]) (cap:=[]) ?_ rfl;simp only[Bs,p4,ar,ba,Bool.false_eq_true,if_false,cl,tv,Nat.zero_add,m3,k.field.2.2.2,N9 k.core.hi,c3]
theorem ak8(k:Sys h X ρ σ) :call J PV (.func 42 [] []) [.ptr X.M 0] h=some (.int .i64 (σ.ring.length:Nat),h):=by refine akh (x:=.ret) (vs:=[.int .i64 (σ.ring.length:Nat)]) (first:=[]) (cap:=[]) ?_ rfl;simp only[Q',p4,ar,ba,Bool.false_eq_true,if_false,cl,DH,Nat.zero_add,o7,k.field.2.2.1,acB k.core,c3]
theorem alw(k:Sys h X ρ σ) :call J PV (.func 52 [] []) [.ptr X.M 0] h=some (.int .i64 (σ.au.length:Nat),h):=by obtain⟨eg,o,v,_⟩:=k.mem;refine akl (x:=.ret) (vs:=[.int .i64 (σ.au.length:Nat)]) (first:=[]) (cap:=[]) ?_ rfl;have ay:=v.len (T:=75) (si:=q5) (by kernel_rfl) rfl;rw[List.length_map,List.length_map]at ay;simp only[Re,p4,ar,ba,Bool.false_eq_true,if_false,cl,AZ,Nat.zero_add,DO,Obj.get o (i:=4) rfl,ay]
end
end
section
variable{PV:cn} [cN PV]
theorem abP(p f m:Nat) :dY J 295 [(0,.ptr p 0),(1,.ptr f 0),(2,.map m)]=some (.agg [.ptr p 0,.ptr f 0,.map m,.bI,.int .i64 0,.int .i64 0,.int .i64 0]):=by kernel_rfl
theorem abO(d:Nat)(f:Int)(b n:Nat) :dY J 288 [(0,.ptr d 0),(1,.int .i64 f),(2,.slice b 0 n n 1 true)]=some (.agg [.ptr d 0,.int .i64 f,.slice b 0 n n 1 true,.int .i64 0]):=by kernel_rfl
theorem abC(p f k r:Nat) :dY J 156 [(0,.ptr p 0),(1,.ptr f 0),(2,.ptr k 0),(3,.ptr r 0)]=some (.agg [.ptr p 0,.ptr f 0,.ptr k 0,.ptr r 0,.bI]):=by kernel_rfl
theorem acE(h:ae)(p f:Nat) :bh (call J PV (.func 140 [] []) [.ptr p 0,.ptr f 0] h) λv g=>v=.ptr (h.next+1) 0/\bf h g/\g.next=h.next+2/\lC g h.next []/\a8.Obj g (h.next+1) [.ptr p 0,.ptr f 0,.map h.next,.bI,.int .i64 0,.int .i64 0,.int .i64 0]:=by
 refine bh.mk (λe=>ai5 (first:=[]) (cap:=[]) e rfl) ?_;unfold P0;simp only[YD,ar,cP,if_true,YG,c4,bz,bp,cF,Bool.false_eq_true,if_false,ba];refine Bl (f:=λid=>.map id) (ob:=.map [] 0) rfl λg1 aN=> ?_
 simp only[abP,ar];refine cM (apU (cs:=[.ptr p 0,.ptr f 0,.map h.next,.bI,.int .i64 0,.int .i64 0,.int .i64 0]) rfl) λg2 cE eN bn=> ?_
 have bb:bf h g1:=by rw[aN];exact aM.new _ _ _
 have dR:g1.next=h.next+1:=by rw[aN];rfl
 rw[dR]at cE;have c5:lC g1 h.next []:=⟨[],0,by rw[aN];exact ks _ _,rfl⟩;exact aV.pure ⟨by rw[dR];rfl,bb.trans bn,by omega,c5.az bn (by omega) (λe=>e),cE⟩
theorem ao6{h:ae}{D:ij}{sec:Nat->Nat}{dh:Nat}(k:fH h D sec dh){first:Nat}{n:Int}(aJ:first<=16384) :
  bh (call J PV (.func 136 [] []) [.ptr D.d 0,.int .i64 first,.int .i64 n] h) λv g=>bf h g/\
   ((0<=n/\n<=4096/\(first:Int) +n<=D.n/\v=.tuple [.ptr (h.next+1) 0,.int .i64 0]/\g.next=h.next+2/\hp g ⟨h.next+1,h.next,first,n.toNat⟩ D (λ_=>0) 0)\/
    (¬(0<=n/\n<=4096/\(first:Int) +n<=D.n)/\v=.tuple [.nilPtr,.int .i64 1])):=by
 refine bh.mk (λe=>ai1 (first:=[]) (cap:=[]) e rfl) ?_;unfold PW;have aw:=k.n;have b6:=k.lt;have fm:¬(first:Int) <0:=by omega
 simp only[DQ,ar,cP,if_true,dk,c4,bz,bp,cF,Bool.false_eq_true,if_false];by_cases bo:n<0
 ·simp only[decide_eq_true bo,cP,Bool.true_eq_false,if_false,c4,bz,bp,cF,if_true,ar,ba];exact aV.pure ⟨aM.refl _ _,.inr ⟨by omega,rfl⟩⟩
 ·simp only[decide_eq_false bo,cP,if_true,iT,ar,c4,bz,bp,cF,Bool.false_eq_true,if_false];by_cases cp:4096<n
  ·simp only[decide_eq_true cp,cP,Bool.true_eq_false,if_false,c4,bz,bp,cF,if_true,ar,ba];exact aV.pure ⟨aM.refl _ _,.inr ⟨by omega,rfl⟩⟩
  ·have aG:b0 .i64 ((D.n:Int) -n)=(D.n:Int) -n:=wrap_i64 (by omega) (by omega);simp only[decide_eq_false cp,cP,if_true,dk,decide_eq_false fm,ar,c4,bz,bp,cF,Bool.false_eq_true,if_false,XH k,c3,fT,aG,iT];by_cases ed:(D.n:Int) -n<(first:Int)
   ·simp only[decide_eq_true ed,ba,if_true];exact aV.pure ⟨aM.refl _ _,.inr ⟨by omega,rfl⟩⟩
   ·simp only[decide_eq_false ed,ba,Bool.false_eq_true,if_false];obtain⟨m,rfl⟩ :∃m:Nat,n=m:=⟨n.toNat,by omega⟩;refine Bl (G1 m (by omega)) λg1 aN=> ?_
    simp only[abO,ar];refine cM (apT (cs:=[.ptr D.d 0,.int .i64 first,.slice h.next 0 m m 1 true,.int .i64 0]) rfl) λg2 cE eN bn=> ?_
    have bb:bf h g1:=by rw[aN];exact aM.new _ _ _
    have dR:g1.next=h.next+1:=by rw[aN];rfl
    have vr:=Hc (h:=g1) (id:=h.next) (n:=m) (by rw[aN];exact ks _ _);rw[dR]at cE;refine aV.pure ⟨bb.trans bn,.inl ⟨by omega,by omega,by omega,by rw[dR];rfl,by omega,?_⟩⟩;refine⟨by show(m:Int).toNat<=4096;omega,by show first+(m:Int).toNat<=D.n;omega,by show h.next+1<g2.next/\h.next<g2.next;omega,?_,⟨true,?_⟩,?_⟩
    ·show h.next+1≠h.next/\h.next+1≠D.d/\h.next+1≠D.b/\h.next≠D.d/\h.next≠D.b;omega
    ·show a8.Obj g2 (h.next+1) [.ptr D.d 0,.int .i64 first,.slice h.next 0 (m:Int).toNat (m:Int).toNat 1 true,.int .i64 ((0:Nat) :Int)];rw[Int.toNat_natCast];exact cE
    ·show a8.Obj g2 h.next ((List.range (m:Int).toNat).map λi=>aa.int .i64 ((0:Nat) :Int));rw[Int.toNat_natCast];exact vr.ext bn (by omega)
end
section
variable{PV:cn} [cN PV]
theorem alL{h:ae}{D:ij}{F:kI}{sec:Nat->Nat}{dh:Nat}(qI:fH h D sec dh)(x9:kL h F D)(hu:F.used<=16384){n m:Int} :
  bh (call J PV (.func 51 [] []) [.ptr D.d 0,.ptr F.f 0,.int .i64 n,.int .i64 m] h) λv g=>
   (¬((16<=n/\n<=4096)/\0<=m/\m<=4096/\(F.used:Int) +m<=D.n)/\v=.tuple [.nilPtr,.int .i64 1]/\bf h g)\/
   (((16<=n/\n<=4096)/\0<=m/\m<=4096/\(F.used:Int) +m<=D.n)/\∃A R k mp M,v=.tuple [.ptr M 0,.int .i64 0]/\I0 h g D F sec (max dh F.used) n.toNat m.toNat A R k mp M):=by
 refine bh.mk (λe=>Md (first:=[]) (cap:=[]) e rfl) ?_;unfold EC;have asG:=qI.lt;simp only[DQ,ar,cP,if_true,YG,c4,bz,bp,cF,Bool.false_eq_true,if_false,dk];by_cases bo:n<16
 ·simp only[decide_eq_true bo,cP,Bool.true_eq_false,if_false,c4,bz,bp,cF,if_true,ar,ba];exact aV.pure (.inl ⟨by omega,rfl,aM.refl _ _⟩)
 ·simp only[decide_eq_false bo,cP,if_true,iT,ar,c4,bz,bp,cF,Bool.false_eq_true,if_false];by_cases cp:4096<n
  ·simp only[decide_eq_true cp,ba,if_true];exact aV.pure (.inl ⟨by omega,rfl,aM.refl _ _⟩)
  ·simp only[decide_eq_false cp,ba,Bool.false_eq_true,if_false,Tr x9,c3];refine b4 (ao6 qI (n:=m) hu) ?_;rintro v g1 ⟨bb,⟨fS,ft,gV,rfl,dR,ao⟩ |⟨aj,rfl⟩⟩
   ·have ain:=qI.ext bb;have U7:=x9.ext bb;simp only[dA,List.getElem?_cons_zero,List.getElem?_cons_succ,ar,dP,ba];rw[if_neg (by decide)];simp only[Tr U7,c3];refine b4 (aoJ ain hu) ?_;rintro v2 g2 ⟨L7,bn⟩;have aiv:=U7.az bn ⟨x9.apart.2.2,x9.apart.1,x9.apart.2.1⟩;have a2:=ao.az bn ⟨by show¬h.next+1=D.d;omega,by show¬h.next=D.d;omega⟩;have qz:=bn.next;obtain⟨g3,bJ,ym,bR,gp⟩:=ana g2 (n:=n.toNat) (by omega) (by omega);rw[show((n.toNat:Nat) :Int)=n by omega]at bJ;rw[bJ];simp only[c3];refine b4 (acE g3 _ _) ?_;rintro _ g4 ⟨rfl,bO,hU,e2,dG⟩;simp only[abC,ar];refine cM (apO (cs:=[.ptr (g2.next+7) 0,.ptr F.f 0,.ptr (g3.next+1) 0,.ptr (h.next+1) 0,.bI]) rfl) λg5 eH n5 cD=> ?_
    have H':=(bR.trans bO).trans cD;refine aV.pure (.inr ⟨⟨⟨by omega,by omega⟩,fS,ft,gV⟩,⟨g2.next+7,g2.next+2,g2.next+4,n.toNat⟩,⟨h.next+1,h.next,F.used,m.toNat⟩,g3.next+1,g3.next,g4.next,rfl,?_⟩);have D3:=bO.trans cD
    exact{
     m1:=ym.az D3 ⟨λe=>e,λe=>e,λe=>e⟩
     zb:=a2.ext H'
     vO:=L7.ext H'
     files:=aiv.ext H'
     map:=e2.az cD (by omega) (λe=>e)
     cache:=dG.ext cD (by omega)
     mem:=eH
     m':=rfl
     EE:=⟨rfl,rfl⟩
     az:=((aM.ext bb).trans bn).trans (aM.ext H')
     ids:=by
      show h.next<=h.next/\h.next<h.next+1/\h.next+1<g2.next+2/\g2.next+2<g2.next+4/\g2.next+4<g2.next+7/\g2.next+7<g3.next/\g3.next<g3.next+1/\g3.next+1<g4.next/\g4.next<g5.next
      omega}
   ·simp only[dA,List.getElem?_cons_zero,List.getElem?_cons_succ,ar,dP,ba];rw[if_pos (by decide)];exact aV.pure (.inl ⟨λh=>aj h.2,rfl,bb⟩)
end
end Go.Proofs.YtkdjcmpgnkecfaaGreatDoor
end
