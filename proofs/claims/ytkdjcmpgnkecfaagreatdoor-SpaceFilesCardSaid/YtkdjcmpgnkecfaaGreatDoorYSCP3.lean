/-
  Parts.
-/
import Derived.Test.YtkdjcmpgnkecfaaGreatDoorYSCP2
set_option linter.unusedVariables false
set_option linter.unusedSimpArgs false
set_option linter.unusedSectionVars false
set_option exponentiation.threshold 600
noncomputable section
namespace Go.Proofs.YtkdjcmpgnkecfaaGreatDoor
open Go.a8
section
set_option maxRecDepth 100000
variable{PV:cn} [cN PV]
def Q9(a0 ao a2:aa)(C:bW)(h:ae) :Option a1:=a7 (C (.func 28 [] []) [] h) λv1 h1=>a7 (C (.func 29 [] []) [(.int .i64 200),(.int .i64 8)] h1) λv2 ab=>U (cm v2 0) λv3=>U (cm v2 1) λv4=>U (ax J ab .eql 42 v3 .nilPtr) λv5=>bG (b7 v5 false (U (ax J ab .eql 43 v4 .nilPtr) λv6=>some (.normal,[v6],ab)) (some (.normal,[.undef],ab))) λ_ aK al=>a_ aK λbl jn=>br jn (U (bZ v5 (.bool true) bl) λbA=>bq bA (some (.ret,[(.bool false)],al)) (U (ax J al .rem 3 a0 (.int .i64 320)) λv9=>U (ax J al .add 3 v9 (.int .i64 320)) λv10=>U (ax J al .rem 3 v10 (.int .i64 320)) λv11=>U (ax J al .and 3 ao (.int .i64 3)) λv12=>U (dY J 47 [(0,(.int .i64 0)),(1,(.int .i64 5)),(2,(.int .i64 6)),(3,(.int .i64 1)),(4,(.int .i64 0)),(5,v12)]) λcd=>ca (dz J 47) al λb9 aE=>U (bN J aE 47 b9 cd) λaL=>a7 (C (.func 30 [] []) [v3] aL) λch bm=>U (cm ch 0) λcj=>U (cm ch 1) λcC=>a7 (C (.func 30 [] []) [v3] bm) λcx cr=>U (cm cx 0) λcL=>U (cm cx 1) λv20=>U (ax J cr .neq 29 cC (.int .i64 0)) λv21=>bG (b7 v21 false (U (ax J cr .neq 29 v20 (.int .i64 0)) λv22=>some (.normal,[v22],cr)) (some (.normal,[.undef],cr))) λ_ aK cz=>a_ aK λv23 arw=>br arw (U (bZ v21 (.bool true) v23) λv24=>bG (b7 v24 false (U (ak J cz 47 b9) λv25=>a7 (C (.func 31 [] []) [cj,v25] cz) λv26 c6=>U (ax J c6 .neq 29 v26 (.int .i64 0)) λv27=>some (.normal,[v27],c6)) (some (.normal,[.undef],cz))) λ_ aK dF=>a_ aK λv28 Eg=>br Eg (U (bZ v24 (.bool true) v28) λv29=>bG (b7 v29 false (U (ak J dF 47 b9) λv30=>a7 (C (.func 31 [] []) [cL,v30] dF) λv31 dZ=>U (ax J dZ .neq 29 v31 (.int .i64 0)) λv32=>some (.normal,[v32],dZ)) (some (.normal,[.undef],dF))) λ_ aK dv=>a_ aK λv33 Eh=>br Eh (U (bZ v29 (.bool true) v33) λeP=>bq eP (some (.ret,[(.bool false)],dv)) (U (ax J dv .and 3 ao (.int .i64 3)) λv35=>U (ax J dv .quo 3 v11 (.int .i64 64)) λv36=>U (ax J dv .add 3 v35 v36) λv37=>a7 (C (.func 32 [] []) [v4,(.int .i64 0),v37] dv) λfE e5=>U (cm fE 0) λfy=>U (cm fE 1) λv40=>U (ax J e5 .eql 29 v40 (.int .i64 0)) λv41=>bG (bq v41 (U (ax J e5 .rem 3 v11 (.int .i64 64)) λgv=>U (o2 J 9 fy gv) λfF=>some (.normal,[fF],e5)) (some (.normal,[(.int .u8 0)],e5))) λvq aK eX=>a_ aK λv44 Pa=>br Pa (jF vq (a7 (C (.func 33 [] []) [cj,v11,(.int .i64 1),(.int .u8 0)] eX) λgI hd=>U (cm gI 0) λv46=>U (cm gI 1) λgR=>a7 (C (.func 33 [] []) [cj,v11,(.int .i64 2),a2] hd) λhb hC=>U (cm hb 0) λv49=>U (cm hb 1) λix=>a7 (C (.func 33 [] []) [cj,v11,(.int .i64 1),(.int .u8 0)] hC) λv51 hv=>U (cm v51 0) λiy=>U (cm v51 1) λv53=>a7 (C (.func 33 [] []) [cL,v11,(.int .i64 1),(.int .u8 0)] hv) λic hx=>U (cm ic 0) λig=>U (cm ic 1) λjD=>bG (b7 v1 true (U (ax J hx .eql 29 gR (.int .i64 0)) λv57=>some (.normal,[v57],hx)) (some (.normal,[.undef],hx))) λ_ aK kt=>a_ aK λj8 arC=>br arC (U (bZ v1 j8 (.bool false)) λv59=>bG (b7 v59 true (U (ax J kt .eql 29 ix (.int .i64 0)) λjQ=>some (.normal,[jQ],kt)) (some (.normal,[.undef],kt))) λ_ aK kV=>a_ aK λjm Ep=>br Ep (U (bZ v59 jm (.bool false)) λjR=>bG (b7 jR true (U (ax J kV .eql 29 v53 (.int .i64 0)) λv63=>some (.normal,[v63],kV)) (some (.normal,[.undef],kV))) λ_ aK lp=>a_ aK λv64 Pk=>br Pk (U (bZ jR v64 (.bool false)) λko=>bG (b7 ko true (U (ax J lp .eql 29 jD (.int .i64 0)) λl4=>some (.normal,[l4],lp)) (some (.normal,[.undef],lp))) λ_ aK nq=>a_ aK λmB Pm=>br Pm (U (bZ ko mB (.bool false)) λl5=>bG (b7 l5 true (U (ax J nq .eql 5 v46 v44) λm7=>some (.normal,[m7],nq)) (some (.normal,[.undef],nq))) λ_ aK nY=>a_ aK λv70 arG=>br arG (U (bZ l5 v70 (.bool false)) λnM=>bG (b7 nM true (U (ax J nY .eql 5 iy a2) λv72=>some (.normal,[v72],nY)) (some (.normal,[.undef],nY))) λ_ aK qq=>a_ aK λm8 arI=>br arI (U (bZ nM m8 (.bool false)) λp8=>bG (b7 p8 true (U (ax J qq .eql 5 ig v44) λv75=>some (.normal,[v75],qq)) (some (.normal,[.undef],qq))) λ_ aK pq=>a_ aK λv76 Pn=>br Pn (U (bZ p8 v76 (.bool false)) λq8=>bG (b7 q8 true (a7 (C (.func 34 [] []) [v3] pq) λtF uh=>some (.normal,[tF],uh)) (some (.normal,[.undef],pq))) λ_ aK ui=>a_ aK λtG Po=>br Po (U (bZ q8 tG (.bool false)) λvi=>some (.ret,[vi],ui)))))))))) (some (.ret,[(.bool false)],eX)) λi=>none)))))))
theorem akf{a0 ao a2:aa} :LT PV 4 [a0,ao,a2] (Q9 a0 ao a2):=
 cc (f:=Tryz.f4) (.seq (.ah []) (.seq (.ah []) (.seq (.ah []) (.seq (.seq (.ah [[36]]) (.cond (.seq (.ah []) .leaf) .leaf)) (.seq (.ah []) (.seq (.ah []) (.seq (.ah []) (.seq (.ah []) (.seq (.seq (.ah [[59],[65],[71]]) (.cond (.seq (.ah []) .leaf) .leaf)) (.seq (.ah []) (.seq (.ah []) (.seq (.seq (.ah []) (.cut [16] [] (.cond (.ah []) .leaf))) (.seq (.ah []) (.seq (.ah []) (.seq (.ah []) (.seq (.ah []) (.seq (.ah [[117],[121],[125],[129],[134],[139],[144],[148]]) .leaf))))))))))))))))) (by kernel_rfl) (b' rfl (by kernel_rfl)) λ_ _=>by kernel_rfl
def Q1(a0 ao a2:aa)(C:bW)(h:ae) :Option a1:=a7 (C (.func 85 [] []) [a0,ao] h) λv1 h1=>U (cm v1 0) λv2=>U (cm v1 1) λv3=>U (ax J h1 .neq 29 v3 (.int .i64 0)) λv4=>bG (b7 v4 false (U (ax J h1 .lss 3 a2 (.int .i64 0)) λv5=>some (.normal,[v5],h1)) (some (.normal,[.undef],h1))) λ_ aK ab=>a_ aK λv6 gS=>br gS (U (bZ v4 (.bool true) v6) λbl=>bG (b7 bl false (U (dw J ab 9 v2) λbA=>a7 (C (.func 86 [] []) [bA] ab) λv9 al=>U (ax J al .geq 3 a2 v9) λv10=>some (.normal,[v10],al)) (some (.normal,[.undef],ab))) λ_ aK aE=>a_ aK λv11 mC=>br mC (U (bZ bl (.bool true) v11) λv12=>bq v12 (some (.ret,[(.str 0 0),(.int .i64 14)],aE)) (U (ax J aE .mul 3 (.int .i64 64) a2) λcd=>U (iv J aE 9 v2 (some cd) none none) λb9=>a7 (C (.func 54 [] []) [b9,(.int .i64 64)] aE) λch aL=>some (.ret,[ch,(.int .i64 0)],aL))))
theorem aj9{a0 ao a2:aa} :LT PV 32 [a0,ao,a2] (Q1 a0 ao a2):=
 cc (f:=Tryz.f32) (.seq (.ah []) (.seq (.ah []) (.seq (.seq (.ah [[20],[27]]) (.cond (.seq (.ah []) .leaf) .leaf)) (.seq (.ah []) .leaf)))) (by kernel_rfl) (b' rfl (by kernel_rfl)) λ_ _=>by kernel_rfl
def IT(a0 ao:aa)(C:bW)(h:ae) :Option a1:=U (ax J h .lss 3 ao (.int .i64 0)) λv1=>bG (b7 v1 false (U (bB a0) λv2=>U (aQ J 199 v2 2) λv3=>U (ak J h 197 v3) λv4=>U (dw J h 197 v4) λv5=>U (ax J h .geq 3 ao v5) λv6=>some (.normal,[v6],h)) (some (.normal,[.undef],h))) λ_ aK h1=>a_ aK λbl jn=>br jn (U (bZ v1 (.bool true) bl) λbA=>bq bA (some (.ret,[(.str 0 0),(.int .i64 14)],h1)) (U (bB a0) λv9=>U (aQ J 199 v9 2) λv10=>U (ak J h1 197 v10) λv11=>U (cZ J 197 v11 ao) λv12=>U (aQ J 204 v12 2) λcd=>U (ak J h1 202 cd) λb9=>bG (eM 14 (λaK ab=>a_ aK λch oA=>a_ oA λcj vl=>br vl (U (dw J ab 202 b9) λcC=>U (ax J ab .lss 3 cj cC) λcx=>bq cx (bG (eM 14 (λaK aE=>a_ aK λcL qb=>a_ qb λv20 qc=>br qc (U (cZ J 202 b9 cj) λv21=>U (aQ J 206 v21 1) λv22=>U (ak J aE 3 v22) λv23=>U (ax J aE .lss 3 v20 v23) λv24=>bq v24 (U (bB a0) λv25=>U (aQ J 199 v25 0) λv26=>U (ak J (ae.aB aE 16) 25 v26) λv27=>U (cZ J 202 b9 cj) λv28=>U (aQ J 206 v28 0) λv29=>U (ak J (ae.aB aE 16) 3 v29) λv30=>U (ax J (ae.aB aE 16) .add 3 v30 v20) λv31=>U (cZ J 25 v27 v31) λv32=>U (ak J (ae.aB aE 16) 9 v32) λv33=>U (ax J (ae.aB aE 16) .add 9 cL v33) λeP=>bx [] (λg=>ak J g 9 v32) v33 (bx [] (λg=>ak J g 3 v29) v30 (bx [] (λg=>ak J g 25 v26) v27 (U (ax J (ae.aB aE 16) .add 3 v20 (.int .i64 1)) λv35=>some (.normal,[eP,v35],(ae.aB aE 16)))))) (some ((.exit 2),[cL,v20],aE)))) [ch,(.int .i64 0)] ab) λkH aK aL=>a_ aK λv36 vo=>a_ vo λv37 q_=>br q_ (gD 2 kH (U (ax J aL .add 3 cj (.int .i64 1)) λfE=>some (.normal,[v36,fE],aL)) (some (.ret,[v36,cj],aL)) λi=>none)) (some ((.exit 0),[ch,cj],ab)))) [(.str 0 0),(.int .i64 0)] h1) λjS aK al=>a_ aK λfy Ej=>a_ Ej λv40 Ek=>br Ek (gD 0 jS (U (bB a0) λv41=>U (aQ J 199 v41 2) λgv=>U (ak J al 197 gv) λfF=>U (cZ J 197 fF ao) λv44=>U (aQ J 204 v44 1) λgI=>U (ak J al 3 gI) λv46=>U (iv J al 9 fy none (some v46) none) λgR=>some (.ret,[gR,(.int .i64 0)],al)) (some (.ret,[(.str 0 0),(.int .i64 0)],al)) λi=>none)))
theorem Vu{a0 ao:aa} :LT PV 85 [a0,ao] (IT a0 ao):=
 cc (f:=Tryz.f85) (.seq (.ah []) (.seq (.seq (.ah [[19]]) (.cond (.seq (.ah []) .leaf) .leaf)) (.seq (.ah []) (.seq (.ah []) (.seq (.seq (.ah []) (.loop [6,8] [] (.seq (.seq (.ah []) (.cond .leaf .leaf)) (.seq (.dW (.seq (.ah []) (.loop [6,9] [] (.seq (.seq (.ah []) (.cond .leaf .leaf)) (.seq (.dW .drawn) (.ah [])))))) (.ah []))))) (.seq (.ah []) .leaf)))))) (by kernel_rfl) (b' rfl (by kernel_rfl)) λ_ _=>by kernel_rfl
def Rm(a0:aa)(C:bW)(h:ae) :Option a1:=U (ax J h .add 3 a0 (.int .i64 63)) λv1=>U (ax J h .quo 3 v1 (.int .i64 64)) λv2=>some (.ret,[v2],h)
theorem akt{a0:aa} :LT PV 86 [a0] (Rm a0):=
 cc (f:=Tryz.f86) (.seq (.ah []) (.seq (.ah []) .leaf)) (by kernel_rfl) (b' rfl (by kernel_rfl)) λ_ _=>by kernel_rfl
end
section
variable{PV:cn} [cN PV]
structure re(h:ae)(Q:Nat->Prop)(f:Nat)(S:Nat->Nat)(n:Nat)(cb:List fW) :Prop where
 lt:f<h.next
 str:∃eg h8 u,a8.Obj h f [eg,u,h8]/\gg h 1 eg (((List.range n).map λi=>aa.str 64 (S i)).map one)/\gg h 3 h8 (cb.map fW.vs)/\(∀b,cI eg=some b->Q b)/\∀b,cI h8=some b->Q b
 exts:∀x,x∈cb->gg h 2 x.cQ (x.ext.map ue)/\∀b,cI x.cQ=some b->Q b
 I2:Q f
 nj:0<cb.length/\cb.length<=65536
 ok:∀x,x∈cb->x.size<=1048576/\x.ext.length<=16000/\(∀y,y∈x.ext->y.1+y.2<=n/\y.2<=16000)/\(x.size+63) /64=(x.ext.map (·.2)).sum
 sec:n<=1048576/\∀i,i<n->S i<2^512
theorem re.az{h g:ae}{Q:Nat->Prop}{f:Nat}{S:Nat->Nat}{n:Nat}{cb:List fW}(k:re h Q f S n cb){T:Nat->Prop}(u:aM T h g)(aA:∀i,Q i->¬T i) :re g Q f S n cb where
 lt:=Nat.lt_of_lt_of_le k.lt u.next
 str:=let⟨eg,h8,m,o,a,b,c,d⟩:=k.str;⟨eg,h8,m,o.az u k.lt (aA _ k.I2),a.az u λi e=>aA _ (c i e),b.az u λi e=>aA _ (d i e),c,d⟩
 exts:=λx ag=>⟨(k.exts x ag).1.az u λi e=>aA _ ((k.exts x ag).2 i e),(k.exts x ag).2⟩
 I2:=k.I2
 nj:=k.nj
 ok:=k.ok
 sec:=k.sec
theorem re.ext{h g:ae}{Q:Nat->Prop}{f:Nat}{S:Nat->Nat}{n:Nat}{cb:List fW}(k:re h Q f S n cb)(u:bf h g) :re g Q f S n cb:=k.az u λ_ _ e=>e
theorem alU{N m a b w:Nat}(c:b+w<=a) :cB (N+m<<< (8*a)) b w=cB N b w:=by
 unfold cB;obtain⟨d,rfl⟩ :∃d,a=b+w+d:=⟨a-(b+w),by omega⟩
 rw[Nat.shiftLeft_eq,show 8*(b+w+d)=8*b+(8*w+8*d)by omega,Nat.pow_add,Nat.pow_add,show m*(2^(8*b) *(2^(8*w) *2^(8*d)))=(m*2^(8*d)) *2^(8*w) *2^(8*b)by
  rw[Nat.mul_comm (2^(8*b)),Nat.mul_comm (2^(8*w)),<-Nat.mul_assoc,<-Nat.mul_assoc],Nat.add_mul_div_right _ _ (Nat.two_pow_pos _),Nat.add_mul_mod_self_right]
theorem alV{N m a:Nat}(e6:N<2^(8*a))(hm:m<2^512) :cB (N+m<<< (8*a)) a 64=m:=by unfold cB;rw[Nat.shiftLeft_eq,Nat.add_mul_div_right _ _ (Nat.two_pow_pos _),Nat.div_eq_of_lt e6,Nat.zero_add,Nat.mod_eq_of_lt hm]
theorem acu{N m a:Nat}(e6:N<2^(8*a))(hm:m<2^512) :N+m<<< (8*a) <2^(8*(a+64)):=by rw[Nat.shiftLeft_eq,show 8*(a+64)=512+8*a by omega,Nat.pow_add];have:(m+1) *2^(8*a)<=2^512*2^(8*a):=Nat.mul_le_mul_right _ hm;rw[Nat.add_mul,Nat.one_mul]at this;omega
structure vz(l:List (Nat×Nat))(S:Nat->Nat)(q N:Nat) :Prop where
 lt:N<2^(8*(64*q))
 at':∀p,p<q->∃s,loc l p=some s/\cB N (64*p) 64=S s
theorem vz.step{l:List (Nat×Nat)}{S:Nat->Nat}{q N s:Nat}(k:vz l S q N)(aA:loc l q=some s)(hm:S s<2^512) :vz l S (q+1) (N+S s<<< (8*(64*q)))where
 lt:=by have:=acu k.lt hm;rw[show 64*(q+1)=64*q+64 by omega];exact this
 at':=λp aI=>by
  by_cases e:p=q
  ·subst e;exact⟨s,aA,alV k.lt hm⟩
  ·obtain⟨aY,h1,ab⟩:=k.at' p (by omega);exact⟨aY,h1,by rw[alU (by omega)];exact ab⟩
theorem VA:∀{l:List (Nat×Nat)} {j:Nat} {x:Nat×Nat} (aO:l[j]? =some x) {n:Nat} (aw:n<x.2),loc l (((l.take j).map (·.2)).sum+n)=some (x.1+n)
 |y::l,0,x,aO,n,aw=>by
  obtain rfl:y=x:=by simpa using aO
  show(if 0+n<y.2 then some (y.1+(0+n))else _)=_;rw[Nat.zero_add,if_pos aw]
 |y::l,j+1,x,aO,n,aw=>by have b1:=VA (l:=l) (j:=j) (x:=x) (by simpa using aO) aw;show(if(y.2+((l.take j).map (·.2)).sum) +n<y.2 then _ else loc l ((y.2+((l.take j).map (·.2)).sum) +n-y.2))=_;rw[if_neg (by omega),show(y.2+((l.take j).map (·.2)).sum) +n-y.2=((l.take j).map (·.2)).sum+n by omega];exact b1
theorem apv{l:List (Nat×Nat)}{j:Nat}{x:Nat×Nat}(aO:l[j]? =some x) :((l.take (j+1)).map (·.2)).sum=((l.take j).map (·.2)).sum+x.2:=by obtain⟨b6,rfl⟩:=List.getElem?_eq_some_iff.1 aO;rw[List.take_succ_eq_append_getElem b6,List.map_append,List.sum_append];simp
theorem apw(l:List (Nat×Nat))(j:Nat) :((l.take j).map (·.2)).sum<=(l.map (·.2)).sum:=by
 have:(l.map (·.2)).sum=((l.take j).map (·.2)).sum+((l.drop j).map (·.2)).sum:=by rw[<-List.sum_append,<-List.map_append,List.take_append_drop]
 omega
theorem aoL{h:ae}{eg:aa}{S:Nat->Nat}{n:Nat}(r:gg h 1 eg (((List.range n).map λi=>aa.str 64 (S i)).map one)){i:Nat}(af:i<n) :∃b cap ex,eg=.slice b 0 n cap 1 ex/\bP h b i=some (.str 64 (S i)):=by obtain⟨b,cap,ex,l,ai,_,_,_,_,_,hE⟩:=r.at (i:=i) (x:=[.str 64 (S i)]) (by simp[af,one]);refine⟨b,cap,ex,by simpa using ai,?_⟩;have:=hE 0 (by decide);simpa using this
section
variable{h g:ae}{Q:Nat->Prop}{f:Nat}{S:Nat->Nat}{n:Nat}{cb:List fW}
theorem anL(k:re h Q f S n cb){i:Nat}{x:fW}(af:cb[i]? =some x) :
  bh (call J PV (.func 85 [] []) [.ptr f 0,.int .i64 i] h) λv g=>bf h g/\∃N,v=.tuple [.str x.size (N%2^(8*x.size)),.int .i64 0]/\vz x.ext S ((x.size+63) /64) N:=by
 refine bh.mk (λe=>Vu (first:=[]) (cap:=[]) e rfl) ?_;unfold IT;have ei:x∈cb:=List.mem_of_getElem? af;obtain⟨b6,_⟩:=List.getElem?_eq_some_iff.1 af;obtain⟨vr,z2,z3,z4⟩:=k.ok x ei;have uq:=k.nj;have xV:=k.sec;obtain⟨eg,h8,u,o,vs,yU,qs,anv⟩:=k.str;have ay:=yU.len (T:=197) (si:=yI) (by kernel_rfl) rfl;rw[List.length_map]at ay;have fm:¬(i:Int) <0:=by omega
 have bo:¬(cb.length:Int)<=(i:Int):=by omega
 have bd:∀{g},bf h g->∃b cap ex,bP g f 2=some (.slice b 0 cb.length cap 3 ex)/\∀j,j<3->bP g b (i*3+j)=x.vs[j]? :=λ{g} u=>by obtain⟨b,cap,ex,l,ai,aj,ol,_,Cn,KV,hE⟩:=(yU.ext u).at (i:=i) (x:=x.vs) (by simp[af]);rw[List.length_map]at ai;refine⟨b,cap,ex,?_,hE⟩;rw[(o.ext u k.lt).rd,<-ai];rfl
 obtain⟨b,cap,ex,cS,dm⟩:=bd (aM.refl _ _);have anA:=dm 2 (by decide);simp only[dk,decide_eq_false fm,ar,cP,if_true,cl,Oi,Nat.zero_add,yF,Obj.get o (i:=2) rfl,ay,gA,decide_eq_false bo,c4,bz,bp,cF,Bool.false_eq_true,if_false,ba]
 have xO:h8=.slice b 0 cb.length cap 3 ex:=by have:=Obj.get o (i:=2) (v:=h8) rfl;rw[cS]at this;exact(Option.some.inj this).symm
 have x2:=(k.exts x ei).1.len (T:=202) (si:=sg) (by kernel_rfl) rfl;rw[List.length_map]at x2;rw[xO];simp only[DK b6,ar,Nat.zero_add,Oj,Ow,anA,fW.vs,List.getElem?_cons_zero,List.getElem?_cons_succ]
 refine hX (n:=14) (I:=λj vs g=>∃N,vs=[.str (64*((x.ext.take j).map (·.2)).sum) N,.int .i64 (j:Nat)]/\vz x.ext S ((x.ext.take j).map (·.2)).sum N/\bf h g) (m:=x.ext.length)
  (P:=λy vs g=>∃N a,y=.exit 0/\vs=[.str (64*(x.ext.map (·.2)).sum) N,a]/\vz x.ext S (x.ext.map (·.2)).sum N/\bf h g) (Nat.lt_of_le_of_lt z2 (by decide)) ⟨0,rfl,⟨Nat.two_pow_pos _,λp aI=>absurd aI (Nat.not_lt_zero p)⟩,aM.refl _ _⟩ ?_ ?_
 ·rintro j _ al aO ⟨N,rfl,aH,bR⟩;have mf:=((k.exts x ei).1.ext bR).len (T:=202) (si:=sg) (by kernel_rfl) rfl;rw[List.length_map]at mf;simp only[bz,bp,mf,ar,dk,ba];by_cases nS:j<x.ext.length
  ·rw[if_pos (by simpa using nS)];have ag:x.ext[j]? =some x.ext[j]:=List.getElem?_eq_getElem nS;generalize x.ext[j]=y at ag;have uA:y∈x.ext:=List.mem_of_getElem? ag;obtain⟨aur,ash⟩:=z3 y uA;have ea:=apv ag;have hle:=apw x.ext (j+1)
   have asa:∀{g},bf h g->∃dK zj gi,x.cQ=.slice dK 0 x.ext.length zj 2 gi/\bP g dK (j*2)=some (.int .i64 (y.1:Nat))/\bP g dK (j*2+1)=some (.int .i64 (y.2:Nat)):=λ{g} u=>by obtain⟨dK,zj,gi,bQ,fV,gK,Wy,_,agf,sU,F7⟩:=((k.exts x ei).1.ext u).at (i:=j) (x:=ue y) (by simp[ag]);rw[List.length_map]at fV;exact⟨dK,zj,gi,fV,F7 0 (by decide),F7 1 (by decide)⟩
   refine hX (n:=14) (I:=λm vs g=>∃N,vs=[.str (64*(((x.ext.take j).map (·.2)).sum+m)) N,.int .i64 (m:Nat)]/\vz x.ext S (((x.ext.take j).map (·.2)).sum+m) N/\bf h g) (m:=y.2)
    (P:=λz vs g=>∃N a,z=.exit 2/\vs=[.str (64*(((x.ext.take j).map (·.2)).sum+y.2)) N,a]/\vz x.ext S (((x.ext.take j).map (·.2)).sum+y.2) N/\bf h g) (Nat.lt_of_le_of_lt ash (by decide)) ⟨N,rfl,aH,bR⟩ ?_ ?_
   ·rintro m _ aE hm ⟨N,rfl,aH,bO⟩;obtain⟨dK,zj,gi,fV,Ax,eA⟩:=asa bO;simp only[bz,bp,fV,Yv nS,ar,Nat.zero_add,Yo,cW,eA,dk,ba];by_cases E1:m<y.2
    ·rw[if_pos (by simpa using E1)];have aA:y.1+m<n:=by omega
     obtain⟨HE,aoG,se,uy,apg⟩:=aoL (vs.ext bO) aA;have dG:=(o.ext bO k.lt).rd 0;have aG:b0 .i64 ((y.1:Int) +(m:Int))=((y.1+m:Nat) :Int):=by rw[wrap_i64 (by omega) (by omega)];omega
     have aT:b0 .i64 ((m:Int) +1)=((m+1:Nat) :Int):=by rw[wrap_i64 (by omega) (by omega)];omega
     have uP:bP aE f 0=some (.slice HE 0 n aoG 1 se):=by rw[dG,<-uy];rfl
     have aj:Nat.blt (64*(((x.ext.take j).map (·.2)).sum+m) +64) 4611686018427387904=true:=by rw[dM];omega
     simp only[cl,ar,ap4,aqe,dd,uP,Yn,cW,Ax,du,aG,aqb aA,Nat.zero_add,A2,apg,Jk,AT,aj,cond_true,eh,aT];refine aV.pure (.inl ⟨rfl,E1,_,?_,(aH.step (VA ag E1) (xV.2 _ aA)),bO.trans (aM.aB _ _ _)⟩);rw[show 64*(((x.ext.take j).map (·.2)).sum+m) +64=64*(((x.ext.take j).map (·.2)).sum+(m+1))by omega]
    ·rw[if_neg (by simpa using E1)];obtain rfl:m=y.2:=by omega
     exact aV.pure (.inr ⟨by simp,N,_,rfl,rfl,aH,bO⟩)
   ·rintro _ _ aL ⟨N,a,rfl,rfl,aH,cD⟩;have aT:b0 .i64 ((j:Int) +1)=((j+1:Nat) :Int):=by rw[wrap_i64 (by omega) (by omega)];omega
    simp only[bz,bp,hs,if_true,du,aT,ar];rw[<-ea]at aH|-;exact aV.pure (.inl ⟨rfl,nS,N,rfl,aH,cD⟩)
  ·rw[if_neg (by simpa using nS)];obtain rfl:j=x.ext.length:=by omega
   rw[List.take_length]at aH|-;exact aV.pure (.inr ⟨by simp,N,_,rfl,rfl,aH,bR⟩)
 ·rintro _ _ aE ⟨N,a,rfl,rfl,aH,bO⟩;obtain⟨b,cap,ex,cS,dm⟩:=bd bO;have anz:=dm 1 (by decide);rw[<-z4]at aH|-;simp only[bz,bp,hs,if_true,cl,ar,Oi,Nat.zero_add,yF,cS,DK b6,HX,cW,anz,fW.vs,List.getElem?_cons_zero,List.getElem?_cons_succ];rw[HK aE (l:=64*((x.size+63) /64)) (r:=x.size) (by omega)];exact aV.pure ⟨bO,N,rfl,aH⟩
theorem aol(h:ae){n:Nat}(aw:n<=1048576) :call J PV (.func 86 [] []) [.int .i64 n] h=some (.int .i64 ((n+63) /64:Nat),h):=by
 refine akt (x:=.ret) (vs:=[.int .i64 ((n+63) /64:Nat)]) (first:=[]) (cap:=[]) ?_ rfl;have aG:b0 .i64 ((n:Int) +63)=((n+63:Nat) :Int):=by rw[wrap_i64 (by omega) (by omega)];omega
 have bJ:b0 .i64 (((n+63:Nat) :Int).tdiv 64)=((((n+63) /64:Nat)) :Int):=by rw[show((n+63:Nat) :Int).tdiv 64=(((n+63) /64:Nat) :Int)from rfl,wrap_i64 (by omega) (by omega)]
 simp only[Rm,du,aG,ar,vF .i64 (show(64:Int)≠0 by decide),bJ]
theorem aoZ(h:ae){l n a:Nat}(bc:a<=l) :iv J h 9 (.str l n) (some (.int .i64 a)) none none=some (.str (l-a) ((n>>> (8*a)) %2^(8*(l-a)))):=by
 have aG:J.ty 9=some oz:=by kernel_rfl
 show kl J h 9 (.str l n) (some (a:Int)) none none=_;simp only[kl,aG]
 show(match js l l true (some (a:Int)) none none with
  |some (l,h,_,_)=>some (aa.str (h-l) ((n>>> (8*l)) %2^(8*(h-l))))
  |none=>none)=_
 simp only[js,nQ bc]
theorem an8(h:ae){l n:Nat}(aw:n<2^(8*l))(ay:l<=1048576) :bh (call J PV (.func 54 [] []) [.str l n,.int .i64 64] h) λv g=>v=.str 64 (n%2^512)/\bf h g:=by
 refine bh.mk (λe=>Me (first:=[]) (cap:=[]) e rfl) ?_;unfold Bt;simp only[dk,ar,ba];rw[if_neg (by decide)];simp only[GN,gA,ar,ba];by_cases c:64<=l
 ·rw[if_pos (by simpa using(by omega:(64:Int)<=(l:Nat)))];have:=HK h (l:=l) (n:=n) (r:=64) c;rw[show(aa.int .i64 64)=.int .i64 ((64:Nat) :Int)from rfl,this];exact aV.pure ⟨rfl,aM.refl _ _⟩
 ·rw[if_neg (by simpa using(by omega:(l:Int) <64))];have J0:b0 .i64 (64-(l:Int))=((64-l:Nat) :Int):=by rw[wrap_i64 (by omega) (by omega)];omega
  simp only[fT,J0,ar];refine Bl (G0 (64-l) (by omega)) λg1 aG=> ?_
  have aN:g1.get h.next=.bytes (64-l) false 0:=by rw[aG,ks]
  rw[zn g1 aN (by omega) (by omega)];have fU:cB 0 0 (64-l)=0:=by unfold cB;simp
  rw[fU];simp only[ar,Jk,AT];rw[show Nat.blt (l+(64-l)) 4611686018427387904=true by rw[dM];omega];simp only[cond_true,ar,Nat.zero_shiftLeft,Nat.add_zero,show l+(64-l)=64 by omega];refine aV.pure ⟨?_,by rw[aG];exact aM.new _ _ _⟩;rw[Nat.mod_eq_of_lt (Nat.lt_of_lt_of_le aw (Nat.pow_le_pow_right (by decide) (by omega)))];rfl
theorem am8{N s m sz p:Nat}(h1:cB N (64*p) 64=m)(aI:64*p<=sz) :((N%2^(8*sz)) >>> (8*(64*p)) %2^(8*(sz-64*p))) %2^512=m%2^(8*min 64 (sz-64*p)):=by
 subst h1;apply Nat.eq_of_testBit_eq;intro j;rw[Nat.testBit_mod_two_pow,Nat.testBit_mod_two_pow,Nat.testBit_mod_two_pow,Nat.testBit_shiftRight,Nat.testBit_mod_two_pow,tS];rw[Bool.eq_iff_iff];simp only[Bool.and_eq_true,decide_eq_true_eq];constructor
 ·rintro⟨a,b,c,d⟩;exact⟨by omega,by omega,d⟩
 ·rintro⟨a,b,d⟩;exact⟨by omega,by omega,by omega,d⟩
def WS:Option Nat->aa
 |some m=>.tuple [.str 64 m,.int .i64 0]
 |none=>.tuple [.str 0 0,.int .i64 14]
theorem aok(k:re h Q f S n cb){i p:Int}(af:¬(i<0\/(cb.length:Int)<=i)) :
  bh (call J PV (.func 32 [] []) [.ptr f 0,.int .i64 i,.int .i64 p] h) λv g=>bf h g/\v=WS (fileAt cb S i p):=by
 refine bh.mk (λe=>aj9 (first:=[]) (cap:=[]) e rfl) ?_;unfold Q1;have fU:¬((0:Int)≠0):=by decide
 have b6:i.toNat<cb.length:=by omega
 have ag:cb[i.toNat]? =some cb[i.toNat]:=List.getElem?_eq_getElem b6;generalize cb[i.toNat]=x at ag;obtain⟨vr,z2,z3,z4⟩:=k.ok x (List.mem_of_getElem? ag);have fZ:i=(i.toNat:Int):=by omega
 have aj:=anL (PV:=PV) k ag;rw[<-fZ]at aj;refine b4 aj ?_;rintro _ g1 ⟨bb,N,rfl,aH⟩;simp only[dA,List.getElem?_cons_zero,List.getElem?_cons_succ,ar,dP,decide_eq_false fU,cP,if_true,dk,c4,bz,bp,cF,Bool.false_eq_true,if_false];by_cases fm:p<0
 ·have aJ:fileAt cb S i p=none:=by
   unfold fileAt;rw[if_neg (by omega),ag];simp only;rw[if_pos (.inl fm)]
  rw[aJ];simp only[decide_eq_true fm,Bool.true_eq_false,if_false,c4,bz,bp,cF,if_true,ar,ba];exact aV.pure ⟨bb,rfl⟩
 ·simp only[decide_eq_false fm,if_true,GN,ar,aol g1 vr,c3,gA,c4,bz,bp,cF,Bool.false_eq_true,if_false,ba];by_cases bo:(((x.size+63) /64:Nat) :Int)<=p
  ·have aJ:fileAt cb S i p=none:=by
    unfold fileAt;rw[if_neg (by omega),ag];simp only;rw[if_pos (.inr bo)]
   rw[aJ,if_pos (by simpa using bo)];exact aV.pure ⟨bb,rfl⟩
  ·rw[if_neg (by simpa using bo)];obtain⟨s,aA,aw⟩:=aH.at' p.toNat (by omega)
   have aJ:fileAt cb S i p=some (S s%2^(8*min 64 (x.size-64*p.toNat))):=by unfold fileAt;rw[if_neg (by omega),ag];simp only;rw[if_neg (by omega),aA]
   rw[aJ];have aG:b0 .i64 (64*p)=((64*p.toNat:Nat) :Int):=by rw[wrap_i64 (by omega) (by omega)];omega
   simp only[nh,aG,ar];rw[aoZ g1 (l:=x.size) (a:=64*p.toNat) (by omega)];simp only[ar];refine b4 (an8 g1 (Nat.mod_lt _ (Nat.two_pow_pos _)) (by omega)) ?_;rintro _ g2 ⟨rfl,bn⟩;refine aV.pure ⟨bb.trans bn,?_⟩;rw[am8 (s:=s) aw (by omega)];rfl
end
end
def DC:List (List aa)->Option (List Nat)
 |[]=>some []
 |[.str w m]::r=>if w=64/\m<2^512 then(DC r).bind λl=>some (m::l)else none
 |_=>none
theorem Yb:∀{rows:List (List aa)} {l:List Nat},DC rows=some l->rows=l.map (λm=>[aa.str 64 m])/\∀m,m∈l->m<2^512
 |[],l,e=>by simp only[DC,Option.some.injEq]at e;subst e;exact⟨rfl,λ_ h=>by cases h⟩
 |r::rows,l,e=>by
  unfold DC at e;split at e
  ·rename_i h;cases h
  ·rename_i w m cR heq;injection heq with an xS;subst an xS;split at e
   ·rename_i aH;obtain⟨bQ,h1,e⟩:=Option.bind_eq_some_iff.1 e;simp only[Option.some.injEq]at e;subst e;obtain⟨ab,al⟩:=Yb h1;refine⟨by rw[ab,aH.1];rfl,λx ag=> ?_⟩;rcases List.mem_cons.1 ag with rfl|ag
    ·exact aH.2
    ·exact al x ag
   ·cases e
  ·cases e
structure I3 where
 S:List Nat
 cb:List fW
 R3:List Nat
def UO(n:Nat)(x:fW) :Bool:=decide (x.size<=1048576) &&(decide (x.ext.length<=16000) &&((x.ext.all λy=>decide (y.1+y.2<=n) &&decide (y.2<=16000)) &&decide ((x.size+63) /64=(x.ext.map (·.2)).sum)))
def Nv(h:ae)(f:Nat) :Option I3:=
 (pU h f).bind λl=>match l with
 |[eg,_,h8]=>(Bj h 1 eg).bind λAR=>(DC AR).bind λS=>(Bj h 3 h8).bind λrows=>(z_ h rows).bind λcb=>
  if f<h.next/\(0<cb.length/\cb.length<=65536)/\S.length<=1048576/\(cb.all λx=>UO S.length x)=true then some ⟨S,cb,f::qk eg::qk h8::cb.map λx=>qk x.cQ⟩else none
 |_=>none
theorem anT{h:ae}{f:Nat}{l:I3}(e:Nv h f=some l){Q:Nat->Prop}(FI:∀b,b∈l.R3->Q b) :re h Q f (λi=>l.S.getD i 0) l.S.length l.cb:=by
 unfold Nv at e;obtain⟨cs,h1,e⟩:=Option.bind_eq_some_iff.1 e;split at e
 ·rename_i eg u h8;obtain⟨AR,ab,e⟩:=Option.bind_eq_some_iff.1 e;obtain⟨S,al,e⟩:=Option.bind_eq_some_iff.1 e;obtain⟨rows,aE,e⟩:=Option.bind_eq_some_iff.1 e;obtain⟨cb,aL,e⟩:=Option.bind_eq_some_iff.1 e;split at e
  ·rename_i aH;obtain⟨bo,cp,ed,gh⟩:=aH;simp only[Option.some.injEq]at e;subst e;have vs:=Ij ab;have yU:=Ij aE;obtain⟨s1,s2⟩:=Yb al;obtain⟨i1,i2⟩:=LP aL
   have es:AR=((List.range S.length).map λi=>aa.str 64 (S.getD i 0)).map one:=by
    rw[s1];apply List.ext_getElem
    ·simp
    ·intro i h1 ab;simp only[List.length_map]at h1;simp[one,h1]
   rw[es]at vs;rw[i1]at yU
   refine⟨bo,⟨eg,h8,u,tk h1,vs,yU,λb aj=>FI b (by rw[tT aj];simp),λb aj=>FI b (by rw[tT aj];simp)⟩,λx ag=>⟨i2 x ag,λb aj=>FI b (by
    simp only[List.mem_cons,List.mem_map]
    exact .inr (.inr (.inr ⟨x,ag,tT aj⟩)))⟩,FI f (by simp),cp,λx ag=> ?_,ed,λi af=> ?_⟩
   ·have:=List.all_eq_true.1 gh x ag;simp only[UO,Bool.and_eq_true,decide_eq_true_eq,List.all_eq_true]at this;exact⟨this.1,this.2.1,this.2.2.1,this.2.2.2⟩
   ·have:S.getD i 0=S[i]:=by simp[af]
    rw[this];exact s2 _ (List.getElem_mem af)
  ·cases e
 ·cases e
def WT(sec Du:Nat->Nat)(x:fW) :Bool:=(List.range ((x.size+63) /64)).all λp=>match loc x.ext p with
 |some s=>Nat.beq (sec s) (Du s)
 |none=>true
theorem ad5{sec Du:Nat->Nat} :∀{a b:List fW},a.map (λx=>(x.size,x.ext))=b.map (λx=>(x.size,x.ext))->(a.all λx=>WT sec Du x)=true->∀i p,fileAt a sec i p=fileAt b Du i p:=λ{a b} h1 ab i p=>by
 unfold fileAt;by_cases c:i<0
 ·rw[if_pos c,if_pos c]
 rw[if_neg c,if_neg c];have av:(a[i.toNat]?).map (λx=>(x.size,x.ext))=(b[i.toNat]?).map (λx=>(x.size,x.ext)):=by rw[<-List.getElem?_map,<-List.getElem?_map,h1]
 cases bc:a[i.toNat]? with
 |none=>
  rw[bc]at av;cases aj:b[i.toNat]? with
  |none=>rfl
  |some y=>rw[aj]at av;cases av
 |some x=>
  rw[bc]at av;cases aj:b[i.toNat]? with
  |none=>rw[aj]at av;cases av
  |some y=>
   rw[aj]at av;simp only[Option.map_some,Option.some.injEq,Prod.mk.injEq]at av;obtain⟨aG,aT⟩:=av;simp only;rw[<-aG,<-aT];by_cases cp:p<0\/(((x.size+63) /64:Nat) :Int)<=p
   ·rw[if_pos cp,if_pos cp]
   rw[if_neg cp,if_neg cp];have:=List.all_eq_true.1 (List.all_eq_true.1 ab x (List.mem_of_getElem? bc)) p.toNat (List.mem_range.2 (by omega));cases ay:loc x.ext p.toNat with
   |none=>rfl
   |some s=>
    rw[ay]at this;have:sec s=Du s:=Nat.eq_of_beq_eq_true this;simp only[this]
structure aa3(r:Option (aa×ae))(uN MN:Nat)(g:ae)(X:ew)(c:df)(ρ:Nat->Nat)(σ:b8)(cb:List fW)(f:Nat)(S:Nat->Nat)(m:Nat)(th:List fW) :Prop where
 at':RD r uN MN g X c ρ σ (.ptr f 0) cb
 an6:re g (λi=>ρ i=0/\i<g.next) f S m th
 same:∀i p,c.iU i p=fileAt th S i p
def Mr(r:Option (aa×ae)) :Option ((Nat×aa×ae×Bv) ×Nat×I3):=(yg r).bind λq=>(mO q.2.1).bind λf=>(Nv q.2.2.1 f).bind λl=>
 if(l.R3.all λb=> !(Hx q.2.2.2 b) &&Nat.blt b q.2.2.1.next)=true/\decide (q.2.2.2.F.cb.map (λx=>(x.size,x.ext))=l.cb.map λx=>(x.size,x.ext))=true/\(q.2.2.2.F.cb.all λx=>WT q.2.2.2.dl.sec (λi=>l.S.getD i 0) x)=true then some (q,f,l)else none
theorem ak1{r:Option (aa×ae)}{n s K:Nat}(h:(Mr r).map (λq=>(q.1.2.2.2.A.n,q.1.2.2.2.R.c1,rq q.1.2.2.2.F.cb))=some (n,s,K)) :∃g X c ρ σ cb f S m th,aa3 r n s g X c ρ σ cb f S m th/\rq cb=K:=by
 obtain⟨q,e,h⟩:=Option.map_eq_some_iff.1 h;simp only[Prod.mk.injEq]at h;obtain⟨rfl,rfl,rfl⟩:=h;unfold Mr at e;obtain⟨eA,aG,e⟩:=Option.bind_eq_some_iff.1 e;obtain⟨f,aT,e⟩:=Option.bind_eq_some_iff.1 e;obtain⟨hR,bJ,e⟩:=Option.bind_eq_some_iff.1 e;split at e
 ·rename_i zF;simp only[Option.some.injEq]at e;subst e;unfold yg at aG;obtain⟨⟨v,g⟩,h1,e⟩:=Option.bind_eq_some_iff.1 aG;dsimp only at e;split at e
  ·rename_i a b;obtain⟨M,ab,e⟩:=Option.bind_eq_some_iff.1 e;obtain⟨l,al,e⟩:=Option.bind_eq_some_iff.1 e;split at e
   ·rename_i aH;simp only[Option.some.injEq]at e;subst e;obtain⟨X,ρ,bU,eY,jS,mD,sm,kH⟩:=VM al (Ps aH.1 aH.2);refine⟨g,X,_,ρ,_,l.F.cb,f,_,_,_,⟨⟨?_,kH,rfl,rfl,⟨_,rfl⟩,λ_ _ h=>h,rfl,rfl,rfl,rfl⟩,anT bJ λb aj=> ?_,ad5 (of_decide_eq_true zF.2.1) zF.2.2⟩,rfl⟩
    ·have aT:mO b=some f:=aT;rw[h1,pk ab,pk aT,bU]
    ·have:=List.all_eq_true.1 zF.1 b aj;simp only[Bool.and_eq_true,Bool.not_eq_true',dM]at this;refine⟨?_,this.2⟩;cases aP:ρ b with
     |zero=>rfl
     |succ k=>
      have bm:=sm b (by rw[aP];omega);have cr:Hx l b=false:=this.1;rw[cr]at bm;cases bm
   ·cases e
  ·cases e
 ·cases e
theorem akY:(Mr (Dr hA 200 8)).map (λq=>(q.1.2.2.2.A.n,q.1.2.2.2.R.c1,rq q.1.2.2.2.F.cb))=some (200,8,7):=by kernel_rfl
theorem I'(a:Int){m:Nat}(hm:m<=1000) :∃n:Nat,n<=m/\jb .i64 a m=n:=by
 have hle:(BitVec.ofInt 64 a&&&BitVec.ofInt 64 (m:Int)).toNat<=m:=by rw[BitVec.toNat_and];refine Nat.le_trans Nat.and_le_right ?_;rw[BitVec.ofInt_natCast,BitVec.toNat_ofNat];exact Nat.mod_le _ _
 refine⟨_,hle,?_⟩;show IntKind.i64.wrap (((BitVec.ofInt 64 a&&&BitVec.ofInt 64 (m:Int)).toNat:Nat) :Int)=_;generalize (BitVec.ofInt 64 a&&&BitVec.ofInt 64 (m:Int)).toNat=n at hle;have h:=wrap_i64 (n:=(n:Int)) (by omega) (by omega);rw[m_]at h;exact h
theorem adO(a b:aa) :cm (.tuple [a,b]) 0=some a/\cm (.tuple [a,b]) 1=some b:=⟨rfl,rfl⟩
def lW(c:df)(r:aU) :Nat->Option Nat:=λp=>if r.has p then some (base c r p)else none
section
variable{h g:ae}{X:ew}{c:df}{ρ bD:Nat->Nat}{σ aR:b8}{PV:cn} [cN PV]
theorem JL{σ:b8}{x:bH}{r:aU}(dB:x.L=[r])(aP:∀p,x.T.ent p=.zero) :cont c σ x=lW c r:=funext λp=>by
 rw[zm (aP p)];unfold zg lW;rw[dB,AG];by_cases aD:r.has p=true
 ·rw[if_pos aD,if_pos aD];rfl
 ·rw[if_neg aD,if_neg aD];rfl
theorem GU(k:Good h X c ρ σ (λ_=>0) (λ_=>0))(e1:∀s p,¬c.loose s p){a b:List (Nat×List aU×(Nat->Option Nat))}{s:Nat}{f:Nat->Option Nat}(ai:view c σ=a++(s,[],f)::b){r:aU}(hm:r.may=true) :
  bh (call J PV (.func 31 [] []) [.ptr s 0,.agg r.vs] h) λv g=>v=.int .i64 0/\bX ρ h g/\∃aR bD,(∀i,i<h.next->bD i=ρ i)/\Good g X c bD aR (λ_=>0) (λ_=>0)/\view c aR=a++(s,[r],lW c r)::b/\aR.free=σ.free/\aR.ring=σ.ring/\aR.used=σ.used/\∀y,y∈aR.au->y.s=s->∀p,y.T.ent p=.zero:=by
 unfold view at ai;obtain⟨A,aaU,aA,rfl,sM⟩:=List.map_eq_append_iff.1 ai;obtain⟨x,B,rfl,ag,rfl⟩:=List.map_eq_cons_iff.1 sM;simp only[Prod.mk.injEq]at ag;obtain⟨rfl,dB,aJ⟩:=ag;have gL:x∈σ.au:=by rw[aA];simp
 have aP:∀p,x.T.ent p=.zero:=λp=>Classical.byContradiction λaw=>by
  rcases k.inv.mL x p gL aw with h1|h1
  ·rw[dB]at h1;exact h1 rfl
  ·exact e1 _ _ h1
 refine bh.mono (GS k e1 aA r) ?_;rintro v g ⟨w,⟨hk,_⟩ |⟨_,⟨y,aq,_⟩,_⟩ |⟨_,_,rfl,oB,an,c7⟩⟩
 ·rw[hm]at hk;cases hk
 ·rw[dB]at aq;cases aq
 ·refine⟨rfl,w,_,oB,an,c7,?_,rfl,rfl,rfl,λy aq e=>by
   obtain rfl:=c7.iP aq (List.mem_append_right _ List.mem_cons_self) e
   exact aP⟩
  have aG:(iK r x.L).foldl e9 []=[r]:=by rw[dB];exact LU r (nE hm).2.1
  unfold view;simp only[aG,List.map_append,List.map_cons];rw[JL (x:={x with L:=[r]}) rfl aP];rfl
end
theorem abS(a b p cu:Int) :dY J 47 [(0,.int .i64 a),(1,.int .i64 b),(2,.int .i64 p),(3,.int .i64 1),(4,.int .i64 0),(5,.int .i64 cu)]=some (.agg (⟨a,b,p,1,0,cu⟩ :aU).vs):=by kernel_rfl
theorem aiK{m o:Nat} :cB m o 1=dN m o:=(jE m o).symm
theorem ad6(at' bM:Int){b:Nat}(aj:b<256) :∃g,call J hA (.func 4 [] []) [.int .i64 at',.int .i64 bM,.int .u8 b] dB=some (.bool true,g):=by
 have key:bh (call J hA (.func 4 [] []) [.int .i64 at',.int .i64 bM,.int .u8 b] dB) λv g=>v=.bool true:=by
  refine bh.mk (λe=>akf (first:=[]) (cap:=[]) e rfl) ?_;unfold Q9;obtain⟨g1,X,c,ρ,σ,cb,f,S,G2,th,MF,fX⟩:=ak1 akY;have m:=MF.at';obtain⟨sec,xI⟩:=m.vU;have aF:∀rows,u2 rows<=180->Quiet c rows:=λrows an=>quiet_of m.loose xI (by rw[fX,m.n];omega)
  obtain⟨A,h6,t'⟩:=Hv at' (b:=320) (by decide) (by decide);obtain⟨cu,n',adC⟩:=I' bM (m:=3) (by decide);have fU:¬((0:Int)≠0):=by decide
  rw[H4];simp only[c3];rw[Hz m.cQ];simp-implicitDefEqProofs only[c3,adO,ar,p4,aqr,cP,if_true,c4,bz,bp,cF,ba,Bool.false_eq_true,if_false,tR .i64 (show(320:Int)≠0 by decide),du,t',xd];rw[show jb .i64 bM 3=(cu:Int)from adC];simp-implicitDefEqProofs only[ar,abS];generalize B9:(⟨((0:Nat) :Int),5,6,1,0,(cu:Int)⟩ :aU)=r
  have lN:r.may=true:=by rw[<-B9];refine My ⟨Int.le_refl 0,by show(0:Int) <5;omega,by show(5:Int)<=4096;omega,by show(0:Int)<=6;omega,by show(6:Int)<=7;omega,?_⟩;show(if(1:Int)=1 then _ else _);rw[if_pos rfl];exact⟨Int.le_refl 0,by show(0:Int)<=(cu:Int);omega,by show(cu:Int)<=1073741824-(5-((0:Nat) :Int));omega⟩
  have e1:r.lo=0/\r.af=5:=by rw[<-B9];exact⟨rfl,rfl⟩
  have TZ:∀p:Int,r.has p=decide (0<=p/\p<5):=λp=>by rw[<-B9];rfl
  have iG:u2 [[r],[r]]=18:=by show(1+((mo 512 r+0) +(mo 64 r+0) +(mo 8 r+0))) +((r.af.toNat-r.lo.toNat) +0) +((1+((mo 512 r+0) +(mo 64 r+0) +(mo 8 r+0))) +((r.af.toNat-r.lo.toNat) +0) +0)=18;unfold mo;rw[e1.1,e1.2];rfl
  have rz:∀u:Int,u=1\/u=2->mE [r] (A/64) u:=λu hu=>by
   refine⟨r,by rw[AG,TZ];exact if_pos (by rw[decide_eq_true_eq];omega),?_⟩;rw[<-B9];rcases hu with rfl|rfl
   ·show kO 6 1=true;decide
   ·show kO 6 2=true;decide
  have afe:base c r ((A/64:Nat) :Int)=(c.iU 0 ((cu:Int) +((A/64:Nat) :Int))).getD 0:=by rw[<-B9];unfold base;rw[if_pos rfl];show(c.iU 0 ((cu:Int) +((A/64:Nat) :Int) -((0:Nat) :Int))).getD 0=_;rw[show(cu:Int) +((A/64:Nat) :Int) -((0:Nat) :Int)=(cu:Int) +((A/64:Nat) :Int)by omega]
  have ju:lW c r (A/64)=some ((c.iU 0 ((cu:Int) +((A/64:Nat) :Int))).getD 0):=by unfold lW;rw[TZ,afe];exact if_pos (by rw[decide_eq_true_eq];omega)
  refine cM AY λg2 cE eN bn=> ?_
  refine cX (yH (k:=0) (cs:=r.vs) cE (by simp[aU.vs]) (by simp[aU.vs]) rfl) λg3 ⟨cO,bR,gp⟩=> ?_
  have cO:=ff cO (by simp[aU.vs]);have k9:bf g1 g3:=bn.local bR (λj aO e=>by omega);have qD:view c σ=[]:=by unfold view;rw[m.au];rfl
  refine b4 (Dx (m.nm.ext k9) (by rw[m.free];decide)) ?_;rintro _ g4 ⟨fq,s,ts,fs,oB,rfl,CF,zW,c7,kz⟩;rw[qD,List.nil_append]at kz;generalize ah0:({σ with mem:=az σ.mem fs 0,held:=az σ.held fs 1,free:=σ.free-1,au:=σ.au++[⟨s,ts,ez fs,[]⟩]} :b8)=eU at c7 kz;have FP:0<eU.free:=by rw[<-ah0];show 0<σ.free-1;rw[m.free];decide
  simp-implicitDefEqProofs only[adO,ar];refine b4 (Dx c7 FP) ?_;rintro _ g5 ⟨gf,t,va,Km,PF,rfl,Ge,CC,dQ,jZ⟩;rw[kz]at jZ;generalize ({eU with mem:=az eU.mem Km 0,held:=az eU.held Km 1,free:=eU.free-1,au:=eU.au++[⟨t,va,ez Km,[]⟩]} :b8)=k_ at dQ jZ;simp-implicitDefEqProofs only[adO,ar,dP,decide_eq_false fU,cP,if_true,c4,bz,bp,cF,Bool.false_eq_true,if_false];have ae9:g3.next<=g4.next:=fq.next;have KH:g4.next<=g5.next:=gf.next
  have Us:∀{rr:ae} {bD:Nat->Nat},bX ρ g3 rr->ak J rr 47 (.ptr g1.next 0)=some (.agg r.vs):=λ{rr} {bD} u=>by
   have z:ρ g1.next=0:=Classical.byContradiction λe=>by have:=(m.nm.sys.core.lt _ e);omega
   have o:=u.c0 cO (by omega) z;rw[lz o (by simp[aU.vs])];simp[aU.vs]
  have tH:=fq.trans gf zW;refine fO (P:=λy vs rr=>y=.normal/\vs=[.bool false]/\bX ρ g3 rr/\∃vu Bo,(∀i,i<g3.next->Bo i=ρ i)/\Good rr X c Bo vu (λ_=>0) (λ_=>0)/\view c vu=[(s,[r],lW c r),(t,[],λ_=>none)]) ?_ ?_
  ·rw[Us (bD:=ρ) tH,ar];refine b4 (GU (a:=[]) (b:=[(t,[],λ_=>none)]) (f:=λ_=>none) dQ m.loose (by rw[jZ];rfl) lN) ?_;rintro _ g6 ⟨rfl,gS,vu,Bo,CD,eL,wj,_⟩;simp-implicitDefEqProofs only[dP,decide_eq_false fU,ar];exact aV.pure ⟨rfl,rfl,tH.trans gS (λi af=>by rw[CC i (by omega),zW i af]),vu,Bo,λi af=>by rw[CD i (by omega),CC i (by omega),zW i af],eL,wj⟩
  rintro _ _ g6 ⟨rfl,rfl,vo,vu,Bo,CD,eL,wj⟩;simp-implicitDefEqProofs only[bz,bp,cF,Bool.false_eq_true,if_false,ar,cP,if_true];have asV:g3.next<=g6.next:=vo.next;refine fO (P:=λy vs rr=>y=.normal/\vs=[.bool false]/\bX ρ g3 rr/\∃q' vt,(∀i,i<g3.next->vt i=ρ i)/\Good rr X c vt q' (λ_=>0) (λ_=>0)/\view c q'=[(s,[r],lW c r),(t,[r],lW c r)]) ?_ ?_
  ·rw[Us (bD:=ρ) vo,ar];refine b4 (GU (a:=[(s,[r],lW c r)]) (b:=[]) (f:=λ_=>none) eL m.loose (by rw[wj];rfl) lN) ?_;rintro _ g7 ⟨rfl,jn,q',vt,F6,j0,mW,_⟩;simp-implicitDefEqProofs only[dP,decide_eq_false fU,ar];exact aV.pure ⟨rfl,rfl,vo.trans jn CD,q',vt,λi af=>by rw[F6 i (by omega),CD i af],j0,mW⟩
  rintro _ _ g7 ⟨rfl,rfl,q_,q',vt,F6,j0,mW⟩
  have ea:s≠t:=by have:=j0.ids;rw[O3 (c:=c),mW]at this;simpa using this
  have an7:=(MF.an6.ext k9).az q_ (λi af e=>e af.1);have eq:b0 .i64 ((A:Int).tdiv 64)=((A/64:Nat) :Int):=by rw[show(A:Int).tdiv 64=((A/64:Nat) :Int)from rfl,wrap_i64 (by omega) (by omega)]
  have adE:b0 .i64 ((cu:Int) +((A/64:Nat) :Int))=(cu:Int) +((A/64:Nat) :Int):=wrap_i64 (by omega) (by omega);simp-implicitDefEqProofs only[bz,bp,cF,Bool.false_eq_true,if_false,ar,ba,vF .i64 (show(64:Int)≠0 by decide),eq,du,adE];refine b4 (aok an7 (by have:=an7.nj;omega)) ?_;rintro _ g8 ⟨u8,rfl⟩;rw[<-MF.same];have ahx:(A:Int).tmod 64=((A%64:Nat) :Int):=rfl;generalize atj:(c.iU 0 ((cu:Int) +((A/64:Nat) :Int)))=Ak at ju
  obtain⟨ck,dT,ahw,xB⟩ :∃(ck:aa) (dT:Int),WS Ak=.tuple [ck,.int .i64 dT]/\(Ak=none/\dT=14\/∃qM,Ak=some qM/\ck=.str 64 qM/\dT=0):=by
   cases Ak with
   |none=>exact⟨_,_,rfl,.inl ⟨rfl,rfl⟩⟩
   |some qM=>exact⟨_,_,rfl,.inr ⟨qM,rfl,rfl,rfl⟩⟩
  rw[ahw];simp-implicitDefEqProofs only[adO,ar,dn];refine fO (P:=λy vs rr=>y=.normal/\rr=g8/\vs=[.int .u8 ((cB (Ak.getD 0) (A%64) 1:Nat) :Int)]) ?_ ?_
  ·rcases xB with⟨rfl,rfl⟩ |⟨qM,rfl,rfl,rfl⟩
   ·simp-implicitDefEqProofs only[decide_eq_false (show¬(14:Int)=0 by decide),ba,Bool.false_eq_true,if_false];refine aV.pure ⟨rfl,rfl,?_⟩;have:cB 0 (A%64) 1=0:=by unfold cB;simp
    rw[show(none:Option Nat).getD 0=0 from rfl,this];rfl
   ·simp-implicitDefEqProofs only[decide_true,ba,if_true,tR .i64 (show(64:Int)≠0 by decide),ahx,UL 64 qM (A%64) (by omega),ar];exact aV.pure ⟨rfl,rfl,by rw[show(some qM).getD 0=qM from rfl,aiK]⟩
  rintro _ _ g9 ⟨rfl,t_,rfl⟩;have t_:=t_.symm;subst t_;have pK:=j0.ext u8;have Gb:∀F G:Nat->Option Nat,Quiet c (([(s,[r],F),(t,[r],G)] :List (Nat×List aU×(Nat->Option Nat))).map (·.2.1)):=λF G=>aF _ (by show u2 [[r],[r]]<=180;rw[iG];decide)
  have oY:¬t=s:=λe=>ea e.symm
  have yV:∀(F G:Nat->Option Nat) (H:(Nat->Option Nat)->Nat->Option Nat),m9 s H [(s,[r],F),(t,[r],G)]=[(s,[r],H F),(t,[r],G)]:=λF G H=>by simp[m9,oY]
  simp-implicitDefEqProofs only[bz,bp,jd];refine b4 (w6 pK (by rw[mW];exact Gb _ _) (s:=s) (L:=[r]) (f:=lW c r) (by rw[mW];simp) (addr:=A) (by omega) 1 (rz 1 (.inl rfl)) (b:=0) (by decide)) ?_;rintro _ g10 ⟨fN,auy,aus,oj,atT,Lt,k0,zR,SU,rfl,Gi,_⟩;rw[if_neg (show¬(1:Int)=2 by decide)]at SU;subst SU;rw[ju]at zR;obtain rfl:=Option.some.inj zR;rw[mW,yV]at Gi;simp-implicitDefEqProofs only[adO,ar];refine b4 (w6 k0 (by rw[Gi];exact Gb _ _) (s:=s) (L:=[r]) (f:=iu (A/64) (Ak.getD 0) (lW c r)) (by rw[Gi];simp) (addr:=A) (by omega) 2 (rz 2 (.inr rfl)) aj) ?_;rintro _ g11 ⟨mC,auz,aut,c5,atU,atx,s',Cq,SV,rfl,Gj,_⟩;rw[if_pos (rfl:(2:Int)=2)]at SV;subst SV;rw[Gi,yV]at Gj;simp-implicitDefEqProofs only[adO,ar];refine b4 (w6 s' (by rw[Gj];exact Gb _ _) (s:=s) (L:=[r]) (by rw[Gj];exact List.mem_cons_self ..) (addr:=A) (by omega) 1 (rz 1 (.inl rfl)) (b:=0) (by decide)) ?_;rintro _ g12 ⟨q9,auA,auu,dr,atV,aty,Gz,rM,SW,rfl,LC,_⟩;rw[if_neg (show¬(1:Int)=2 by decide)]at SW;have rM:some (e8 c5 (A%64) 1 b)=some dr:=by rw[<-rM];unfold iu;rw[if_pos rfl]
  obtain rfl:=Option.some.inj rM;subst SW;rw[Gj,yV]at LC;simp-implicitDefEqProofs only[adO,ar];refine b4 (w6 Gz (by rw[LC];exact Gb _ _) (s:=t) (L:=[r]) (f:=lW c r) (by rw[LC];simp) (addr:=A) (by omega) 1 (rz 1 (.inl rfl)) (b:=0) (by decide)) ?_;rintro _ g13 ⟨p_,auB,auv,eu,atW,atz,GA,F1,SX,rfl,atE,_⟩;rw[if_neg (show¬(1:Int)=2 by decide)]at SX;subst SX;rw[ju]at F1;obtain rfl:=Option.some.inj F1;have asH:∀{h:ae} {K:aa->ae->Option a1},bG (b7 (.bool true) true (some (.normal,[.bool true],h)) (some (.normal,[.undef],h))) (λ_ aK bC=>a_ aK λv w=>br w (U (bZ (.bool true) v (.bool false)) λz=>K z bC))=K (.bool true) h:=rfl;rw[ti (by exact aj)];simp-implicitDefEqProofs only[adO,ar,dn,decide_true,c4,bz,bp,cF,cP,if_true];refine fO (P:=λy vs g=>vs=[.bool true]) ?_ ?_
  ·refine b4 (AO GA) λv g ai=>aV.pure (by rw[ai.1])
  rintro _ _ g14 rfl;simp-implicitDefEqProofs only[bz,bp,cF,if_true,ar];exact aV.pure rfl
 obtain⟨v,g,e,rfl⟩:=key;exact⟨g,e⟩
end Go.Proofs.YtkdjcmpgnkecfaaGreatDoor
end
