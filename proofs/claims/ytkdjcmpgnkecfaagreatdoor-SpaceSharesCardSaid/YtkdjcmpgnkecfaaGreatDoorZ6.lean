/-
  Texts R5 W23 W24 W25 W26 W27 W28 W29 R6 W15 W30 W31 W32 W33 W34 W35 W36 W37 W38 W39 W41 W42 W57 W43 W44 W47 W48 W49 W50 W51 B1 W52 W53 W58 M0 R7, joined; own names made short.
-/
import Derived.Test.YtkdjcmpgnkecfaaGreatDoorZ5
set_option linter.all false
set_option exponentiation.threshold 600
noncomputable section
namespace Go.Proofs.YtkdjcmpgnkecfaaGreatDoor
open Go.a8
def hF(x:m') :m':=.seq (.ah []) x
section
set_option maxRecDepth 100000
variable{PV:cn} [cN PV]
def Q6(a0:aa)(C:bW)(h:ae) :Option a1:=U (ax J h .eql 42 a0 .nilPtr) λv1=>bq v1 (some (.ret,[(.bool false)],h)) (U (bB a0) λv2=>U (aQ J 156 v2 0) λv3=>U (ak J h 152 v3) λv4=>a7 (C (.func 92 [] []) [v4] h) λv5 h1=>ca (mn J 64 v5 v5) h1 λv6 ab=>U (bB a0) λbl=>U (aQ J 156 bl 3) λbA=>U (ak J ab 154 bA) λv9=>a7 (C (.func 93 [] []) [v9] ab) λv10 al=>ca (mn J 64 v10 v10) al λv11 aE=>U (bB a0) λv12=>U (aQ J 156 v12 4) λcd=>U (ak J aE 75 cd) λb9=>U (dw J aE 75 b9) λch=>bG (eM 14 (λaK aL=>a_ aK λcj vl=>a_ vl λcC p'=>br p' (U (ax J aL .lss 3 cC ch) λcx=>bq cx (U (cZ J 75 b9 cC) λcL=>U (ak J aL 48 cL) λv20=>U (bB v20) λv21=>U (aQ J 161 v21 1) λv22=>U (ak J aL 157 v22) λv23=>a7 (C (.func 94 [] []) [v23] aL) λv24 cr=>U (ax J cr .add 3 cj v24) λv25=>U (bB v20) λv26=>U (aQ J 161 v26 1) λv27=>U (ak J cr 157 v27) λv28=>a7 (C (.func 95 [] []) [v28] cr) λv29 cz=>U (dw J cz 175 v29) λv30=>bG (eM 14 (λaK c6=>a_ aK λv31 vn=>br vn (U (ax J c6 .lss 3 v31 v30) λv32=>bq v32 (bG (U (cZ J 175 v29 v31) λv33=>U (ak J c6 178 v33) λeP=>ca (dz J 178) c6 λv35 dZ=>U (bN J dZ 178 v35 eP) λdv=>U (aQ J 178 v35 1) λv36=>U (aQ J 169 v36 0) λv37=>U (ak J dv 4 v37) λfE=>bq fE (U (aQ J 178 v35 1) λfy=>U (aQ J 169 fy 4) λv40=>U (ak J dv 3 v40) λv41=>U (cZ J 64 v6 v41) λgv=>U (ak J dv 3 gv) λfF=>U (ax J dv .add 3 fF (.int .i64 1)) λv44=>U (cZ J 64 v6 v41) λgI=>U (bN J dv 3 gI v44) λe5=>some (.normal,[],e5)) (U (aQ J 178 v35 1) λv46=>U (aQ J 169 v46 4) λgR=>U (ak J dv 3 gR) λhb=>U (cZ J 64 v11 hb) λv49=>U (ak J dv 3 v49) λix=>U (ax J dv .add 3 ix (.int .i64 1)) λv51=>U (cZ J 64 v11 hb) λiy=>U (bN J dv 3 iy v51) λeX=>some (.normal,[],eX))) λPw aK hd=>br aK (jF Pw (U (ax J hd .add 3 v31 (.int .i64 1)) λv53=>some (.normal,[v53],hd)) (some (.ret,[v31],hd)) λi=>none)) (some ((.exit 2),[v31],c6)))) [(.int .i64 0)] cz) λarV aK dF=>a_ aK λic Pd=>br Pd (gD 2 arV (U (ax J dF .add 3 cC (.int .i64 1)) λig=>some (.normal,[v25,ig],dF)) (some (.ret,[v25,cC],dF)) λi=>none)) (some ((.exit 0),[cj,cC],aL)))) [(.int .i64 0),(.int .i64 0)] aE) λsm aK bm=>a_ aK λjD Pf=>a_ Pf λv57 arB=>br arB (gD 0 sm (U (bB a0) λj8=>U (aQ J 156 j8 2) λv59=>U (ak J bm 153 v59) λjQ=>a7 (C (.func 96 [] []) [jQ] bm) λjm hC=>U (dw J hC 179 jm) λjR=>bG (eM 14 (λaK hv=>a_ aK λv63 arD=>br arD (U (ax J hv .lss 3 v63 jR) λv64=>bq v64 (U (cZ J 179 jm v63) λko=>U (ak J hv 182 ko) λl4=>ca (dz J 182) hv λmB kt=>U (bN J kt 182 mB l4) λkV=>U (bB a0) λl5=>U (aQ J 156 l5 2) λm7=>U (ak J (ae.aB kV 11) 153 m7) λv70=>U (ak J (ae.aB kV 11) 182 mB) λnM=>a7 (C (.func 97 [] []) [v70,nM] (ae.aB kV 11)) λv72 lp=>U (cm v72 0) λm8=>U (cm v72 1) λp8=>bx [] (λg=>ak J g 182 mB) nM (bx [] (λg=>ak J g 153 m7) v70 (U (cZ J 64 v6 m8) λv75=>U (ak J lp 3 v75) λv76=>U (ax J lp .add 3 v76 (.int .i64 1)) λq8=>U (cZ J 64 v6 m8) λtF=>U (bN J lp 3 tF q8) λnq=>U (ax J nq .add 3 v63 (.int .i64 1)) λtG=>some (.normal,[tG],nq)))) (some ((.exit 4),[v63],hv)))) [(.int .i64 0)] hC) λPx aK hx=>a_ aK λvi Pp=>br Pp (gD 4 Px (U (dw J hx 64 v6) λBf=>bG (eM 14 (λaK nY=>a_ aK λBg arK=>a_ arK λBh arL=>a_ arL λvj arM=>br arM (U (ax J nY .lss 3 vj Bf) λv85=>bq v85 (U (cZ J 64 v6 vj) λIc=>U (ak J nY 3 Ic) λv87=>U (bB a0) λOZ=>U (aQ J 156 OZ 0) λO0=>U (ak J nY 152 O0) λO1=>a7 (C (.func 98 [] []) [O1,vj] nY) λv91 pq=>U (ax J pq .sub 3 v91 v87) λyR=>U (ax J pq .lss 3 yR (.int .i64 0)) λv93=>bG (b7 v93 false (U (ax J pq .gtr 3 yR (.int .i64 1)) λIe=>some (.normal,[Ie],pq)) (some (.normal,[.undef],pq))) λ_ aK uh=>a_ aK λIg arN=>br arN (U (bZ v93 (.bool true) Ig) λBi=>bG (b7 Bi false (U (ax J uh .eql 3 yR (.int .i64 1)) λIh=>some (.normal,[Ih],uh)) (some (.normal,[.undef],uh))) λ_ aK ui=>a_ aK λIi arO=>br arO (bG (b7 Ii true (U (ax J ui .gtr 3 v87 (.int .i64 0)) λO2=>some (.normal,[O2],ui)) (some (.normal,[.undef],ui))) λ_ aK FE=>a_ aK λOX arl=>br arl (bG (b7 Bi false (U (bZ Ii OX (.bool false)) λOY=>some (.normal,[OY],FE)) (some (.normal,[.undef],FE))) λ_ aK FF=>a_ aK λaqV arn=>br arn (U (bZ Bi (.bool true) aqV) λaqW=>bq aqW (some (.ret,[(.bool false),Bh,vj],FF)) (U (ax J FF .add 3 Bh yR) λaqX=>U (ax J FF .add 3 vj (.int .i64 1)) λv105=>some (.normal,[Bg,aqX,v105],FF))))))) (some ((.exit 6),[Bg,Bh,vj],nY)))) [(.bool false),(.int .i64 0),(.int .i64 0)] hx) λarZ aK qq=>a_ aK λaaC aro=>a_ aro λv107 arp=>a_ arp λauf arq=>br arq (gD 6 arZ (U (dw J qq 64 v11) λv109=>bG (eM 14 (λaK B7=>a_ aK λaaD ars=>a_ ars λBe art=>br art (U (ax J B7 .lss 3 Be v109) λaqY=>bq aqY (U (cZ J 64 v11 Be) λaqZ=>U (ak J B7 3 aqZ) λaq0=>U (bB a0) λaq1=>U (aQ J 156 aq1 3) λaq2=>U (ak J B7 154 aq2) λv117=>a7 (C (.func 99 [] []) [v117,Be] B7) λaq3 FG=>U (ax J FG .neq 3 aq3 aq0) λaq4=>bq aq4 (some (.ret,[(.bool false),Be],FG)) (U (ax J FG .add 3 Be (.int .i64 1)) λaq5=>some (.normal,[aaD,aq5],FG))) (some ((.exit 8),[aaD,Be],B7)))) [aaC,(.int .i64 0)] qq) λar0 aK KB=>a_ aK λaq6 aru=>a_ aru λaug arv=>br arv (gD 8 ar0 (U (ax J KB .eql 3 v107 jD) λaq7=>some (.ret,[aq7],KB)) (some (.ret,[aq6],KB)) λi=>none)) (some (.ret,[aaC],qq)) λi=>none)) (some (.ret,[(.bool false)],hx)) λi=>none)) (some (.ret,[(.bool false)],bm)) λi=>none))
theorem akc{a0:aa} :LT PV 34 [a0] (Q6 a0):=
 cc (f:=Tryz.f34) (hF (.seq (hF (.cond (hF .leaf) .leaf)) (hF (hF (hF (.seq (hF (.loop [5,39] [] (hF (.seq (.cond .leaf .leaf) (.seq (.dW (hF (hF (hF (.loop [56] [] (hF (.seq (.cond .leaf .leaf) (.seq (.cut [] [] (.dW (hF (hF (.cond (.ah []) (.ah [])))))) (.ah []))))))))) (.ah [])))))) (.seq (hF (.loop [87] [] (hF (.seq (.cond .leaf .leaf) (.seq (.dW (hF (.seq .drawn (.ah [])))) (.ah [])))))) (hF (.seq (hF (.loop [2,14,109] [] (hF (.seq (.cond .leaf .leaf) (.seq (.dW (hF (hF (.seq (.seq (.ah [[126],[131],[133],[134]]) (.cond (hF .leaf) .leaf)) (.ah []))))) (.ah [])))))) (.seq (hF (.loop [2,142] [] (hF (.seq (.cond .leaf .leaf) (.seq (.dW (hF (hF (.cond (hF .leaf) .leaf)))) (.ah [])))))) (hF .leaf))))))))))) (by kernel_rfl) (b' rfl (by kernel_rfl)) λ_ _=>by kernel_rfl
def Ri(a0:aa)(C:bW)(h:ae) :Option a1:=U (dY J 269 [(0,(.func 156 [a0] [])),(1,(.func 157 [a0] [])),(2,(.func 158 [a0] []))]) λv1=>bG (eM 14 (λaK h1=>a_ aK λv2 dT=>a_ dT λv3 eJ=>br eJ (U (ax J h1 .lss 3 v3 (.int .i64 3)) λv4=>bq v4 (U (o2 J 269 v1 v3) λv5=>a7 (C v5 [] h1) λv6 al=>bq v6 (some ((.exit 0),[v6,v3],al)) (U (ax J al .add 3 v3 (.int .i64 1)) λbl=>some (.normal,[v6,bl],al))) (some ((.exit 0),[v2,v3],h1)))) [(.bool false),(.int .i64 0)] h) λeY aK ab=>a_ aK λbA hL=>a_ hL λv9 iz=>br iz (gD 0 eY (some (.ret,[bA],ab)) (some (.ret,[(.bool false)],ab)) λi=>none)
theorem akp{a0:aa} :LT PV 81 [a0] (Ri a0):=
 cc (f:=Tryz.f81) (hF (.wT (hF (.seq .leaf (.seq (hF (.loop [3,13] [] (hF (.seq (.cond .leaf .leaf) (.seq (.dW (hF (hF (hF (.cond .leaf .leaf))))) (.ah [])))))) (hF .leaf)))))) (by kernel_rfl) (b' rfl (by kernel_rfl)) λ_ _=>by kernel_rfl
def P2(a0:aa)(C:bW)(h:ae) :Option a1:=U (bB a0) λv1=>U (aQ J 156 v1 2) λv2=>U (ak J h 153 v2) λv3=>a7 (C (.func 236 [] []) [v3] h) λv4 h1=>U (cm v4 0) λv5=>U (cm v4 1) λv6=>ca (dz J 182) h1 λbl ab=>U (bN J ab 182 bl v5) λal=>some (.ret,[v6],al)
theorem ai7{a0:aa} :LT PV 156 [a0] (P2 a0):=
 cc (f:=Tryz.f156) (hF (hF (hF .leaf))) (by kernel_rfl) (b' rfl (by kernel_rfl)) λ_ _=>by kernel_rfl
def P3(a0:aa)(C:bW)(h:ae) :Option a1:=a7 (C (.func 237 [] []) [a0,(.func 238 [] [])] h) λv1 h1=>U (cm v1 0) λv2=>U (cm v1 1) λv3=>U (cm v1 2) λv4=>ca (dz J 178) h1 λv5 ab=>U (bN J ab 178 v5 v3) λal=>U (gQ .not v4) λv6=>bq v6 (some (.ret,[(.bool false)],al)) (U (bB v2) λbl=>U (aQ J 161 bl 1) λbA=>U (ak J (ae.aB al 7) 157 bA) λv9=>U (aQ J 178 v5 0) λv10=>U (ak J (ae.aB al 7) 3 v10) λv11=>a7 (C (.func 174 [] []) [v9,v11] (ae.aB al 7)) λv12 aE=>bx [] (λg=>ak J g 3 v10) v11 (bx [] (λg=>ak J g 157 bA) v9 (U (bB a0) λcd=>U (aQ J 156 cd 0) λb9=>U (ak J (ae.aB aE 8) 152 b9) λch=>U (aQ J 178 v5 1) λcj=>U (aQ J 169 cj 4) λcC=>U (ak J (ae.aB aE 8) 3 cC) λcx=>a7 (C (.func 175 [] []) [ch,cx] (ae.aB aE 8)) λcL aL=>bx [] (λg=>ak J g 3 cC) cx (bx [] (λg=>ak J g 152 b9) ch (some (.ret,[(.bool true)],aL))))))
theorem ai8{a0:aa} :LT PV 157 [a0] (P3 a0):=
 cc (f:=Tryz.f157) (hF (hF (.seq (hF (.cond (hF .leaf) .leaf)) (.seq .drawn (.seq .drawn (hF .leaf)))))) (by kernel_rfl) (b' rfl (by kernel_rfl)) λ_ _=>by kernel_rfl
def P4(a0:aa)(C:bW)(h:ae) :Option a1:=ca (c9 J 42 a0) h λv1 h1=>U (ak J h1 42 v1) λv2=>a7 (C (.func 237 [] []) [v2,(.func 239 [] [v1])] h1) λv3 ab=>U (cm v3 0) λv4=>U (cm v3 1) λv5=>U (cm v3 2) λv6=>ca (dz J 178) ab λbl al=>U (bN J al 178 bl v5) λaE=>U (gQ .not v6) λbA=>bq bA (some (.ret,[(.bool false)],aE)) (U (ak J (ae.aB aE 13) 42 v1) λv9=>U (bB v9) λv10=>U (aQ J 156 v10 0) λv11=>U (ak J (ae.aB aE 13) 152 v11) λv12=>U (aQ J 178 bl 1) λcd=>U (aQ J 169 cd 4) λb9=>U (ak J (ae.aB aE 13) 3 b9) λch=>a7 (C (.func 227 [] []) [v12,ch] (ae.aB aE 13)) λcj aL=>U (cm cj 0) λcC=>U (cm cj 1) λcx=>bx [] (λg=>ak J g 3 b9) ch (bx [] (λg=>ak J g 152 v11) v12 (bx [] (λg=>ak J g 42 v1) v9 (U (ak J aL 42 v1) λcL=>U (bB cL) λv20=>U (aQ J 156 v20 3) λv21=>U (ak J aL 154 v21) λv22=>a7 (C (.func 240 [] []) [v22,cC] aL) λv23 bm=>U (cm v23 0) λv24=>U (cm v23 1) λv25=>U (ax J bm .neq 29 v25 (.int .i64 0)) λv26=>bq v26 (some (.ret,[(.bool false)],bm)) (U (bB v4) λv27=>U (aQ J 161 v27 1) λv28=>U (ak J (ae.aB bm 9) 157 v28) λv29=>U (aQ J 178 bl 0) λv30=>U (ak J (ae.aB bm 9) 3 v30) λv31=>U (dY J 169 [(3,(.bool true)),(4,v24)]) λv32=>a7 (C (.func 109 [] []) [v29,v31,v32] (ae.aB bm 9)) λv33 cr=>bx [] (λg=>ak J g 3 v30) v31 (bx [] (λg=>ak J g 157 v28) v29 (U (ak J (ae.aB cr 8) 42 v1) λeP=>U (bB eP) λv35=>U (aQ J 156 v35 0) λv36=>U (ak J (ae.aB cr 8) 152 v36) λv37=>U (aQ J 178 bl 1) λfE=>U (aQ J 169 fE 4) λfy=>U (ak J (ae.aB cr 8) 3 fy) λv40=>a7 (C (.func 175 [] []) [v37,v40] (ae.aB cr 8)) λv41 cz=>bx [] (λg=>ak J g 3 fy) v40 (bx [] (λg=>ak J g 152 v36) v37 (bx [] (λg=>ak J g 42 v1) eP (some (.ret,[(.bool true)],cz)))))))))))
theorem ai9{a0:aa} :LT PV 158 [a0] (P4 a0):=
 cc (f:=Tryz.f158) (hF (hF (.seq (hF (.cond (hF .leaf) .leaf)) (.seq .drawn (hF (.seq (hF (.cond (hF .leaf) .leaf)) (.seq .drawn (.seq .drawn (hF .leaf))))))))) (by kernel_rfl) (b' rfl (by kernel_rfl)) λ_ _=>by kernel_rfl
def Qy(a0 ao:aa)(C:bW)(h:ae) :Option a1:=ca (dz J 178) h λv1 h1=>U (bB a0) λv2=>U (aQ J 156 v2 4) λv3=>U (ak J h1 75 v3) λv4=>U (dw J h1 75 v4) λv5=>bG (eM 14 (λaK ab=>a_ aK λv6 gS=>a_ gS λbl jn=>a_ jn λbA hL=>br hL (U (ax J ab .lss 3 bA v5) λv9=>bq v9 (U (cZ J 75 v4 bA) λv10=>U (ak J ab 48 v10) λv11=>U (bB v11) λv12=>U (aQ J 161 v12 1) λcd=>U (ak J ab 157 cd) λb9=>a7 (C (.func 95 [] []) [b9] ab) λch aE=>U (dw J aE 175 ch) λcj=>bG (eM 14 (λaK aL=>a_ aK λcC p'=>a_ p' λcx qa=>a_ qa λcL qb=>br qb (U (ax J aL .lss 3 cL cj) λv20=>bq v20 (U (cZ J 175 ch cL) λv21=>U (ak J aL 178 v21) λv22=>ca (dz J 178) aL λv23 cr=>U (bN J cr 178 v23 v22) λcz=>U (aQ J 178 v23 1) λv24=>U (ak J cz 169 v24) λv25=>a7 (C ao [v25] cz) λv26 c6=>bq v26 (U (ak J (ae.aB c6 5) 178 v23) λv27=>U (bN J (ae.aB c6 5) 178 v1 v27) λdF=>bx [] (λg=>ak J g 178 v23) v27 (some (.ret,[v11,(.bool true),cL],dF))) (U (ax J c6 .add 3 cL (.int .i64 1)) λv28=>some (.normal,[cC,cx,v28],c6))) (some ((.exit 2),[cC,cx,cL],aL)))) [v6,bl,(.int .i64 0)] aE) λsm aK bm=>a_ aK λv29 sl=>a_ sl λv30 vm=>a_ vm λv31 vn=>br vn (gD 2 sm (U (ax J bm .add 3 bA (.int .i64 1)) λv32=>some (.normal,[v29,v30,v32],bm)) (some (.ret,[v29,v30,bA],bm)) λi=>none)) (some ((.exit 0),[v6,bl,bA],ab)))) [.nilPtr,(.bool false),(.int .i64 0)] h1) λjS aK al=>a_ aK λv33 Eh=>a_ Eh λeP arx=>a_ arx λv35 tH=>br tH (gD 0 jS (U (dY J 178 []) λv36=>U (bN J al 178 v1 v36) λdZ=>U (ak J dZ 178 v1) λv37=>some (.ret,[.nilPtr,v37,(.bool false)],dZ)) (U (ak J al 178 v1) λfE=>some (.ret,[v33,fE,eP],al)) λi=>none)
theorem ajE{a0 ao:aa} :LT PV 237 [a0,ao] (Qy a0 ao):=
 cc (f:=Tryz.f237) (hF (.seq (hF (.loop [4,6,16] [] (hF (.seq (.cond .leaf .leaf) (.seq (.dW (hF (hF (.loop [4,6,26] [] (hF (.seq (.cond .leaf .leaf) (.seq (.dW (hF (hF (.cond (.seq .drawn .leaf) .leaf)))) (.ah [])))))))) (.ah [])))))) (hF .leaf))) (by kernel_rfl) (b' rfl (by kernel_rfl)) λ_ _=>by kernel_rfl
def Qz(a0:aa)(C:bW)(h:ae) :Option a1:=ca (c9 J 169 a0) h λv1 h1=>U (aQ J 169 v1 0) λv2=>U (ak J h1 4 v2) λv3=>bG (b7 v3 true (U (aQ J 169 v1 1) λv4=>U (ak J h1 4 v4) λv5=>U (gQ .not v5) λv6=>some (.normal,[v6],h1)) (some (.normal,[.undef],h1))) λ_ aK ab=>a_ aK λbl jn=>br jn (U (bZ v3 bl (.bool false)) λbA=>bG (b7 bA true (U (aQ J 169 v1 2) λv9=>U (ak J ab 4 v9) λv10=>U (gQ .not v10) λv11=>some (.normal,[v11],ab)) (some (.normal,[.undef],ab))) λ_ aK al=>a_ aK λv12 q9=>br q9 (U (bZ bA v12 (.bool false)) λcd=>some (.ret,[cd],al)))
theorem ajF{a0:aa} :LT PV 238 [a0] (Qz a0):=
 cc (f:=Tryz.f238) (hF (.seq (.ah [[8],[13]]) .leaf)) (by kernel_rfl) (b' rfl (by kernel_rfl)) λ_ _=>by kernel_rfl
def QA(a0 ao:aa)(C:bW)(h:ae) :Option a1:=ca (c9 J 169 a0) h λv1 h1=>U (aQ J 169 v1 0) λv2=>U (ak J (ae.aB h1 21) 4 v2) λv3=>b7 v3 true (U (aQ J 169 v1 1) λv4=>U (ak J (ae.aB h1 21) 4 v4) λv5=>b7 v5 false (U (aQ J 169 v1 2) λv6=>U (ak J (ae.aB h1 21) 4 v6) λbl=>b7 v3 true (U (bZ v5 (.bool true) bl) λbA=>U (bZ v3 bA (.bool false)) λv9=>b7 v9 true (U (ak J (ae.aB h1 21) 42 ao) λv10=>U (bB v10) λv11=>U (aQ J 156 v11 0) λv12=>U (ak J (ae.aB h1 21) 152 v12) λcd=>U (aQ J 169 v1 4) λb9=>U (ak J (ae.aB h1 21) 3 b9) λch=>a7 (C (.func 98 [] []) [cd,ch] (ae.aB h1 21)) λcj ab=>U (ax J ab .eql 3 cj (.int .i64 1)) λcC=>U (bZ v9 cC (.bool false)) λcx=>bx [] (λg=>ak J g 3 b9) ch (bx [] (λg=>ak J g 152 v12) cd (bx [] (λg=>ak J g 42 ao) v10 (bx [] (λg=>ak J g 4 v6) bl (bx [] (λg=>ak J g 4 v4) v5 (bx [] (λg=>ak J g 4 v2) v3 (some (.ret,[cx],ab)))))))) (U (bZ v9 .undef (.bool false)) λcL=>bx [] (λg=>ak J g 4 v6) bl (bx [] (λg=>ak J g 4 v4) v5 (bx [] (λg=>ak J g 4 v2) v3 (some (.ret,[cL],(ae.aB h1 21))))))) (U (bZ v3 .undef (.bool false)) λv20=>b7 v20 true (U (ak J (ae.aB h1 21) 42 ao) λv21=>U (bB v21) λv22=>U (aQ J 156 v22 0) λv23=>U (ak J (ae.aB h1 21) 152 v23) λv24=>U (aQ J 169 v1 4) λv25=>U (ak J (ae.aB h1 21) 3 v25) λv26=>a7 (C (.func 98 [] []) [v24,v26] (ae.aB h1 21)) λv27 al=>U (ax J al .eql 3 v27 (.int .i64 1)) λv28=>U (bZ v20 v28 (.bool false)) λv29=>bx [] (λg=>ak J g 3 v25) v26 (bx [] (λg=>ak J g 152 v23) v24 (bx [] (λg=>ak J g 42 ao) v21 (bx [] (λg=>ak J g 4 v6) bl (bx [] (λg=>ak J g 4 v4) v5 (bx [] (λg=>ak J g 4 v2) v3 (some (.ret,[v29],al)))))))) (U (bZ v20 .undef (.bool false)) λv30=>bx [] (λg=>ak J g 4 v6) bl (bx [] (λg=>ak J g 4 v4) v5 (bx [] (λg=>ak J g 4 v2) v3 (some (.ret,[v30],(ae.aB h1 21)))))))) (b7 v3 true (U (bZ v5 (.bool true) .undef) λv31=>U (bZ v3 v31 (.bool false)) λv32=>b7 v32 true (U (ak J (ae.aB h1 21) 42 ao) λv33=>U (bB v33) λeP=>U (aQ J 156 eP 0) λv35=>U (ak J (ae.aB h1 21) 152 v35) λv36=>U (aQ J 169 v1 4) λv37=>U (ak J (ae.aB h1 21) 3 v37) λfE=>a7 (C (.func 98 [] []) [v36,fE] (ae.aB h1 21)) λfy aE=>U (ax J aE .eql 3 fy (.int .i64 1)) λv40=>U (bZ v32 v40 (.bool false)) λv41=>bx [] (λg=>ak J g 3 v37) fE (bx [] (λg=>ak J g 152 v35) v36 (bx [] (λg=>ak J g 42 ao) v33 (bx [] (λg=>ak J g 4 v4) v5 (bx [] (λg=>ak J g 4 v2) v3 (some (.ret,[v41],aE))))))) (U (bZ v32 .undef (.bool false)) λgv=>bx [] (λg=>ak J g 4 v4) v5 (bx [] (λg=>ak J g 4 v2) v3 (some (.ret,[gv],(ae.aB h1 21)))))) (U (bZ v3 .undef (.bool false)) λfF=>b7 fF true (U (ak J (ae.aB h1 21) 42 ao) λv44=>U (bB v44) λgI=>U (aQ J 156 gI 0) λv46=>U (ak J (ae.aB h1 21) 152 v46) λgR=>U (aQ J 169 v1 4) λhb=>U (ak J (ae.aB h1 21) 3 hb) λv49=>a7 (C (.func 98 [] []) [gR,v49] (ae.aB h1 21)) λix aL=>U (ax J aL .eql 3 ix (.int .i64 1)) λv51=>U (bZ fF v51 (.bool false)) λiy=>bx [] (λg=>ak J g 3 hb) v49 (bx [] (λg=>ak J g 152 v46) gR (bx [] (λg=>ak J g 42 ao) v44 (bx [] (λg=>ak J g 4 v4) v5 (bx [] (λg=>ak J g 4 v2) v3 (some (.ret,[iy],aL))))))) (U (bZ fF .undef (.bool false)) λv53=>bx [] (λg=>ak J g 4 v4) v5 (bx [] (λg=>ak J g 4 v2) v3 (some (.ret,[v53],(ae.aB h1 21)))))))) (b7 .undef false (U (aQ J 169 v1 2) λic=>U (ak J (ae.aB h1 21) 4 ic) λig=>b7 v3 true (U (bZ .undef (.bool true) ig) λjD=>U (bZ v3 jD (.bool false)) λv57=>b7 v57 true (U (ak J (ae.aB h1 21) 42 ao) λj8=>U (bB j8) λv59=>U (aQ J 156 v59 0) λjQ=>U (ak J (ae.aB h1 21) 152 jQ) λjm=>U (aQ J 169 v1 4) λjR=>U (ak J (ae.aB h1 21) 3 jR) λv63=>a7 (C (.func 98 [] []) [jm,v63] (ae.aB h1 21)) λv64 bm=>U (ax J bm .eql 3 v64 (.int .i64 1)) λko=>U (bZ v57 ko (.bool false)) λl4=>bx [] (λg=>ak J g 3 jR) v63 (bx [] (λg=>ak J g 152 jQ) jm (bx [] (λg=>ak J g 42 ao) j8 (bx [] (λg=>ak J g 4 ic) ig (bx [] (λg=>ak J g 4 v2) v3 (some (.ret,[l4],bm))))))) (U (bZ v57 .undef (.bool false)) λmB=>bx [] (λg=>ak J g 4 ic) ig (bx [] (λg=>ak J g 4 v2) v3 (some (.ret,[mB],(ae.aB h1 21)))))) (U (bZ v3 .undef (.bool false)) λl5=>b7 l5 true (U (ak J (ae.aB h1 21) 42 ao) λm7=>U (bB m7) λv70=>U (aQ J 156 v70 0) λnM=>U (ak J (ae.aB h1 21) 152 nM) λv72=>U (aQ J 169 v1 4) λm8=>U (ak J (ae.aB h1 21) 3 m8) λp8=>a7 (C (.func 98 [] []) [v72,p8] (ae.aB h1 21)) λv75 cr=>U (ax J cr .eql 3 v75 (.int .i64 1)) λv76=>U (bZ l5 v76 (.bool false)) λq8=>bx [] (λg=>ak J g 3 m8) p8 (bx [] (λg=>ak J g 152 nM) v72 (bx [] (λg=>ak J g 42 ao) m7 (bx [] (λg=>ak J g 4 ic) ig (bx [] (λg=>ak J g 4 v2) v3 (some (.ret,[q8],cr))))))) (U (bZ l5 .undef (.bool false)) λtF=>bx [] (λg=>ak J g 4 ic) ig (bx [] (λg=>ak J g 4 v2) v3 (some (.ret,[tF],(ae.aB h1 21))))))) (b7 v3 true (U (bZ .undef (.bool true) .undef) λtG=>U (bZ v3 tG (.bool false)) λvi=>b7 vi true (U (ak J (ae.aB h1 21) 42 ao) λBf=>U (bB Bf) λBg=>U (aQ J 156 Bg 0) λBh=>U (ak J (ae.aB h1 21) 152 Bh) λvj=>U (aQ J 169 v1 4) λv85=>U (ak J (ae.aB h1 21) 3 v85) λIc=>a7 (C (.func 98 [] []) [vj,Ic] (ae.aB h1 21)) λv87 cz=>U (ax J cz .eql 3 v87 (.int .i64 1)) λOZ=>U (bZ vi OZ (.bool false)) λO0=>bx [] (λg=>ak J g 3 v85) Ic (bx [] (λg=>ak J g 152 Bh) vj (bx [] (λg=>ak J g 42 ao) Bf (bx [] (λg=>ak J g 4 v2) v3 (some (.ret,[O0],cz)))))) (U (bZ vi .undef (.bool false)) λO1=>bx [] (λg=>ak J g 4 v2) v3 (some (.ret,[O1],(ae.aB h1 21))))) (U (bZ v3 .undef (.bool false)) λv91=>b7 v91 true (U (ak J (ae.aB h1 21) 42 ao) λyR=>U (bB yR) λv93=>U (aQ J 156 v93 0) λIe=>U (ak J (ae.aB h1 21) 152 Ie) λIg=>U (aQ J 169 v1 4) λBi=>U (ak J (ae.aB h1 21) 3 Bi) λIh=>a7 (C (.func 98 [] []) [Ig,Ih] (ae.aB h1 21)) λIi c6=>U (ax J c6 .eql 3 Ii (.int .i64 1)) λO2=>U (bZ v91 O2 (.bool false)) λOX=>bx [] (λg=>ak J g 3 Bi) Ih (bx [] (λg=>ak J g 152 Ie) Ig (bx [] (λg=>ak J g 42 ao) yR (bx [] (λg=>ak J g 4 v2) v3 (some (.ret,[OX],c6)))))) (U (bZ v91 .undef (.bool false)) λOY=>bx [] (λg=>ak J g 4 v2) v3 (some (.ret,[OY],(ae.aB h1 21)))))))
theorem ajG{a0 ao:aa} :LT PV 239 [a0,ao] (QA a0 ao):=
 cc (f:=Tryz.f239) (hF (.seq .drawn .leaf)) (by kernel_rfl) (b' rfl (by kernel_rfl)) λ_ _=>by kernel_rfl
def QU(a0:aa)(C:bW)(h:ae) :Option a1:=U (ax J h .eql 42 a0 .nilPtr) λv1=>bq v1 (some (.ret,[.nilPtr,(.int .i64 1)],h)) (bG (eM 14 (λaK h1=>a_ aK λv2 dT=>a_ dT λv3 eJ=>br eJ (U (bB a0) λv4=>U (aQ J 156 v4 0) λv5=>U (ak J h1 152 v5) λv6=>a7 (C (.func 80 [] []) [v6] h1) λbl al=>U (ax J al .eql 3 bl (.int .i64 0)) λbA=>bq bA (a7 (C (.func 81 [] []) [a0] al) λv9 aE=>U (gQ .not v9) λv10=>bq v10 (some (.ret,[.nilPtr,(.int .i64 18)],aE)) (some (.normal,[v2,v3],aE))) (some ((.exit 0),[v2,v3],al)))) [.nilPtr,(.int .i64 0)] h) λeY aK ab=>a_ aK λv11 mC=>a_ mC λv12 q9=>br q9 (gD 0 eY (U (bB a0) λcd=>U (aQ J 156 cd 0) λb9=>U (ak J ab 152 b9) λch=>a7 (C (.func 82 [] []) [ch] ab) λcj aL=>U (cm cj 0) λcC=>U (cm cj 1) λcx=>U (ax J aL .neq 29 cx (.int .i64 0)) λcL=>bq cL (some (.ret,[.nilPtr,cx],aL)) (U (dY J 161 [(0,a0),(1,cC)]) λv20=>ca (c9 J 161 v20) aL λv21 bm=>U (bB a0) λv22=>U (aQ J 156 v22 4) λv23=>U (ak J bm 75 v23) λv24=>ca (lg J 75 1 [(0,v21)]) bm λv25 cr=>a7 (h2 J cr 75 75 v24 v25) λv26 cz=>U (bB a0) λv27=>U (aQ J 156 v27 4) λv28=>U (bN J cz 75 v28 v26) λc6=>some (.ret,[v21,(.int .i64 0)],c6))) (some (.ret,[v11,v12],ab)) λi=>none))
theorem aj2{a0:aa} :LT PV 30 [a0] (QU a0):=
 cc (f:=Tryz.f30) (hF (.seq (hF (.cond (hF .leaf) .leaf)) (.seq (.loop [2,3] [] (.seq (hF (.cond .leaf .leaf)) (.dW (hF (.cond (hF .leaf) .leaf))))) (hF (.seq (hF (.cond (hF .leaf) .leaf)) (hF (hF (hF .leaf)))))))) (by kernel_rfl) (b' rfl (by kernel_rfl)) λ_ _=>by kernel_rfl
def Rk(a0:aa)(C:bW)(h:ae) :Option a1:=U (ax J h .eql 48 a0 .nilPtr) λv1=>bq v1 (some (.ret,[(.int .i64 1)],h)) (U (bB a0) λv2=>U (aQ J 161 v2 0) λv3=>U (ak J h 42 v3) λv4=>U (ax J h .eql 42 v4 .nilPtr) λv5=>bq v5 (some (.ret,[(.int .i64 13)],h)) (some (.ret,[(.int .i64 0)],h)))
theorem akr{a0:aa} :LT PV 83 [a0] (Rk a0):=
 cc (f:=Tryz.f83) (hF (.seq (.dW (hF (.cond (hF .leaf) (hF (.cond (hF .leaf) .leaf))))) (hF .leaf))) (by kernel_rfl) (b' rfl (by kernel_rfl)) λ_ _=>by kernel_rfl
def QX(a0 ao:aa)(C:bW)(h:ae) :Option a1:=ca (c9 J 47 ao) h λv1 h1=>a7 (C (.func 83 [] []) [a0] h1) λv2 ab=>U (ax J ab .neq 29 v2 (.int .i64 0)) λv3=>bq v3 (some (.ret,[v2],ab)) (U (bB a0) λv4=>U (aQ J 161 v4 2) λv5=>U (ak J (ae.aB ab 11) 126 v5) λv6=>U (ak J (ae.aB ab 11) 47 v1) λbl=>a7 (C (.func 84 [] []) [v6,bl] (ae.aB ab 11)) λbA al=>U (cm bA 0) λv9=>U (cm bA 1) λv10=>bx [] (λg=>ak J g 47 v1) bl (bx [] (λg=>ak J g 126 v5) v6 (U (ax J al .eql 29 v10 (.int .i64 0)) λv11=>bG (bq v11 (U (bB a0) λv12=>U (aQ J 161 v12 2) λcd=>U (bN J al 126 cd v9) λaE=>some (.normal,[],aE)) (some (.normal,[],al))) λkH aK aL=>br aK (jF kH (some (.ret,[v10],aL)) (some (.ret,[(.int .i64 0)],aL)) λi=>none))))
theorem aj5{a0 ao:aa} :LT PV 31 [a0,ao] (QX a0 ao):=
 cc (f:=Tryz.f31) (hF (hF (.seq (hF (.cond (hF .leaf) .leaf)) (.seq .drawn (.seq (hF (.cut [] [] (.cond (.ah []) .leaf))) (hF .leaf)))))) (by kernel_rfl) (b' rfl (by kernel_rfl)) λ_ _=>by kernel_rfl
def PJ(a0 ao:aa)(C:bW)(h:ae) :Option a1:=ca (c9 J 178 ao) h λv1 h1=>U (bB a0) λv2=>U (aQ J 161 v2 1) λv3=>U (ak J (ae.aB h1 7) 157 v3) λv4=>U (aQ J 178 v1 0) λv5=>U (ak J (ae.aB h1 7) 3 v5) λv6=>a7 (C (.func 174 [] []) [v4,v6] (ae.aB h1 7)) λbl ab=>bx [] (λg=>ak J g 3 v5) v6 (bx [] (λg=>ak J g 157 v3) v4 (U (aQ J 178 v1 1) λbA=>U (aQ J 169 bA 0) λv9=>U (ak J ab 4 v9) λv10=>bq v10 (U (bB a0) λv11=>U (aQ J 161 v11 0) λv12=>U (ak J (ae.aB ab 11) 42 v12) λcd=>U (bB cd) λb9=>U (aQ J 156 b9 0) λch=>U (ak J (ae.aB ab 11) 152 ch) λcj=>U (aQ J 178 v1 1) λcC=>U (aQ J 169 cC 4) λcx=>U (ak J (ae.aB ab 11) 3 cx) λcL=>a7 (C (.func 175 [] []) [cj,cL] (ae.aB ab 11)) λv20 al=>bx [] (λg=>ak J g 3 cx) cL (bx [] (λg=>ak J g 152 ch) cj (bx [] (λg=>ak J g 42 v12) cd (some (.ret,[],al))))) (U (bB a0) λv21=>U (aQ J 161 v21 0) λv22=>U (ak J (ae.aB ab 11) 42 v22) λv23=>U (bB v23) λv24=>U (aQ J 156 v24 3) λv25=>U (ak J (ae.aB ab 11) 154 v25) λv26=>U (aQ J 178 v1 1) λv27=>U (aQ J 169 v27 4) λv28=>U (ak J (ae.aB ab 11) 3 v28) λv29=>a7 (C (.func 176 [] []) [v26,v29] (ae.aB ab 11)) λv30 aE=>bx [] (λg=>ak J g 3 v28) v29 (bx [] (λg=>ak J g 154 v25) v26 (bx [] (λg=>ak J g 42 v22) v23 (some (.ret,[],aE)))))))
theorem aiQ{a0 ao:aa} :LT PV 102 [a0,ao] (PJ a0 ao):=
 cc (f:=Tryz.f102) (hF (.seq .drawn (hF (.cond .drawn .drawn)))) (by kernel_rfl) (b' rfl (by kernel_rfl)) λ_ _=>by kernel_rfl
def Q_(a0:aa)(C:bW)(h:ae) :Option a1:=ca (c9 J 48 a0) h λv1 h1=>U (ak J h1 48 v1) λv2=>a7 (C (.func 83 [] []) [v2] h1) λv3 ab=>U (ax J ab .neq 29 v3 (.int .i64 0)) λv4=>bq v4 (some (.ret,[v3],ab)) (U (ak J ab 48 v1) λv5=>U (bB v5) λv6=>U (aQ J 161 v6 1) λbl=>U (ak J ab 157 bl) λbA=>a7 (C (.func 95 [] []) [bA] ab) λv9 al=>U (dw J al 175 v9) λv10=>bG (eM 14 (λaK aE=>a_ aK λv11 mC=>br mC (U (ax J aE .lss 3 v11 v10) λv12=>bq v12 (U (cZ J 175 v9 v11) λcd=>U (ak J aE 178 cd) λb9=>ca (dz J 178) aE λch bm=>U (bN J bm 178 ch b9) λcr=>U (ak J cr 48 v1) λcj=>U (ak J cr 178 ch) λcC=>a7 (C (.func 102 [] []) [cj,cC] cr) λcx cz=>U (ax J cz .add 3 v11 (.int .i64 1)) λcL=>some (.normal,[cL],cz)) (some ((.exit 0),[v11],aE)))) [(.int .i64 0)] al) λkH aK aL=>a_ aK λv20 qc=>br qc (gD 0 kH (U (ak J aL 48 v1) λv21=>U (bB v21) λv22=>U (aQ J 161 v22 1) λv23=>U (ak J aL 157 v23) λv24=>a7 (C (.func 103 [] []) [v24] aL) λv25 c6=>U (ak J c6 48 v1) λv26=>U (bB v26) λv27=>U (aQ J 161 v27 0) λv28=>U (ak J c6 42 v28) λv29=>U (bB v29) λv30=>U (aQ J 156 v30 4) λv31=>U (ak J c6 75 v31) λv32=>a7 (C (.func 104 [] []) [v32,(.func 105 [] [v1])] c6) λv33 dF=>U (bB v29) λeP=>U (aQ J 156 eP 4) λv35=>U (bN J dF 75 v35 v33) λdZ=>U (ak J dZ 48 v1) λv36=>U (dY J 161 []) λv37=>U (bB v36) λfE=>U (bN J dZ 161 fE v37) λdv=>some (.ret,[(.int .i64 0)],dv)) (some (.ret,[(.int .i64 0)],aL)) λi=>none))
theorem akg{a0:aa} :LT PV 41 [a0] (Q_ a0):=
 cc (f:=Tryz.f41) (hF (hF (.seq (hF (.cond (hF .leaf) .leaf)) (.seq (hF (.loop [18] [] (hF (.seq (.cond .leaf .leaf) (.seq (.dW (hF (.ah []))) (.ah [])))))) (hF (hF (hF (hF (hF .leaf))))))))) (by kernel_rfl) (b' rfl (by kernel_rfl)) λ_ _=>by kernel_rfl
def PL(a0 ao:aa)(C:bW)(h:ae) :Option a1:=a7 (C (.func 177 [] []) [a0,ao] h) λv1 h1=>U (ax J h1 .eql 3 v1 (.int .i64 (-1))) λv2=>bq v2 (some (.ret,[a0],h1)) (U (ax J h1 .add 3 v1 (.int .i64 1)) λv3=>bG (eM 14 (λaK ab=>a_ aK λv4 fq=>a_ fq λv5 gf=>br gf (U (dw J ab 75 a0) λv6=>U (ax J ab .lss 3 v5 v6) λbl=>bq bl (bG (U (cZ J 75 a0 v5) λbA=>U (ak J ab 48 bA) λv9=>a7 (C ao [v9] ab) λv10 aE=>U (gQ .not v10) λv11=>bq v11 (U (cZ J 75 a0 v4) λv12=>U (bN J aE 48 v12 v9) λaL=>U (ax J aL .add 3 v4 (.int .i64 1)) λcd=>some (.normal,[cd],aL)) (some (.normal,[v4],aE))) λsm aK bm=>a_ aK λb9 kp=>br kp (jF sm (U (ax J bm .add 3 v5 (.int .i64 1)) λch=>some (.normal,[b9,ch],bm)) (some (.ret,[b9,v5],bm)) λi=>none)) (some ((.exit 0),[v4,v5],ab)))) [v1,v3] h1) λjS aK al=>a_ aK λcj vl=>a_ vl λcC p'=>br p' (gD 0 jS (U (iv J al 75 a0 (some cj) none none) λcx=>U (pf J al 75 cx) λcr=>U (iv J cr 75 a0 none (some cj) none) λcL=>some (.ret,[cL],cr)) (some (.ret,[.bI],al)) λi=>none))
theorem aiS{a0 ao:aa} :LT PV 104 [a0,ao] (PL a0 ao):=
 cc (f:=Tryz.f104) (hF (hF (.seq (hF (.cond (hF .leaf) .leaf)) (.seq (hF (.loop [5,6] [] (.seq (hF (.cond .leaf .leaf)) (.seq (.cut [5] [] (.dW (hF (hF (.cond (hF (.ah [])) .leaf))))) (.ah []))))) (hF (hF .leaf)))))) (by kernel_rfl) (b' rfl (by kernel_rfl)) λ_ _=>by kernel_rfl
def PM(a0 ao:aa)(C:bW)(h:ae) :Option a1:=U (ak J h 48 ao) λv1=>U (ax J h .eql 48 a0 v1) λv2=>some (.ret,[v2],h)
theorem aiT{a0 ao:aa} :LT PV 105 [a0,ao] (PM a0 ao):=
 cc (f:=Tryz.f105) (hF (hF .leaf)) (by kernel_rfl) (b' rfl (by kernel_rfl)) λ_ _=>by kernel_rfl
def Qg(a0 ao:aa)(C:bW)(h:ae) :Option a1:=U (dw J h 75 a0) λv1=>bG (eM 14 (λaK h1=>a_ aK λv2 dT=>a_ dT λv3 eJ=>br eJ (U (ax J h1 .lss 3 v3 v1) λv4=>bq v4 (U (cZ J 75 a0 v3) λv5=>U (ak J h1 48 v5) λv6=>a7 (C ao [v6] h1) λbl al=>bq bl (some (.ret,[v3,v3],al)) (U (ax J al .add 3 v3 (.int .i64 1)) λbA=>some (.normal,[v2,bA],al))) (some ((.exit 0),[v2,v3],h1)))) [(.int .i64 0),(.int .i64 0)] h) λeY aK ab=>a_ aK λv9 iz=>a_ iz λv10 fN=>br fN (gD 0 eY (some (.ret,[(.int .i64 (-1))],ab)) (some (.ret,[v9],ab)) λi=>none)
theorem ajl{a0 ao:aa} :LT PV 177 [a0,ao] (Qg a0 ao):=
 cc (f:=Tryz.f177) (hF (.seq (hF (.loop [4,8] [] (hF (.seq (.cond .leaf .leaf) (.seq (.dW (hF (hF (.cond (hF .leaf) .leaf)))) (.ah [])))))) (hF .leaf))) (by kernel_rfl) (b' rfl (by kernel_rfl)) λ_ _=>by kernel_rfl
end
section
variable{PV:cn} [cN PV]
theorem adO:(∀a l,cm (.tuple (a::l)) 0=some a)/\(∀a b l,cm (.tuple (a::b::l)) 1=some b)/\∀a b c l,cm (.tuple (a::b::c::l)) 2=some c:=⟨λ_ _=>rfl,λ_ _ _=>rfl,λ_ _ _ _=>rfl⟩
structure rf(h:ae)(X:ew)(ρ:Nat->Nat)(x:bH) :Prop where
 str:∃hT,a8.Obj h x.s [.ptr X.M 0,.ptr x.t 0,hT]/\kq h hT x.L/\∀b,cI hT=some b->ρ b=17
 ly:hh h X.A x.t (nodeAt x.T 0 0) x.T.ee
 role:ρ x.s=15/\ρ x.t=16
structure Sys(h:ae)(X:ew)(ρ:Nat->Nat)(σ:b8) :Prop where
 core:Core h X ρ σ
 mem:∃eg,a8.Obj h X.M [.ptr X.A.p 0,.ptr X.F.f 0,.ptr X.k 0,.ptr X.R.a 0,eg]/\gg h 1 eg ((σ.au.map λx=>aa.ptr x.s 0).map one)/\oO eg=true/\∀b,cI eg=some b->ρ b=14
 j3:ρ X.M=13
 au:∀x,x∈σ.au->rf h X ρ x
 iP:σ.au.Pairwise λx y=>x.s≠y.s/\x.t≠y.t
def bX(ρ:Nat->Nat)(h g:ae) :Prop:=aM (λi=>ρ i≠0) h g
section
variable{h g:ae}{X:ew}{ρ bD:Nat->Nat}{σ aR:b8}
theorem bX.ext(u:bf h g) :bX ρ h g:=aM.ext u
theorem bX.of{S:Nat->Prop}(u:aM S h g)(aA:∀i,i<h.next->S i->ρ i≠0) :bX ρ h g:=u.mono aA
theorem bX.own(u:c2 ρ h g) :bX ρ h g:=u.mono λ_ _ e=>e.1
theorem bX.trans{a b c:ae}(x:bX ρ a b)(y:bX bD b c)(an:∀i,i<a.next->bD i=ρ i) :bX ρ a c:=
 aM.local x y λi af e=>by rw[<-an i af];exact e
theorem bX.c0{id:Nat}{l:List aa}(u:bX ρ h g)(o:a8.Obj h id l)(af:id<h.next)(an:ρ id=0) :a8.Obj g id l:=o.az u af (λe=>e an)
theorem rf.c0{x:bH}(k:rf h X ρ x){S:Nat->Prop}(u:aM S h g)(aA:∀i,S i->i<h.next->ρ i<15\/17<ρ i)(an:∀i,i<h.next->bD i=ρ i)(ay:∀i,ρ i≠0->i<h.next) :rf g X bD x:=by
 have no:∀i,15<=ρ i->ρ i<=17->i<h.next/\¬S i:=λi h1 ab=>by have kv:=ay i (by omega);exact⟨kv,λe=>by have:=aA i e kv;omega⟩
 obtain⟨hT,o,r,dO⟩:=k.str;have iY:=k.role;have bk:=no x.s (by omega) (by omega);have b_:=no x.t (by omega) (by omega);have aj:∀b,cI hT=some b->b<h.next/\¬S b:=λb aj=>no b (by rw[dO b aj];decide) (by rw[dO b aj];decide)
 refine⟨⟨hT,o.az u bk.1 bk.2,r.az u (λb cap ex e=>(aj b (by rw[e];rfl)).2),λb e=>by rw[an b (aj b e).1];exact dO b e⟩,Obj.az k.ly u b_.1 b_.2,by rw[an _ bk.1,an _ b_.1];exact iY⟩
theorem Sys.part(k:Sys h X ρ σ)(c:Core g X bD aR)(ep:aR.au=σ.au){S:Nat->Prop}(u:aM S h g)(aA:∀i,S i->i<h.next->ρ i<=12)(an:∀i,i<h.next->bD i=ρ i) :Sys g X bD aR:=by
 have ay:=k.core.lt;have no:∀i,13<=ρ i->i<h.next/\¬S i:=λi h1=>by have kv:=ay i (by omega);exact⟨kv,λe=>by have:=aA i e kv;omega⟩
 obtain⟨eg,o,v,ex,dO⟩:=k.mem;have j3:=k.j3;have bk:=no X.M (by omega);refine⟨c,⟨eg,o.az u bk.1 bk.2,by rw[ep];exact v.az u (λb aj=>(no b (by rw[dO b aj];decide)).2),ex,λb aj=>by rw[an b (no b (by rw[dO b aj];decide)).1];exact dO b aj⟩,by rw[an _ bk.1];exact j3,λx ag=> ?_,by rw[ep];exact k.iP⟩;rw[ep]at ag;exact(k.au x ag).c0 u (λi af ay=>.inl (by have:=aA i af ay;omega)) an ay
theorem Sys.own(k:Sys h X ρ σ)(c:Core g X bD aR)(ep:aR.au=σ.au)(u:c2 ρ h g)(an:∀i,i<h.next->bD i=ρ i) :Sys g X bD aR:=k.part c ep u (λi e _=>e.2) an
theorem Sys.c0(k:Sys h X ρ σ){S:Nat->Prop}(u:aM S h g)(aA:∀i,S i->i<h.next->ρ i=0) :Sys g X ρ σ:=
 k.part (k.core.c0 u (λi af ay=>.inl (aA i af ay)) (λ_ _=>rfl) (λi af=>Nat.lt_of_lt_of_le (k.core.lt i af) u.next)) rfl u (λi af ay=>by rw[aA i af ay];decide) (λ_ _=>rfl)
theorem Sys.ext(k:Sys h X ρ σ)(u:bf h g) :Sys g X ρ σ:=k.c0 u (λ_ e _=>e.elim)
theorem Sys.field(k:Sys h X ρ σ) :bP h X.M 0=some (.ptr X.A.p 0)/\bP h X.M 1=some (.ptr X.F.f 0)/\bP h X.M 2=some (.ptr X.k 0)/\bP h X.M 3=some (.ptr X.R.a 0):=by obtain⟨eg,o,_⟩:=k.mem;exact⟨o.rd 0,o.rd 1,o.rd 2,o.rd 3⟩
theorem rf.field{x:bH}(k:rf h X ρ x) :bP h x.s 0=some (.ptr X.M 0)/\bP h x.s 1=some (.ptr x.t 0):=by obtain⟨hT,o,_⟩:=k.str;exact⟨o.rd 0,o.rd 1⟩
theorem HD{x:bH}(k:rf h X ρ x) :call J PV (.func 83 [] []) [.ptr x.s 0] h=some (.int .i64 0,h):=by refine akr (x:=.ret) (vs:=[.int .i64 0]) (first:=[]) (cap:=[]) ?_ rfl;simp only[Rk,YF,ar,ba,Bool.false_eq_true,if_false,cl,qW,mA,k.field.1,p4]
end
structure Bx(X:ew)(c:df) :Prop where
 n:X.A.n=c.n
 first:X.R.first=c.first
 c1:X.R.c1=c.c1
 dh:X.dh<=c.first
 loc:∀n,n∈X.F.cb->∀p s,p<(n.size+63) /64->loc n.ext p=some s->s<c.first
 vU:∀f p,c.iU f p=fileAt X.F.cb X.HF f p
structure Good(h:ae)(X:ew)(c:df)(ρ:Nat->Nat)(σ:b8)(d e:Nat->Int) :Prop where
 sys:Sys h X ρ σ
 inv:Inv c σ d e
 ef:Bx X c
 sec:∀s,s<c.first->σ.sec s=X.HF s
 iN:σ.ring.Pairwise λa b=>a.fr≠b.fr
theorem ad2{X:ew}{c:df}(k:Bx X c){sec:Nat->Nat}(aA:∀s,s<c.first->sec s=X.HF s)(f p:Int) :fileAt X.F.cb sec f p=c.iU f p:=by
 rw[k.vU];unfold fileAt;by_cases bo:f<0
 ·rw[if_pos bo,if_pos bo]
 rw[if_neg bo,if_neg bo];cases aw:X.F.cb[f.toNat]? with
 |none=>rfl
 |some n=>
  simp only;by_cases cp:p<0\/(((n.size+63) /64:Nat) :Int)<=p
  ·rw[if_pos cp,if_pos cp]
  rw[if_neg cp,if_neg cp];cases ay:loc n.ext p.toNat with
  |none=>rfl
  |some s=>
   simp only;rw[aA s (k.loc n (List.mem_of_getElem? aw) p.toNat s (by omega) ay)]
section
variable{h g:ae}{X:ew}{c:df}{ρ bD:Nat->Nat}{σ aR:b8}{d e:Nat->Int}
theorem Good.c0(k:Good h X c ρ σ d e){S:Nat->Prop}(u:aM S h g)(aA:∀i,S i->i<h.next->ρ i=0) :Good g X c ρ σ d e:=⟨k.sys.c0 u aA,k.inv,k.ef,k.sec,k.iN⟩
theorem Good.ext(k:Good h X c ρ σ d e)(u:bf h g) :Good g X c ρ σ d e:=k.c0 u (λ_ e _=>e.elim)
theorem Good.n(k:Good h X c ρ σ d e) :c.n<=4096:=by rw[<-k.ef.n];exact k.sys.core.ps.p.n
theorem Good.c1(k:Good h X c ρ σ d e) :c.c1<=4096:=by rw[<-k.ef.c1];exact k.sys.core.hi.s
theorem Good.fresh(k:Good h X c ρ σ d e){i:Nat}(af:h.next<=i) :ρ i=0:=k.sys.core.Kl af
theorem Good.nW(k:Good h X c ρ σ d e) :σ.free=cq (λf=>σ.held f==0) X.A.n:=by rw[k.ef.n];exact k.inv.free
theorem Good.zy(k:Good h X c ρ σ d e) :σ.free<=4096:=by rw[k.inv.free];exact Nat.le_trans (oJ _ _) k.n
theorem Good.ly(k:Good h X c ρ σ d e){x:bH}(ag:x∈σ.au) :nf h X.A σ.mem σ.held x.t x.T.ee x.T where
 obj:=(k.sys.au x ag).ly
 lt:=k.sys.core.lt _ (by rw[(k.sys.au x ag).role.2];decide)
 ok:=by rw[k.ef.n];exact k.inv.jl x ag
 held:=λf aJ=>by rw[(k.inv.node x f ag aJ).1];decide
theorem Good.ps(k:Good h X c ρ σ d e) :fI h X.A σ.mem σ.held σ.free:=k.sys.core.ps
theorem Good.DP(k:Good h X c ρ σ d e){x:bH}(ag:x∈σ.au) :¬gq X.A x.t/\x.t≠0:=by
 have r:=(k.sys.au x ag).role.2;refine⟨λe=> ?_,λe=> ?_⟩
 ·have:=k.sys.core.mv e;omega
 ·have:=k.sys.core.r0;rw[e]at r;omega
end
theorem zp:∀{n:Nat} {l:List Nat},l.Pairwise (·≠ ·)->(∀x,x∈l->x<n)->l.length<=n
 |0,[],_,_=>Nat.le_refl _
 |0,x::l,_,h=>absurd (h x (by simp)) (by omega)
 |n+1,l,aI,h=>by
  by_cases hm:n∈l
  ·obtain⟨a,b,rfl⟩:=List.append_of_mem hm;have h1:=(jA (R:=λa b:Nat=>a≠b) (λa b aw=>aw.symm)).1 aI
   have:=zp h1.2 (n:=n) (λx ag=>by
    have ab:=h x (fe.2 (.inr ag));have al:=h1.1 x ag
    omega)
   simp at this|-;omega
  ·have:=zp aI (n:=n) (λx ag=>by
    have ab:=h x ag;have al:x≠n:=λe=>hm (e▸ag)
    omega)
   omega
section
variable{h g:ae}{X:ew}{c:df}{ρ bD:Nat->Nat}{σ aR:b8}{d e:Nat->Int}
theorem Good.an'(k:Good h X c ρ σ d e) :σ.ring.length<=c.n:=by
 have:=zp (n:=c.n) (l:=σ.ring.map (·.fr)) (List.pairwise_map.2 k.iN) (λx ag=>by
  obtain⟨y,aq,rfl⟩:=List.mem_map.1 ag
  exact(k.inv.ring y aq).1)
 simpa using this
theorem Good.aoa(k:Good h X c ρ σ d e)(aC:∀f,0<=d f)(aJ:0<σ.free) :σ.ring.length<4096:=by
 have aw:=k.n;have oS:=k.inv.free;obtain⟨f,f1,f2,_⟩:=least (by rw[<-oS];exact aJ:0<cq (λf=>σ.held f==0) c.n);have h0:=k.inv.uf aC f1 (by simpa using f2);have an:=(lV h0.1).2
 have:=zp (n:=c.n) (l:=f::σ.ring.map (·.fr)) (List.pairwise_cons.2 ⟨λx ag=>by
  obtain⟨y,aq,rfl⟩:=List.mem_map.1 ag
  exact(an y aq).symm,List.pairwise_map.2 k.iN⟩) (λx ag=>by
  rcases List.mem_cons.1 ag with rfl|ag
  ·exact f1
  ·obtain⟨y,aq,rfl⟩:=List.mem_map.1 ag
   exact(k.inv.ring y aq).1)
 simp at this;omega
end
end
section
variable{PV:cn} [cN PV]
def view(c:df)(σ:b8) :List (Nat×List aU×(Nat->Option Nat)):=σ.au.map λx=>(x.s,x.L,cont c σ x)
theorem vk{c:df}{σ aR:b8}(h:aR.au=σ.au)(k:∀x p,x∈σ.au->cont c aR x p=cont c σ x p) :view c aR=view c σ:=by
 unfold view;rw[h];refine List.map_congr_left λx ag=> ?_
 rw[show cont c aR x=cont c σ x from funext λp=>k x p ag]
theorem Ik{c:df}{σ aR:b8}{a b:List bH}{x cG:bH}(h:σ.au=a++x::b)(bC:aR.au=a++cG::b)(aA:cG.s=x.s)(dB:cG.L=x.L)(k:∀y p,y∈a++b->cont c aR y p=cont c σ y p)(Ae:∀p,cont c aR cG p=cont c σ x p) :view c aR=view c σ:=by
 unfold view;rw[h,bC,List.map_append,List.map_append,List.map_cons,List.map_cons];have aG:a.map (λx=>(x.s,x.L,cont c aR x))=a.map (λx=>(x.s,x.L,cont c σ x)):=List.map_congr_left λy aq=>by rw[show cont c aR y=cont c σ y from funext λp=>k y p (by simp[aq])]
 have aT:b.map (λx=>(x.s,x.L,cont c aR x))=b.map (λx=>(x.s,x.L,cont c σ x)):=List.map_congr_left λy aq=>by rw[show cont c aR y=cont c σ y from funext λp=>k y p (by simp[aq])]
 rw[aG,aT,aA,dB,show cont c aR cG=cont c σ x from funext Ae]
theorem lG{c:df}{σ aR:b8}{x:bH}{p:Nat}(h1:(x.T.ent p).here=true->aR.mem (x.T.ent p).n.toNat=σ.mem (x.T.ent p).n.toNat)(ab:(x.T.ent p).out=true->aR.sec (c.first+(x.T.ent p).n.toNat)=σ.sec (c.first+(x.T.ent p).n.toNat)) :cont c aR x p=cont c σ x p:=by
 unfold cont;cases cv x.L p with
 |none=>rfl
 |some r=>
  simp only;by_cases bo:(x.T.ent p).here=true
  ·rw[if_pos bo,if_pos bo,h1 bo]
  ·rw[if_neg bo,if_neg bo];by_cases cp:(x.T.ent p).out=true
   ·rw[if_pos cp,if_pos cp,ab cp]
   ·rw[if_neg cp,if_neg cp]
theorem Dl(P:bj->Bool) :∀l:List bH,da l P<=4096*l.length
 |[]=>by simp[da]
 |x::l=>by
  rw[nG,List.length_cons];have h1:=Dl P l;have ab:x.T.h4 P<=4096:=by unfold dt.h4;exact oJ _ _
  omega
theorem E4{α:Type}(P:α->Bool) :∀l:List α,eW P l<=l.length
 |[]=>by simp[eW]
 |x::l=>by rw[rl,List.length_cons];have h1:=E4 P l;have ab:=Bool.toNat_le (P x);omega
section
variable{h g:ae}{X:ew}{c:df}{ρ bD:Nat->Nat}{σ aR:b8}{d e:Nat->Int}
theorem Good.root(k:Good h X c ρ σ d e){x:bH}(ag:x∈σ.au) :IsNode x.T (nodeAt x.T 0 0)/\nodeAt x.T 0 0<c.n:=by
 have ok:=k.inv.jl x ag;cases an:x.T.bd 0 0 with
 |none=>exact absurd an ok.root
 |some f=>
  have:nodeAt x.T 0 0=f:=by show(x.T.bd 0 0).getD 0=f;rw[an];rfl
  rw[this];exact⟨⟨0,0,an⟩,(ok.lvl 0 0 f an).2.2⟩
theorem Good.AQ(k:Good h X c ρ σ d e) :σ.au.length<=c.n:=by
 have:=zp (n:=c.n) (l:=σ.au.map (λx=>nodeAt x.T 0 0)) (List.pairwise_map.2 (by
  refine List.Pairwise.imp_of_mem ?_ k.inv.ph;intro x y ag aq LJ e
  exact LJ _ (k.root ag).1 (by rw[e];exact(k.root aq).1))) (λx ag=>by
  obtain⟨y,aq,rfl⟩:=List.mem_map.1 ag
  exact(k.root aq).2)
 simpa using this
theorem Good.Cb(k:Good h X c ρ σ d e)(aC:∀f,d f<=16){f:Nat}(aJ:f<c.n) :σ.held f<2^40:=by
 by_cases aw:∃x,x∈σ.au/\IsNode x.T f
 ·obtain⟨x,ag,db⟩:=aw;rw[(k.inv.node x f ag db).1];decide
 ·have h1:=k.inv.data f aJ (λx ag db=>aw ⟨x,ag,db⟩);have ab:=Dl (b2 f) σ.au;have al:=E4 (λx:dj=>x.fr==f) σ.ring;have aE:=k.an';have aL:=k.AQ;have bm:=k.n;have cr:=aC f;unfold refs at h1;have:σ.held f<2^40:=by omega
  exact this
theorem Good.NW(k:Good h X c ρ σ d e)(aC:∀f,e f<=16){i:Nat}(af:i<c.c1) :σ.bY i<2^40:=by
 have h1:=k.inv.slot i af;have ab:=Dl (dg i) σ.au;have aL:=k.AQ;have bm:=k.n;have cr:=aC i;unfold lY at h1;have:σ.bY i<2^40:=by omega
 exact this
def lv(l:List dj) :List (Int×Int):=l.map λy=>(y.file,y.bM)
theorem aco(k:Good h X c ρ σ d e)(aC:∀f,0<=d f)(rD:∀f,d f<=15)(f p:Int) :
  bh (call J PV (.func 246 [] []) [.ptr X.k 0,hQ f p] h) λv g=>bX ρ h g/\
   ((∃zv:Int,v=.tuple [.int .i64 0,.int .i64 zv]/\(zv=14/\c.iU f p=none\/zv=18/\σ.free=0/\c.iU f p≠none)/\Good g X c ρ σ d e)\/
    ∃fr aR bD,v=.tuple [.int .i64 (fr:Nat),.int .i64 0]/\(∀i,i<h.next->bD i=ρ i)/\(∃y,y∈aR.ring/\y.fr=fr/\y.file=f/\y.bM=p)/\
     Good g X c bD aR (λg=>d g+(decide (g=fr)).toNat) e/\aR.au=σ.au/\view c aR=view c σ/\aR.sec=σ.sec/\σ.free<=aR.free+1/\aR.free<=σ.free/\aR.used=σ.used/\aR.bY=σ.bY/\(lv aR.ring=lv σ.ring\/lv aR.ring=lv σ.ring++[(f,p)])):=by
 have oS:=ad2 k.ef k.sec f p;by_cases fZ:∃y,y∈σ.ring/\y.file=f/\y.bM=p
 ·obtain⟨y,aq,rfl,rfl⟩:=fZ;obtain⟨pre,post,an⟩:=List.append_of_mem aq;have s8:=k.inv.ring y aq;have aD:=k.inv.NB aq (aC _);have aj:=k.Cb (λf=>by have:=rD f;omega) s8.1;refine bh.mono (acx k.sys.core an (by rw[k.ef.n];exact s8.1) (by omega) (by omega)) ?_;rintro _ g ⟨rfl,bk,bb⟩;refine⟨bX.own bb,.inr ⟨y.fr,_,ρ,rfl,λ_ _=>rfl,⟨{y with fresh:=true},fe.2 (.inl rfl),rfl,rfl,rfl⟩,⟨k.sys.own bk rfl bb (λ_ _=>rfl),?_,k.ef,k.sec,?_⟩,rfl,vk rfl (λx q ag=>lG (λ_=>rfl) (λ_=>rfl)),rfl,Nat.le_succ _,Nat.le_refl _,rfl,rfl,.inl (by rw[an];simp[lv])⟩⟩
  ·have i1:=k.inv.marks (gu:=pre++{y with fresh:=true}::post) (by rw[an];simp) σ.hand
   have i2:=i1.held (f:=y.fr) s8.1 (σ.held y.fr+1) σ.free (λg=>d g+(decide (g=y.fr)).toNat) (λx ag=>k.inv.yu aq ag) (by
    have h1:=i1.data y.fr s8.1 (λx ag=>k.inv.yu aq ag);have sL:(σ.held y.fr:Int)=refs {σ with ring:=pre++{y with fresh:=true}::post,hand:=σ.hand} y.fr+d y.fr:=h1;simp only[decide_true,Bool.toNat_true]
    omega) (λg aN=>by simp[aN]) (by
    show σ.free+(decide (σ.held y.fr=0)).toNat=σ.free+(decide (σ.held y.fr+1=0)).toNat
    rw[decide_eq_false (by omega),decide_eq_false (by omega)])
   exact i2
  ·have av:=k.iN;rw[an]at av;have iR:∀a b:dj,a.fr≠b.fr->b.fr≠a.fr:=λa b aw=>aw.symm
   have h1:=(jA (R:=λa b:dj=>a.fr≠b.fr) iR).1 av;exact(jA (R:=λa b:dj=>a.fr≠b.fr) iR).2 ⟨λz aP=>h1.1 z aP,h1.2⟩
 ·have e7:∀y,y∈σ.ring->¬(y.file=f/\y.bM=p):=λy aq aD=>fZ ⟨y,aq,aD⟩
  refine bh.mono (acw k.sys.core e7 k.nW (k.aoa aC)) ?_;rintro v g ⟨bb,h1|h1|h1⟩
  ·obtain⟨ao,rfl,a3⟩:=h1;refine⟨bX.own bb,.inl ⟨14,rfl,.inl ⟨rfl,by rw[<-oS];exact ao⟩,⟨k.sys.own a3 rfl bb (λ_ _=>rfl),k.inv,k.ef,k.sec,k.iN⟩⟩⟩
  ·obtain⟨ao,a2,rfl,a3⟩:=h1;refine⟨bX.own bb,.inl ⟨18,rfl,.inr ⟨rfl,a2,by rw[<-oS];exact ao⟩,⟨k.sys.own a3 rfl bb (λ_ _=>rfl),k.inv,k.ef,k.sec,k.iN⟩⟩⟩
  ·obtain⟨m,fr,id,bD,ao,a2,a3,rfl,a5,hZ⟩:=h1;rw[k.ef.n]at a2;have jw:=k.inv.uf aC a2 a3;have hm:c.iU f p=some m:=by rw[<-oS];exact ao
   refine⟨bX.own bb,.inr ⟨fr,_,bD,rfl,a5,⟨_,List.mem_append_right _ (List.mem_singleton_self _),rfl,rfl,rfl⟩,⟨k.sys.own hZ rfl bb a5,?_,k.ef,k.sec,?_⟩,rfl,vk rfl (λx q ag=>lG (λaD=> ?_) (λ_=>rfl)),rfl,by show σ.free<=σ.free-1+1;omega,by show σ.free-1<=σ.free;omega,rfl,rfl,.inr (by simp[lv])⟩⟩
   ·have ml:0<σ.free:=by
     rw[k.inv.free];exact zk a2 (by simp[a3])
    have i1:=k.inv.fill m jw.1 jw.2.2
    have i2:=i1.held (f:=fr) a2 2 (σ.free-1) (λg=>d g+2*(decide (g=fr)).toNat) jw.2.2 (by
     have:refs {σ with mem:=az σ.mem fr m} fr=refs σ fr:=rfl;have h1:=jw.1;have ab:=jw.2.1;simp only[decide_true,Bool.toNat_true]
     omega) (λg aN=>by simp[aN]) (by
     show σ.free-1+(decide (σ.held fr=0)).toNat=σ.free+(decide (2=0)).toNat;rw[decide_eq_true a3];simp only[Bool.toNat_true];show σ.free-1+1=σ.free+0
     omega)
    have i3:=i2.acq (y:=⟨id,f,p,fr,false⟩) a2 (by show c.iU f p=some (az σ.mem fr m fr);rw[e4];exact hm) jw.1 jw.2.2 e7 (λg=>d g+(decide (g=fr)).toNat) (λg=>by
     show d g+((decide (g=fr)).toNat:Int)=d g+2*((decide (g=fr)).toNat:Int) -((decide (g=fr)).toNat:Int)
     omega)
    exact i3
   ·refine List.pairwise_append.2 ⟨k.iN,List.pairwise_singleton _ _,λa bc b aj=> ?_⟩;rw[List.mem_singleton]at aj;subst aj;exact(lV jw.1).2 a bc
   ·show az σ.mem fr m _=_;rw[eE];intro e;have:=(lV jw.1).1 x q ag (k.inv.lt ag (gZ aD));rw[<-e,iL k.inv ag aD]at this;cases this
end
end
section
variable{PV:cn} [cN PV]
theorem aqL(h:ae)(s:bj) :bh (call J PV (.func 238 [] []) [s.eo] h) λv g=>v=.bool (h7 s)/\bf h g:=by
 refine bh.mk (λe=>ajF (first:=[]) (cap:=[]) e rfl) ?_;unfold Qz;refine cM (u6 (cs:=s.vs) rfl) λg o n u=> ?_
 have r0:=Obj.get o (i:=0) rfl;have cS:=Obj.get o (i:=1) rfl;have dm:=Obj.get o (i:=2) rfl;obtain⟨a,b,c,d,n⟩:=s;simp only[lZ,ow,ox,Nat.zero_add,km,r0,cS,dm,ar];cases a
 ·simp only[cP,Bool.false_eq_true,if_false,c4,bz,bp,cF,ar,fD];exact aV.pure ⟨rfl,u⟩
 ·cases b
  ·simp only[dm,cP,if_true,c4,bz,bp,cF,ar,fD,Bool.not_false];exact aV.pure ⟨by cases c<;>rfl,u⟩
  ·simp only[cP,if_true,c4,bz,bp,cF,ar,fD,Bool.not_true,Bool.false_eq_true,if_false];exact aV.pure ⟨rfl,u⟩
def Ad(held:Nat->Nat)(s:bj) :Bool:=s.here&&(s.write||s.copy) &&held s.n.toNat==1
theorem apx{h:ae}{X:ew}{ρ:Nat->Nat}{σ:b8}(k:Sys h X ρ σ){eV:Nat}(ob:a8.Obj h eV [.ptr X.M 0])(Lo:eV<h.next)(s:bj)(aw:s.here=true->0<=s.n/\s.n.toNat<X.A.n) :bh (call J PV (.func 239 [] [.ptr eV 0]) [s.eo] h) λv g=>v=.bool (Ad σ.held s)/\bf h g:=by
 refine bh.mk (λe=>ajG (first:=[]) (mid:=[_]) (cap:=[_]) e rfl) ?_;unfold QA;refine cM (u6 (cs:=s.vs) rfl) λg o n u=> ?_
 have cf:bf g (g.aB 21):=aM.aB _ _ _;have x':=(k.ext u).ext cf;have gb:=x'.field.1;rw[dd]at gb;have uR:=Obj.get (ob.ext u Lo) (i:=0) rfl;have r0:=Obj.get o (i:=0) rfl;have cS:=Obj.get o (i:=1) rfl;have dm:=Obj.get o (i:=2) rfl;have fp:=Obj.get o (i:=4) rfl;obtain⟨a,b,c,d,n⟩:=s;have w:=u.trans cf;have aD:a=true->call J PV (.func 98 [] []) [.ptr X.A.p 0,.int .i64 n] (g.aB 21)=some (.int .i64 (σ.held n.toNat),g.aB 21):=λbc=>by have:=aw bc;have h0:0<=n:=this.1;have e:=FO x'.core.ps.p (f:=n.toNat) this.2;rw[show((n.toNat:Nat) :Int)=n by show(n.toNat:Int)=n;omega]at e;exact e
 have aC:decide ((σ.held n.toNat:Int)=1)=(σ.held n.toNat==1):=by rw[Bool.eq_iff_iff];simp;omega
 cases a
 ·cases b<;>(simp only[lZ,ow,ox,l0,Nat.zero_add,km,dd,r0,cS,dm,ar,cP,Hh,Bool.false_eq_true,Bool.true_eq_false,if_false,if_true,cF,eh];exact aV.pure ⟨rfl,w⟩)
 ·have nr:=aD rfl;cases b
  ·cases c
   ·simp only[lZ,ow,ox,l0,Nat.zero_add,km,dd,r0,cS,dm,ar,cP,Hh,Bool.false_eq_true,Bool.true_eq_false,if_false,if_true,cF,eh];exact aV.pure ⟨rfl,w⟩
   ·simp only[lZ,ow,ox,l0,k7,Nat.zero_add,km,mA,ha,cW,dd,r0,cS,dm,fp,uR,gb,cl,ar,cP,Hh,Bool.false_eq_true,Bool.true_eq_false,if_false,if_true,cF,eh,nr,c3,dn,aC];exact aV.pure ⟨rfl,w⟩
  ·cases c<;>(simp only[lZ,ow,ox,l0,k7,Nat.zero_add,km,mA,ha,cW,dd,r0,cS,dm,fp,uR,gb,cl,ar,cP,Hh,Bool.false_eq_true,Bool.true_eq_false,if_false,if_true,cF,eh,nr,c3,dn,aC];exact aV.pure ⟨rfl,w⟩)
theorem N0(ent:Nat->bj) :(dI ent 0 4096).length<=4096:=by rw[N1];exact oJ _ _
theorem MC{ent:Nat->bj}{p:Nat}(aI:ent p≠.zero->p<4096) :p∈dI ent 0 4096↔ent p≠.zero:=by
 generalize e6:4096=N at aI;rw[yh];constructor
 ·exact λh=>h.2.2
 ·exact λh=>⟨Nat.zero_le _,by have:=aI h;omega,h⟩
theorem Tk{h:ae}{X:ew}{c:df}{ρ:Nat->Nat}{σ:b8}{d e:Nat->Int}(k:Good h X c ρ σ d e){ao:aa}(P:bj->Bool)
  (B_:∀g x p,bf h g->x∈σ.au->x.T.ent p≠.zero->bh (call J PV ao [(x.T.ent p).eo] g) λv cw=>v=.bool (P (x.T.ent p))/\bf g cw) :
  bh (call J PV (.func 237 [] []) [.ptr X.M 0,ao] h) λv g=>bf h g/\
   ((v=.tuple [.nilPtr,.agg i_,.bool false]/\∀x p,x∈σ.au->x.T.ent p≠.zero->P (x.T.ent p)=false)\/
    ∃x p,x∈σ.au/\x.T.ent p≠.zero/\P (x.T.ent p)=true/\v=.tuple [.ptr x.s 0,.agg (eC x.T p),.bool true]):=by
 refine bh.mk (λe=>ajE (first:=[]) (cap:=[]) e rfl) ?_;unfold Qy;refine cM r_ λg1 ct dR bb=> ?_
 have bk:=k.ext bb;obtain⟨eg,os,hK,_,_⟩:=bk.sys.mem;have ay:=hK.len (T:=75) (si:=q5) (by kernel_rfl) rfl;rw[List.length_map,List.length_map]at ay;have hP:=k.AQ;have aw:=k.n;simp only[cl,AZ,Nat.zero_add,ar,DO,Obj.get os (i:=4) rfl,ay]
 refine hX (n:=14) (I:=λi vs g=>vs=[.nilPtr,.bool false,.int .i64 (i:Nat)]/\bf g1 g/\i<=σ.au.length/\∀x p,x∈σ.au.take i->x.T.ent p≠.zero->P (x.T.ent p)=false) (m:=σ.au.length)
  (P:=λx vs g=>(x=.exit 0/\(∃c,vs=[.nilPtr,.bool false,c])/\bf g1 g/\∀x p,x∈σ.au->x.T.ent p≠.zero->P (x.T.ent p)=false)\/
    (x=.ret/\∃x p c,x∈σ.au/\x.T.ent p≠.zero/\P (x.T.ent p)=true/\vs=[.ptr x.s 0,.bool true,c]/\aM (λi=>i=h.next) g1 g/\a8.Obj g h.next (eC x.T p))) (Nat.lt_of_le_of_lt (Nat.le_trans hP aw) (by decide)) ⟨rfl,aM.refl _ _,by omega,by simp⟩ ?_ ?_
 ·rintro i _ ab af ⟨rfl,bn,_,e7⟩;simp only[bz,bp,dk,ar,ba];by_cases bo:(i:Int) <(σ.au.length:Nat)
  ·rw[if_pos (by simpa using bo)];have sZ:i<σ.au.length:=by omega
   have ag:σ.au[i]? =some σ.au[i]:=List.getElem?_eq_getElem sZ;have rP:σ.au.take (i+1)=σ.au.take i++[σ.au[i]]:=by rw[List.take_add_one,ag];rfl
   generalize x1:σ.au[i]=x at ag rP;have gL:x∈σ.au:=List.mem_of_getElem? ag;have b_:=bk.ext bn;have me:((σ.au.map (λx=>aa.ptr x.s 0)).map one)[i]? =some [aa.ptr x.s 0]:=by simp[ag,one]
   obtain⟨b,cap,Fl,l,ai,aj,ol,oU,_,_,hE⟩:=(hK.ext bn).at me;rw[List.length_map,List.length_map]at ai oU;have iE:=hE 0 (by decide);rw[Nat.mul_one,Nat.add_zero]at iE;have mV:cZ J 75 eg (.int .i64 (i:Nat))=some (.ptr b (0+i)):=by rw[ai];exact DL oU
   have ov:=(b_.sys.au x gL).field.2;rw[mV];simp only[ar,Nat.zero_add,tA,iE,List.getElem?_cons_zero,cl,qX,m4,ov];refine b4 (EJ b_.ps (b_.ly gL)) ?_;rintro ch aE ⟨eK,bO⟩;obtain⟨L,ep,ei,eK⟩ :∃L:List Nat,L.length<=4096/\(∀p,p∈L↔x.T.ent p≠.zero)/\Row aE 6 ab.next ch (L.map (eC x.T)):=⟨_,N0 _,λp=>MC (k.inv.lt gL),eK⟩;have hlen:=eK.len (T:=175) (E:=J) (si:=sc) (by kernel_rfl) rfl;rw[List.length_map]at hlen;rw[hlen];simp only[ar];have jP:=bn.trans bO;have iX:=ct.ext jP (by omega)
   refine hX (n:=14) (I:=λj vs g=>vs=[.nilPtr,.bool false,.int .i64 (j:Nat)]/\bf aE g/\∀p,p∈L.take j->P (x.T.ent p)=false) (m:=L.length)
    (P:=λy vs g=>(y=.exit 2/\(∃c,vs=[.nilPtr,.bool false,c])/\bf aE g/\∀p,x.T.ent p≠.zero->P (x.T.ent p)=false)\/
      (y=.ret/\∃p c,x.T.ent p≠.zero/\P (x.T.ent p)=true/\vs=[.ptr x.s 0,.bool true,c]/\aM (λi=>i=h.next) aE g/\a8.Obj g h.next (eC x.T p))) (Nat.lt_of_le_of_lt ep (by decide)) ⟨rfl,aM.refl _ _,by simp⟩ ?_ ?_
   ·rintro j _ aL aO ⟨rfl,cD,Ug⟩;simp only[bz,bp,dk,ar,ba];by_cases cp:(j:Int) <(L.length:Nat)
    ·rw[if_pos (by simpa using cp)];have zP:j<L.length:=by omega
     have aI:L[j]? =some L[j]:=List.getElem?_eq_getElem zP;have Ux:L.take (j+1)=L.take j++[L[j]]:=by rw[List.take_add_one,aI];rfl
     generalize L[j]=p at aI Ux;have fL:x.T.ent p≠.zero:=(ei p).1 (List.mem_of_getElem? aI);obtain⟨dK,fV,Le,gK,mq,mh,rL,sU⟩:=(eK.ext cD).at (i:=j) (x:=eC x.T p) (by simp[aI]);rw[List.length_map]at fV mh;rw[fV];simp only[Ou mh,ar,Nat.zero_add];rw[sb mq (by omega),sU];simp only[ar];refine cM r_ λg6 eO n6 cJ=> ?_
     refine cX (q2 (k:=0) (cs:=eC x.T p) eO rfl (by simp[eC,bj.vs]) rfl) λg7 ⟨fj,fk,n7⟩=> ?_
     have fj:=ff fj rfl;have sk:bf aL g7:=cJ.local fk (λj aO e=>by omega);simp only[qY,Nat.zero_add,ar];rw[yE fj (by simp[eC,bj.vs])];simp only[ar];have uy:(aa.agg (List.take 5 (List.drop 1 (eC x.T p))))=(x.T.ent p).eo:=rfl;rw[uy];have aqJ:=((bb.trans jP).trans cD).trans sk;refine b4 (B_ g7 x p aqJ gL fL) ?_;rintro _ g8 ⟨rfl,u8⟩;simp only[ba];have aG:b0 .i64 ((j:Int) +1)=((j+1:Nat) :Int):=by rw[wrap_i64 (by omega) (by omega)];omega
     have agy:aL.next+1=g7.next:=by omega
     cases qu:P (x.T.ent p)with
     |true=>
      rw[if_pos rfl];have cf:bf g8 (g8.aB 5):=aM.aB _ _ _;have uQ:=(fj.ext u8 (by omega)).ext cf (by have:=u8.next;omega);have G_:=(((iX.ext cD (by have:=jP.next;omega)).ext sk (by have:=jP.next;have:=cD.next;omega)).ext u8 (by have:=jP.next;have:=cD.next;omega)).ext cf (by have:=jP.next;have:=cD.next;have:=u8.next;omega);rw[sb uQ (by simp[eC,bj.vs])];simp only[ar];have FR:List.take 6 (List.drop 0 (eC x.T p))=eC x.T p:=rfl;rw[FR];refine cX (q2 (k:=0) (cs:=eC x.T p) G_ rfl (by simp[eC,bj.vs]) rfl) λg10 ⟨m0,iw,n10⟩=> ?_
      have m0:=ff m0 rfl;simp only[eh];exact aV.pure (.inr ⟨by simp,.inr ⟨rfl,p,_,fL,qu,rfl,(aM.ext (((cD.trans sk).trans u8).trans cf)).trans iw,m0⟩⟩)
     |false=>
      rw[if_neg (by decide)];simp only[du,aG,ar];refine aV.pure (.inl ⟨rfl,zP,rfl,(cD.trans sk).trans u8,λq aF=> ?_⟩);rw[Ux]at aF;rcases List.mem_append.1 aF with aF|aF
      ·exact Ug q aF
      ·rw[List.mem_singleton]at aF;subst aF;exact qu
    ·rw[if_neg (by simpa using cp)];refine aV.pure (.inr ⟨by simp,.inl ⟨rfl,⟨_,rfl⟩,cD,λp aI=>Ug p ?_⟩⟩);rw[List.take_of_length_le (by omega)];exact(ei p).2 aI
   ·rintro y vs bm (⟨rfl,⟨h3,rfl⟩,cJ,hD⟩ |⟨rfl,p,h3,fL,qu,rfl,cJ,eO⟩)
    ·have aG:b0 .i64 ((i:Int) +1)=((i+1:Nat) :Int):=by rw[wrap_i64 (by omega) (by omega)];omega
     simp only[bz,bp,hs,if_true,du,aG,ar];refine aV.pure (.inl ⟨rfl,sZ,rfl,jP.trans cJ,sZ,λz q aP aF=> ?_⟩);rw[rP]at aP;rcases List.mem_append.1 aP with aP|aP
     ·exact e7 z q aP aF
     ·rw[List.mem_singleton]at aP;subst aP;exact hD q aF
    ·simp only[bz,bp,pj];exact aV.pure (.inr ⟨by simp,.inr ⟨rfl,x,p,_,gL,fL,qu,rfl,(aM.ext jP).trans cJ,eO⟩⟩)
  ·rw[if_neg (by simpa using bo)];refine aV.pure (.inr ⟨by simp,.inl ⟨rfl,⟨_,rfl⟩,bn,?_⟩⟩);rw[List.take_of_length_le (by omega)]at e7;exact e7
 ·rintro y vs al (⟨rfl,⟨h3,rfl⟩,bR,hD⟩ |⟨rfl,x,p,h3,gL,fL,qu,rfl,bR,cO⟩)
  ·simp only[bz,bp,hs,if_true,R1,ar];have jz:=ct.ext bR (by omega);refine cX (q2 (k:=0) (cs:=i_) jz rfl (by simp[i_]) rfl) λg4 ⟨dG,bO,hU⟩=> ?_
   have dG:=ff dG rfl;rw[sb dG (by simp[i_])];exact aV.pure ⟨(bb.trans bR).local bO (λj aO e=>by omega),.inl ⟨rfl,hD⟩⟩
  ·simp only[bz,bp,pj];rw[sb cO (by simp[eC,bj.vs])];exact aV.pure ⟨bb.local bR (λj aO e=>by omega),.inr ⟨x,p,gL,fL,qu,rfl⟩⟩
end
section
variable{PV:cn} [cN PV]
theorem k2{s:bj}(h:s.may=true) :0<=s.n/\¬(s.here=true/\s.out=true):=by obtain⟨a,b,c,d,n⟩:=s;cases a<;>cases b<;>cases c<;>cases d<;>simp[bj.may]at h|- <;>omega
section
variable{h g:ae}{X:ew}{c:df}{ρ bD:Nat->Nat}{σ aR:b8}{d e:Nat->Int}
theorem Core.SE(k:Core h X ρ σ){bY sec:Nat->Nat}{used:Nat}(a:hp g X.R X.D bY used)(d:fH g X.D sec X.dh)(u:aM (λi=>i=X.D.d\/i=X.D.b\/i=X.R.q\/i=X.R.a) h g) :Core g X ρ {σ with bY:=bY,used:=used,sec:=sec}:=by
 have e3:=k.e3;have f':=k.f';have ga:=k.ga;have eB:=k.eB;have dq:∀i,(i=X.D.d\/i=X.D.b\/i=X.R.q\/i=X.R.a)->4<=ρ i/\ρ i<=7:=by rintro i (rfl|rfl|rfl|rfl)<;>omega
 exact{
  ps:=k.ps.c0 u ⟨λe=>by have:=dq _ e;omega,λe=>by have:=dq _ e;omega,λe=>by have:=dq _ e;omega,λe=>by have:=dq _ e;have:=k.r0;omega⟩
  jV:=d
  hi:=a
  fl:=k.fl.az u ⟨λe=>by have:=dq _ e;omega,λb aj e=>by have:=dq _ e;have:=eB.2.1 b aj;omega,λn b aw aj e=>by have:=dq _ e;have:=eB.2.2 n b aw aj;omega⟩
  dX:=k.dX.c0 u (λi af _=>.inl (by have:=dq i af;omega)) (λ_ _=>rfl) k.lt k.gH
  e3:=k.e3,f':=k.f',ga:=k.ga,gH:=k.gH,r0:=k.r0,eB:=k.eB
  lt:=λi af=>Nat.lt_of_lt_of_le (k.lt i af) u.next}
theorem Sys.table(k:Sys h X ρ σ){a b:List bH}{x:bH}(aA:σ.au=a++x::b){mem held:Nat->Nat}{free:Nat}{aS:dt}(p:fI g X.A mem held free)(t:hh g X.A x.t (nodeAt aS 0 0) aS.ee)
  (u:aM (λi=>gq X.A i\/i=x.t) h g) :Sys g X ρ {σ with mem:=mem,held:=held,free:=free,au:=a++{x with T:=aS}::b}:=by
 have ag:x∈σ.au:=by rw[aA];simp
 have rx:=(k.au x ag).role;have dq:∀i,(gq X.A i\/i=x.t)->ρ i<=3/\1<=ρ i\/ρ i=16:=by
  rintro i (af|rfl)
  ·have:=k.core.mv af;omega
  ·exact .inr rx.2
 have ay:=k.core.lt;have e3:=k.core.e3;have f':=k.core.f';have ga:=k.core.ga;have eB:=k.core.eB
 have nB:Core g X ρ {σ with mem:=mem,held:=held,free:=free,au:=a++{x with T:=aS}::b}:=
  {ps:=p
   jV:=k.core.jV.az u ⟨λe=>by have:=dq _ e;omega,λe=>by have:=dq _ e;omega⟩
   hi:=k.core.hi.az u ⟨λe=>by have:=dq _ e;omega,λe=>by have:=dq _ e;omega⟩
   fl:=k.core.fl.az u ⟨λe=>by have:=dq _ e;omega,λb aj e=>by have:=dq _ e;have:=eB.2.1 b aj;omega,λn b aw aj e=>by have:=dq _ e;have:=eB.2.2 n b aw aj;omega⟩
   dX:=k.core.dX.c0 u (λi af _=>by have:=dq i af;omega) (λ_ _=>rfl) ay k.core.gH
   e3:=e3,f':=f',ga:=ga,gH:=k.core.gH,r0:=k.core.r0,eB:=eB
   lt:=λi af=>Nat.lt_of_lt_of_le (ay i af) u.next}
 obtain⟨eg,o,v,ex,dO⟩:=k.mem;have j3:=k.j3;have nI:=(jA (R:=λx y:bH=>x.s≠y.s/\x.t≠y.t) (λa b aw=>⟨aw.1.symm,aw.2.symm⟩)).1 (aA▸k.iP);refine⟨nB,⟨eg,o.az u (ay _ (by omega)) (λe=>by have:=dq _ e;omega),?_,ex,dO⟩,j3,λy aq=> ?_,(jA (R:=λx y:bH=>x.s≠y.s/\x.t≠y.t) (λa b aw=>⟨aw.1.symm,aw.2.symm⟩)).2 ⟨nI.1,nI.2⟩⟩
 ·have:(a++{x with T:=aS}::b).map (λx=>aa.ptr x.s 0)=σ.au.map (λx=>aa.ptr x.s 0):=by rw[aA];simp
  show gg g 1 eg (((a++{x with T:=aS}::b).map (λx=>aa.ptr x.s 0)).map one);rw[this];exact v.az u (λb aj e=>by have:=dq _ e;have:=dO b aj;omega)
 ·rcases fe.1 aq with rfl|aq
  ·obtain⟨hT,ol,iY,lU⟩:=(k.au x ag).str;exact⟨⟨hT,ol.az u (ay _ (by omega)) (λe=>by have:=dq _ e;omega),iY.az u (λb cap ex e de=>by have:=dq _ de;have:=lU b (by rw[e];rfl);omega),lU⟩,t,rx⟩
  ·have od:y∈σ.au:=by rw[aA];exact fe.2 (.inr aq)
   have rV:=k.au y od;have iO:=rV.role;obtain⟨hT,ol,iY,lU⟩:=rV.str;refine⟨⟨hT,ol.az u (ay _ (by omega)) (λe=>by have:=dq _ e;omega),iY.az u (λb cap ex e de=>by have:=dq _ de;have:=lU b (by rw[e];rfl);omega),lU⟩,Obj.az rV.ly u (ay _ (by omega)) (λe=> ?_),iO⟩;rcases e with e|e
   ·have:=k.core.mv e;omega
   ·exact(nI.1 y aq).2 e.symm
def gk(σ:b8) :Nat:=da σ.au (λs=>s.here)
def lb(σ aR:b8) :Prop:=∀cG,cG∈aR.au->∃x,x∈σ.au/\x.s=cG.s/\∀p,cG.T.ent p=x.T.ent p\/((cG.T.ent p).here=false/\x.T.ent p≠.zero/\(h7 (x.T.ent p)=true\/(cG.T.ent p).out=true))
theorem lb.same{σ aR:b8}(h:aR.au=σ.au) :lb σ aR:=λcG ag=>⟨cG,h▸ag,rfl,λ_=>.inl rfl⟩
theorem lb.mid{σ aR:b8}{a b:List bH}{x:bH}{aS:dt}{p:Nat}{s:bj}(aA:σ.au=a++x::b)(kj:aR.au=a++{x with T:=aS}::b)(he:aS.ent=az x.T.ent p s)(aP:x.T.ent p≠.zero)(aD:s.here=false)(aH:h7 (x.T.ent p)=true\/s.out=true) :lb σ aR:=λy aq=>by
 rw[kj]at aq;rcases fe.1 aq with rfl|aq
 ·refine⟨x,by rw[aA];simp,rfl,λq=> ?_⟩;show aS.ent q=_\/((aS.ent q).here=false/\_/\(_\/(aS.ent q).out=true));rw[he];by_cases e:q=p
  ·subst e;rw[e4];exact .inr ⟨aD,aP,aH⟩
  ·rw[eE _ _ e];exact .inl rfl
 ·exact⟨y,by rw[aA];exact fe.2 (.inr aq),rfl,λ_=>.inl rfl⟩
theorem lb.trans{a b d:b8}(h:lb a b)(k:lb b d) :lb a d:=λcG ag=>by
 obtain⟨y,aq,e,f⟩:=k cG ag;obtain⟨z,aP,de,ht⟩:=h y aq;refine⟨z,aP,de.trans e,λp=> ?_⟩;rcases f p with h1|⟨h1,ab,aL⟩
 ·rw[h1];exact ht p
 ·rcases ht p with al|⟨al,aE,bm⟩
  ·rw[al]at ab aL;exact .inr ⟨h1,ab,aL⟩
  ·refine .inr ⟨h1,aE,?_⟩;rcases aL with aL|aL
   ·unfold h7 at aL;rw[al]at aL;cases aL
   ·exact .inr aL
theorem lb.zero{a b:b8}(h:lb a b){cG:bH}(ag:cG∈b.au) :∃x,x∈a.au/\x.s=cG.s/\∀p,x.T.ent p=.zero->cG.T.ent p=.zero:=by obtain⟨x,h1,ab,al⟩:=h cG ag;exact⟨x,h1,ab,λp aI=>(al p).elim (λe=>e.trans aI) (λe=>absurd aI e.2.1)⟩
structure Made(c:df)(σ aR:b8)(b:Bool) :Prop where
 view:view c aR=view c σ
 free:σ.free<=aR.free
 here:gk aR<=gk σ
 used:aR.used<=σ.used+1
 len:aR.au.length=σ.au.length
 go:b=true->σ.free<aR.free\/gk aR<gk σ
 sub:lb σ aR
 ring:aR.ring.length<=σ.ring.length
 sum:(∀x p,x∈σ.au->h7 (x.T.ent p)=false)->gk σ+σ.used<=gk aR+aR.used
theorem adM(k:Good h X c ρ σ d e)(aC:∀f,0<=d f) :
  bh (call J PV (.func 156 [.ptr X.M 0] []) [] h) λv g=>bX ρ h g/\∃b aR,v=.bool b/\Good g X c ρ aR d e/\Made c σ aR b/\(b=false->aR.au=σ.au/\aR.mem=σ.mem/\aR.held=σ.held/\aR.used=σ.used/\aR.bY=σ.bY/\aR.free=σ.free):=by
 refine bh.mk (λe=>ai7 (first:=[_]) (mid:=[]) (cap:=[]) e rfl) ?_;unfold P2;simp only[cl,ar,DH,Nat.zero_add,o7,k.sys.field.2.2.1];have lu:=k.zy;refine b4 (adL k.sys.core (λy aq=>⟨by rw[k.ef.n];exact(k.inv.ring y aq).1,by have:=k.inv.NB aq (aC _);omega⟩) (by omega)) ?_;rintro v g ⟨bb,gu,al,aH⟩;have ry:gu.map (λy=>(y.file,y.bM,y.fr))=σ.ring.map (λy=>(y.file,y.bM,y.fr)):=by have:=congrArg (List.map (λq:Nat×Int×Int×Nat=>q.2)) al;simpa [mY,Function.comp_def]using this
 have fw:gu.map (·.fr)=σ.ring.map (·.fr):=by have:=congrArg (List.map (λq:Nat×Int×Int×Nat=>q.2.2.2)) al;simpa [mY,Function.comp_def]using this
 have pC:gu.length=σ.ring.length:=by simpa using congrArg List.length ry
 have Nt:gu.Pairwise λa b=>a.fr≠b.fr:=by have:=List.pairwise_map.2 k.iN;rw[<-fw]at this;exact List.pairwise_map.1 this
 have tail:∀(v5:aa) (b:Bool) (cs:List aa) (aR:b8),v5=.agg cs->cs.length=2->cs.all dH=true->Core g X ρ aR->Sys g X ρ aR->Inv c aR d e->(∀s,s<c.first->aR.sec s=X.HF s)->(aR.ring.Pairwise λa b=>a.fr≠b.fr)->Made c σ aR b->(b=false->aR.au=σ.au/\aR.mem=σ.mem/\aR.held=σ.held/\aR.used=σ.used/\aR.bY=σ.bY/\aR.free=σ.free)->
   aV (ca (dz J 182) g λbl ab=>U (bN J ab 182 bl v5) λal=>some (eb.ret,[.bool b],al)) λ_ vs g=>bX ρ h g/\∃b aR,kE vs=.bool b/\Good g X c ρ aR d e/\Made c σ aR b/\(b=false->aR.au=σ.au/\aR.mem=σ.mem/\aR.held=σ.held/\aR.used=σ.used/\aR.bY=σ.bY/\aR.free=σ.free):=by
  intro v5 b cs aR jZ ay aA nB jL aix aiB aiA GI x9;subst jZ;refine cM DF λg2 cE eN bn=> ?_
  refine cX (A8 (k:=0) (cs:=cs) cE ay (by simp[ay]) aA) λg3 ⟨cO,bR,gp⟩=> ?_
  have D2:bf g g3:=bn.local bR (λj aO e=>by omega);exact aV.pure ⟨(bX.own bb).trans (bX.ext (ρ:=ρ) D2) (λ_ _=>rfl),b,aR,rfl,⟨jL.ext D2,aix,k.ef,aiB,aiA⟩,GI,x9⟩
 rcases aH with⟨rfl,bk⟩ |⟨pre,y,post,sO,ep,aD,rfl,bk⟩
 ·simp only[adO,ar];exact tail _ false _ {σ with ring:=gu} rfl rfl rfl bk (k.sys.own bk rfl bb (λ_ _=>rfl)) (k.inv.marks ry σ.hand) k.sec Nt ⟨vk rfl (λx p ag=>lG (λ_=>rfl) (λ_=>rfl)),Nat.le_refl _,Nat.le_refl _,Nat.le_succ _,rfl,by simp,lb.same rfl,Nat.le_of_eq pC,λ_=>Nat.le_refl _⟩ (λ_=>⟨rfl,rfl,rfl,rfl,rfl,rfl⟩)
 ·simp only[adO,ar];have i1:=k.inv.marks ry σ.hand;have i2:=i1.aqN (a:=pre) (b:=post) (y:=y) ep sO (λf=>d f+(decide (f=y.fr)).toNat) (λf=>rfl);have UF:∀x,x∈σ.au->¬IsNode x.T y.fr:=λx ag=>i1.yu (y:=y) (by show y∈gu;rw[ep];simp) ag
  have uz:y.fr<c.n:=(i1.ring y (by show y∈gu;rw[ep];simp)).1;have sS:=i2.data y.fr uz UF;have as2:(σ.held y.fr:Int)=refs {σ with ring:=pre++post,hand:=sO} y.fr+(d y.fr+1):=by have:=sS;simp only[decide_true,Bool.toNat_true]at this;exact this
  have as3:=aC y.fr
  have i3:=i2.held (f:=y.fr) uz 0 (σ.free+1) d UF (by
   show((0:Nat) :Int)=refs {σ with ring:=pre++post,hand:=sO} y.fr+d y.fr
   omega) (λg aN=>by simp[aN]) (by
   show σ.free+1+(decide (σ.held y.fr=0)).toNat=σ.free+(decide (0=0)).toNat
   rw[decide_eq_false (by omega)];simp)
  refine tail _ true _ {σ with ring:=pre++post,hand:=sO,held:=az σ.held y.fr 0,free:=σ.free+1} rfl rfl rfl bk (k.sys.own bk rfl bb (λ_ _=>rfl)) i3 k.sec ?_ ⟨vk rfl (λx p ag=>lG (λ_=>rfl) (λ_=>rfl)),Nat.le_succ _,Nat.le_refl _,Nat.le_succ _,rfl,λ_=>.inl (Nat.lt_succ_self _),lb.same rfl,by rw[<-pC,ep];simp,λ_=>Nat.le_refl _⟩ (by simp);rw[ep]at Nt;exact((jA (R:=λa b:dj=>a.fr≠b.fr) (λa b aw=>aw.symm)).1 Nt).2
end
end
section
variable{PV:cn} [cN PV]
theorem KX{σ:b8}{a b:List bH}{x:bH}{aS:dt}{p:Nat}{s:bj}(aA:σ.au=a++x::b)(aI:p<4096)(he:aS.ent=az x.T.ent p s){mem held:Nat->Nat}{free:Nat} :
  gk {σ with mem:=mem,held:=held,free:=free,au:=a++{x with T:=aS}::b} +((x.T.ent p).here).toNat=gk σ+(s.here).toNat:=by
 have:=Dk (a:=a) (b:=b) (x:=x) aI he (λs=>s.here);unfold gk;rw[aA];exact this
theorem Aa{c:df}{σ:b8}{d fc e de:Nat->Int}(h:Inv c σ d e)(aC:∀f,fc f=d f)(he:∀f,de f=e f) :Inv c σ fc de:=by rw[show fc=d from funext aC,show de=e from funext he];exact h
section
variable{h g:ae}{X:ew}{c:df}{ρ bD:Nat->Nat}{σ aR:b8}{d e:Nat->Int}
theorem L'(k:Good h X c ρ σ (λf=>d f) e){n:Nat}(aw:n<c.n)(aC:∀f,0<=d f)(rD:∀f,d f<=15)(h1:1<=d n) :
  ∃g,call J PV (.func 175 [] []) [.ptr X.A.p 0,.int .i64 (n:Nat)] h=some (.int .i64 0,g)/\
   c2 ρ h g/\Good g X c ρ {σ with held:=az σ.held n (σ.held n-1),free:=if σ.held n=1 then σ.free+1 else σ.free} (λf=>d f-(decide (f=n)).toNat) e/\σ.held n≠0:=by
 have lu:=k.zy;have fA:∀x,x∈σ.au->¬IsNode x.T n:=λx ag db=>by have:=(k.inv.node x n ag db).2.2;omega
 have sS:=k.inv.data n aw fA;have b6:=k.Cb (λf=>by have:=rD f;omega) aw;have aD:σ.held n≠0:=by omega
 obtain⟨g,aG,g',bb⟩:=BM k.sys.core.ps.p (f:=n) (by rw[k.ef.n];exact aw) aD (by omega) (by omega);have e3:=k.sys.core.e3;have w:c2 ρ h g:=c2.of bb λi _ e=>by rcases e with rfl|rfl<;>omega
 have nB:=k.sys.core.m1 g' (bb.mono λi _ e=>.inr e);refine⟨g,aG,w,⟨k.sys.own nB rfl w (λ_ _=>rfl),?_,k.ef,k.sec,k.iN⟩,aD⟩;refine k.inv.held aw _ _ _ fA ?_ (λg aN=>by simp[aN]) ?_
 ·simp only[decide_true,Bool.toNat_true];omega
 ·by_cases bo:σ.held n=1
  ·rw[if_pos bo,decide_eq_false aD,decide_eq_true (show σ.held n-1=0 by omega)];simp
  ·rw[if_neg bo,decide_eq_false aD,decide_eq_false (show¬σ.held n-1=0 by omega)]
theorem aqP(k:Good h X c ρ σ (λf=>0) e) :
  bh (call J PV (.func 157 [.ptr X.M 0] []) [] h) λv g=>bX ρ h g/\∃b aR,v=.bool b/\Good g X c ρ aR (λf=>0) e/\Made c σ aR b/\(b=false->aR=σ/\∀x p,x∈σ.au->x.T.ent p≠.zero->h7 (x.T.ent p)=false):=by
 refine bh.mk (λe=>ai8 (first:=[_]) (mid:=[]) (cap:=[]) e rfl) ?_;unfold P3;refine b4 (Tk k h7 (λg x p u ag aI=>aqL g _)) ?_;rintro v g1 ⟨bb,⟨rfl,e7⟩ |⟨x,p,ag,fL,gj,rfl⟩⟩
 ·simp only[adO,ar];refine cM r_ λg2 cE eN bn=> ?_
  refine cX (q2 (k:=0) (cs:=i_) cE rfl (by simp[i_]) rfl) λg3 ⟨cO,bR,gp⟩=> ?_
  simp only[fD,Bool.not_false,ar,ba,if_true];have fM:bf h g3:=bb.trans (bn.local bR (λj aO e=>by omega));exact aV.pure ⟨bX.ext fM,false,σ,rfl,k.ext fM,⟨rfl,Nat.le_refl _,Nat.le_refl _,Nat.le_succ _,rfl,by simp,lb.same rfl,Nat.le_refl _,λ_=>Nat.le_refl _⟩,λ_=>⟨rfl,e7⟩⟩
 ·simp only[adO,ar];refine cM r_ λg2 cE eN bn=> ?_
  refine cX (q2 (k:=0) (cs:=eC x.T p) cE rfl (by simp[eC,bj.vs]) rfl) λg3 ⟨cO,bR,gp⟩=> ?_
  have cO:=ff cO rfl;have cf:bf g3 (g3.aB 7):=aM.aB _ _ _;have fM:bf h (g3.aB 7):=(bb.trans (bn.local bR (λj aO e=>by omega))).trans cf;have b3:=k.ext fM;have ov:=(b3.sys.au x ag).field.2;rw[dd]at ov;have ky:=k.inv.lt ag fL;have Xv:bP g3 g1.next 0=some (.int .i64 (p:Nat)):=cO.rd 0;have Xw:bP g3 g1.next 5=some (.int .i64 (x.T.ent p).n):=cO.rd 5;simp only[fD,Bool.not_true,ar,ba,Bool.false_eq_true,if_false,cl,qX,Nat.zero_add,m4,dd,ov,HW,cW,Xv];have n1:=b3.zy;refine b4 (Ym b3.ps (b3.ly ag) (λf aJ=>(b3.inv.node x f ag aJ).1) (b3.inv.tight x ag) n1 (b3.DP ag) fL) ?_;rintro _ g4 ⟨rfl,cA,cK,cH,aS,gY,tn,t4,bO,rF,v7⟩;rw[k.ef.n]at gY;have aD:(x.T.ent p).here=true:=by simp[h7]at gj;exact gj.1.1
  have hm:=k2 (k.inv.jy ag fL);have kh:=k.inv.here x p ag aD;obtain⟨a,b,aA⟩:=List.append_of_mem ag;have s3:=λy aq=>k.inv.pv ag aD (y:=y) aq
  have Ev:∀f,b2 f bj.zero=false:=λf=>rfl
  have Ew:∀f,dg f bj.zero=false:=λf=>rfl
  have MU:∀i,dg i (x.T.ent p)=false:=λi=>by
   have:=hm.2;unfold dg;cases bg:(x.T.ent p).out with
   |false=>rfl
   |true=>exact absurd ⟨aD,bg⟩ this
  have i4:=k.inv.ent aA gY ky (λf=>(b2 f (x.T.ent p)).toNat) e (λf=>by rw[Ev];simp) (λi=>by rw[MU,Ew];simp) (λf h1 ab=>by
   have h0:=k.inv.uf (λf=>Int.le_refl 0) ((gY.ok.lvl _ _ f h1.choose_spec.choose_spec).2.2) (gY.new f h1 ab)
   exact⟨h0.1,rfl⟩) (λh=>absurd rfl h) (λh=>by cases h) (λh=>by cases h) (λh=>by cases h) (λh=>by cases h) (λh=>by cases h)
  have n2:=k.inv.Fh aA gY (λf h1 ab=>by
   have h0:=k.inv.uf (λf=>Int.le_refl 0) ((gY.ok.lvl _ _ f h1.choose_spec.choose_spec).2.2) (gY.new f h1 ab)
   exact⟨h0.1,rfl⟩)
  have va:hh g4 X.A x.t (nodeAt aS 0 0) aS.ee:=t4.obj;have m2:=b3.sys.table aA tn va bO;have Kn:Good g4 X c ρ {σ with mem:=cA,held:=cK,free:=cH,au:=a++{x with T:=aS}::b} (λf=>(b2 f (x.T.ent p)).toNat) e:=⟨m2,i4,k.ef,k.sec,k.iN⟩;have Lx:=(k.sys.au x ag).role;have fq:bX ρ (g3.aB 7) g4:=bX.of bO λi _ e=>by
   rcases e with e|rfl
   ·have:=k.sys.core.mv e;omega
   ·omega
  have s0:(g3.aB 7).next=g3.next+7:=rfl
  have ro:ρ g1.next=0:=k.fresh (by have:=bb.next;omega);have dG:=fq.c0 (cO.ext cf (by omega)) (by omega) ro;have vf:bf g4 (g4.aB 8):=aM.aB _ _ _;have g5:=Kn.ext vf;have j6:=g5.sys.field.1;rw[dd]at j6;have aoz:bP g4 g1.next 5=some (.int .i64 (x.T.ent p).n):=dG.rd 5;have fA:(((x.T.ent p).n.toNat:Nat) :Int)=(x.T.ent p).n:=by have:=hm.1;omega
  simp only[eh,cl,k7,ar,ha,dd,j6,qY,Nat.zero_add,l0,cW,aoz];rw[<-fA];have kW:∀f,((b2 f (x.T.ent p)).toNat:Int)<=1:=λf=>by have:=Bool.toNat_le (b2 f (x.T.ent p));omega
  obtain⟨g6,kc,gS,eL,c'⟩:=L' (d:=λf=>((b2 f (x.T.ent p)).toNat:Int)) g5 (n:=(x.T.ent p).n.toNat) kh (λf=>by omega) (λf=>by have:=kW f;omega) (by rw[iL k.inv ag aD];simp);rw[kc];simp only[c3,eh];have ju:∀f,b2 f (x.T.ent p)=decide (f=(x.T.ent p).n.toNat):=λf=>by unfold b2;rw[aD,Bool.true_and,Bool.eq_iff_iff];simp;have:=hm.1;omega
  have j0:Good g6 X c ρ _ (λf=>0) e:=⟨eL.sys,Aa eL.inv (λf=>by rw[ju];simp) (λ_=>rfl),eL.ef,eL.sec,eL.iN⟩;have hw:bX ρ h g6:=(((bX.ext (ρ:=ρ) fM).trans fq (λ_ _=>rfl)).trans (bX.ext (ρ:=ρ) vf) (λ_ _=>rfl)).trans (bX.own gS) (λ_ _=>rfl);refine aV.pure ⟨hw,true,_,rfl,j0,⟨?_,?_,?_,Nat.le_succ _,?_,λ_=>.inr ?_,lb.mid aA rfl gY.ent fL rfl (.inl gj),Nat.le_refl _,λaw=>by rw[aw x p ag]at gj;cases gj⟩,by simp⟩
  ·refine Ik (a:=a) (b:=b) (x:=x) (cG:={x with T:=aS}) aA rfl rfl rfl (λy q aq=> ?_) (λq=> ?_)
   ·exact(lG (λ_=>rfl) (λ_=>rfl)).trans (n2.1 y q aq)
   ·refine(lG (σ:={σ with mem:=cA,held:=cK,free:=cH,au:=a++{x with T:=aS}::b}) (λ_=>rfl) (λ_=>rfl)).trans ?_;by_cases aF:q=p
    ·subst aF;have aP:aS.ent q=.zero:=by rw[gY.ent,e4]
     cases an:cv x.L q with
     |none=>unfold cont;simp only;rw[an]
     |some r=>
      have TN:=k.inv.clean x q r ag gj an;unfold cont;simp only;rw[an];simp only[aP,aD,if_true];show some (if false=true then _ else if false=true then _ else base c r q)=_;unfold base;rw[if_pos TN.1,TN.2];rfl
    ·exact n2.2 q aF
  ·show σ.free<=if cK _=1 then cH+1 else cH
   by_cases bo:cK (x.T.ent p).n.toNat=1
   ·rw[if_pos bo];omega
   ·rw[if_neg bo];omega
  ·have:=KX (mem:=cA) (held:=cK) (free:=cH) aA ky gY.ent;rw[aD]at this;have fU:(bj.zero.here).toNat=0:=rfl;rw[fU]at this;show gk {σ with mem:=cA,held:=cK,free:=cH,au:=a++{x with T:=aS}::b}<=_;simp only[Bool.toNat_true]at this;omega
  ·show(a++{x with T:=aS}::b).length=σ.au.length;rw[aA];simp
  ·have:=KX (mem:=cA) (held:=cK) (free:=cH) aA ky gY.ent;rw[aD]at this;have fU:(bj.zero.here).toNat=0:=rfl;rw[fU]at this;show gk {σ with mem:=cA,held:=cK,free:=cH,au:=a++{x with T:=aS}::b} <_;simp only[Bool.toNat_true]at this;omega
end
end
section
variable{PV:cn} [cN PV]
theorem abF(i:Int) :dY J 169 [(3,.bool true),(4,.int .i64 i)]=some (bj.mk false false false true i).eo:=by kernel_rfl
section
variable{h g:ae}{X:ew}{c:df}{ρ bD:Nat->Nat}{σ aR:b8}{d e:Nat->Int}
theorem apB(k:Good h X c ρ σ (λf=>0) (λf=>0)) :
  bh (call J PV (.func 158 [.ptr X.M 0] []) [] h) λv g=>bX ρ h g/\∃b aR,v=.bool b/\Good g X c ρ aR (λf=>0) (λf=>0)/\Made c σ aR b/\(b=false->aR=σ/\((∀x p,x∈σ.au->x.T.ent p≠.zero->Ad σ.held (x.T.ent p)=false)\/∀i,i<c.c1->σ.bY i≠0)):=by
 refine bh.mk (λe=>ai9 (first:=[_]) (mid:=[]) (cap:=[]) e rfl) ?_;unfold P4;refine cM (apX (cs:=[.ptr X.M 0]) rfl) λg0 wB Al DZ=> ?_
 have nA:=k.ext DZ;have Xl:ρ h.next=0:=k.fresh (Nat.le_refl _);simp only[mA,Obj.get wB (i:=0) rfl,ar];refine b4 (Tk nA (Ad σ.held) (λg x p u ag aI=>apx (nA.sys.ext u) (wB.ext u (by omega)) (by have:=u.next;omega) _ (λaD=>⟨(k2 (k.inv.jy ag aI)).1,by rw[k.ef.n];exact k.inv.here x p ag aD⟩))) ?_;rintro v g1 ⟨bb,⟨rfl,e7⟩ |⟨x,p,ag,fL,gj,rfl⟩⟩
 ·simp only[adO,ar];refine cM r_ λg2 cE eN bn=> ?_
  refine cX (q2 (k:=0) (cs:=i_) cE rfl (by simp[i_]) rfl) λg3 ⟨cO,bR,gp⟩=> ?_
  simp only[fD,Bool.not_false,ar,ba,if_true];have fM:bf h g3:=(DZ.trans bb).trans (bn.local bR (λj aO e=>by omega));exact aV.pure ⟨bX.ext fM,false,σ,rfl,k.ext fM,⟨rfl,Nat.le_refl _,Nat.le_refl _,Nat.le_succ _,rfl,by simp,lb.same rfl,Nat.le_refl _,λ_=>Nat.le_refl _⟩,λ_=>⟨rfl,.inl e7⟩⟩
 ·simp only[adO,ar];refine cM r_ λg2 cE eN bn=> ?_
  refine cX (q2 (k:=0) (cs:=eC x.T p) cE rfl (by simp[eC,bj.vs]) rfl) λg3 ⟨cO,bR,gp⟩=> ?_
  have cO:=ff cO rfl;have cf:bf g3 (g3.aB 13):=aM.aB _ _ _;have mj:=bb.next;have s0:(g3.aB 13).next=g3.next+13:=rfl
  have D2:bf g1 g3:=bn.local bR (λj aO e=>by omega);have fM:bf h (g3.aB 13):=((DZ.trans bb).trans D2).trans cf;have b3:=k.ext fM;have V5:=(wB.ext (bb.trans D2) (by omega)).ext cf (by omega);have ama:=cO.ext cf (by omega);have gb:=b3.sys.field.1;have RS:=Obj.get V5 (i:=0) rfl;rw[dd]at gb RS;have ky:=k.inv.lt ag fL;have Xv:bP g3 g1.next 0=some (.int .i64 (p:Nat)):=cO.rd 0;have Xw:bP g3 g1.next 5=some (.int .i64 (x.T.ent p).n):=cO.rd 5;have hm:=k2 (k.inv.jy ag fL);have Ly:(x.T.ent p).here=true/\((x.T.ent p).write=true\/(x.T.ent p).copy=true)/\σ.held (x.T.ent p).n.toNat=1:=by simp[Ad]at gj;exact⟨gj.1.1,gj.1.2,gj.2⟩
  obtain⟨aD,_,uw⟩:=Ly;have kh:=k.inv.here x p ag aD;have Uc:(x.T.ent p).n.toNat<X.A.n:=by rw[k.ef.n];exact kh
  have fA:(((x.T.ent p).n.toNat:Nat) :Int)=(x.T.ent p).n:=by have:=hm.1;omega
  simp only[fD,Bool.not_true,ar,ba,Bool.false_eq_true,if_false,mA,dd,RS,cl,k7,ha,gb,qY,l0,Nat.zero_add,cW,Xw];rw[<-fA];obtain⟨aL,fJ,cD⟩:=ab8 b3.sys.core.ps.p Uc (by rw[uw];decide);rw[fJ];have uu:=cD.next;have dQ:=b3.ext cD;have V6:=V5.ext cD (by omega);have C':=ama.ext cD (by omega);simp only[c3,ar,adO,eh,mA,Obj.get V6 (i:=0) rfl,cl,tv,Nat.zero_add,m3,dQ.sys.field.2.2.2];have Lg:σ.mem (x.T.ent p).n.toNat<2^512:=b3.sys.core.ps.p.GX Uc;have aho:σ.used<=4096:=by rw[k.inv.used];exact Nat.le_trans (oJ _ _) k.c1
  have q6:=fM.trans cD;refine b4 (apf dQ.sys.core.hi dQ.sys.core.jV (by rw[k.ef.first];exact k.ef.dh) Lg aho) ?_;rintro v g6 (⟨i,af,K7,rfl,hZ,d6,cJ⟩ |⟨FR,rfl,aN⟩)
  ·rw[k.ef.c1]at af;rw[k.ef.first]at d6;have lj:=dQ.sys.core.SE hZ d6 cJ;have f':=k.sys.core.f';have ga:=k.sys.core.ga;have gS:c2 ρ aL g6:=c2.of cJ λj _ e=>by rcases e with rfl|rfl|rfl|rfl<;>omega
   have qT:=dQ.sys.own lj rfl gS (λ_ _=>rfl);have Lz:lY σ i=0:=by have:=k.inv.slot i af;rw[K7]at this;omega
   have i1:=k.inv.sec (i:=i) (σ.mem (x.T.ent p).n.toNat) Lz
   have i2:=i1.1.bY (i:=i) af 1 (σ.used+1) (λj=>(decide (j=i)).toNat) (by
    have:lY {σ with sec:=az σ.sec (c.first+i) (σ.mem (x.T.ent p).n.toNat)} i=lY σ i:=rfl
    rw[this,Lz];simp) (λj aO=>by simp[aO]) (by
    show σ.used+1+(decide (σ.bY i≠0)).toNat=σ.used+(decide (1≠0)).toNat
    rw[decide_eq_false (by omega)];simp)
   have Tt:Good g6 X c ρ {σ with bY:=az σ.bY i 1,used:=σ.used+1,sec:=az σ.sec (c.first+i) (σ.mem (x.T.ent p).n.toNat)} (λf=>0) (λj=>(decide (j=i)).toNat):=⟨qT,i2,k.ef,λs aA=>by
    show az σ.sec (c.first+i) _ s=_
    rw[eE _ _ (by omega)];exact k.sec s aA,k.iN⟩
   have vh:bf g6 (g6.aB 9):=aM.aB _ _ _;have F4:=cJ.next;have atn:(g6.aB 9).next=g6.next+9:=rfl
   have g7:=Tt.ext vh;have h':ρ g1.next=0:=k.fresh (by omega);have al0:=(gS.c0 V6 (by omega) Xl);have V':=(gS.c0 C' (by omega) h');have amb:=V'.ext vh (by omega);have al1:=al0.ext vh (by omega);have ov:=(g7.sys.au x ag).field.2;rw[dd]at ov;have aoA:bP g6 g1.next 0=some (.int .i64 (p:Nat)):=V'.rd 0;simp only[ar,adO,dP,ba];rw[if_neg (by decide)];simp only[ar,cl,qX,Nat.zero_add,m4,dd,ov,HW,cW,aoA,abF];have nu:=(k.inv.jl x ag).own p fL;have ag':(bj.mk false false false true (i:Int)).may=true:=by
    have:=k.c1;have h1:(0:Int)<=(i:Int):=by omega
    have ab:(i:Int)<=1048576:=by omega
    simp[bj.may,h1,ab]
   refine b4 (YM g7.ps (g7.ly ag) (λf aJ=>(g7.inv.node x f ag aJ).1) (g7.inv.tight x ag) g7.nW (g7.DP ag) ky ag' (.inr nu)) ?_;rintro _ g8 ⟨rfl,cA,cK,cH,aS,gY,Nk,t8,u8,rF,v7,xG⟩;obtain⟨xH,db⟩:=xG nu;rw[k.ef.n]at gY;obtain⟨a,b,aA⟩:=List.append_of_mem ag;have oX:∀f,IsNode aS f->IsNode x.T f:=λf aJ=>by obtain⟨l,q,e⟩:=aJ;exact⟨l,q,by rw[<-db];exact e⟩
   have MU:∀j,dg j (x.T.ent p)=false:=λj=>by
    unfold dg;cases bg:(x.T.ent p).out with
    |false=>rfl
    |true=>exact absurd ⟨aD,bg⟩ hm.2
   have i4:=g7.inv.ent aA gY ky (λf=>(b2 f (x.T.ent p)).toNat) (λj=>0) (λf=>by
    have:b2 f (bj.mk false false false true (i:Int))=false:=rfl
    rw[this];simp) (λj=>by
    rw[MU];have:dg j (bj.mk false false false true (i:Int))=decide (j=i):=by unfold dg;rw[Bool.eq_iff_iff];simp;omega
    rw[this];simp) (λf h1 ab=>absurd (oX f h1) ab) (λ_=>k.inv.mL x p ag fL) (λh=>by cases h) (λ_=>by simpa using af) (λh=>by cases h) (λh=>by cases h) (λh=>by cases h)
   have n2:=g7.inv.Fh aA gY (λf h1 ab=>absurd (oX f h1) ab);have va:hh g8 X.A x.t (nodeAt aS 0 0) aS.ee:=t8.obj;have NM:=g7.sys.table aA Nk va u8;have aeL:Good g8 X c ρ {σ with mem:=cA,held:=cK,free:=cH,au:=a++{x with T:=aS}::b,bY:=az σ.bY i 1,used:=σ.used+1,sec:=az σ.sec (c.first+i) (σ.mem (x.T.ent p).n.toNat)} (λf=>(b2 f (x.T.ent p)).toNat) (λj=>0):=⟨NM,i4,k.ef,g7.sec,k.iN⟩;have Lx:=(k.sys.au x ag).role;have hL:bX ρ (g6.aB 9) g8:=bX.of u8 λj _ e=>by
    rcases e with e|rfl
    ·have:=k.sys.core.mv e;omega
    ·omega
   have al2:=hL.c0 al1 (by omega) Xl;have amc:=hL.c0 amb (by omega) h';have agz:=u8.next;have w4:bf g8 (g8.aB 8):=aM.aB _ _ _;have g9:=aeL.ext w4;have Xx:=g9.sys.field.1;rw[dd]at Xx;have aoC:bP g8 g1.next 5=some (.int .i64 (x.T.ent p).n):=amc.rd 5;have abt:=Obj.get al2 (i:=0) rfl;simp only[eh,mA,dd,abt,ar,cl,k7,ha,Xx,qY,l0,Nat.zero_add,cW,aoC];rw[<-fA];have kW:∀f,((b2 f (x.T.ent p)).toNat:Int)<=1:=λf=>by have:=Bool.toNat_le (b2 f (x.T.ent p));omega
   obtain⟨g10,JY,fN,k0,c'⟩:=L' (d:=λf=>((b2 f (x.T.ent p)).toNat:Int)) g9 (n:=(x.T.ent p).n.toNat) kh (λf=>by omega) (λf=>by have:=kW f;omega) (by rw[iL k.inv ag aD];simp);rw[JY];simp only[c3,eh];have ju:∀f,b2 f (x.T.ent p)=decide (f=(x.T.ent p).n.toNat):=λf=>by unfold b2;rw[aD,Bool.true_and,Bool.eq_iff_iff];simp;have:=hm.1;omega
   have s':Good g10 X c ρ _ (λf=>0) (λf=>0):=⟨k0.sys,Aa k0.inv (λf=>by rw[ju];simp) (λ_=>rfl),k0.ef,k0.sec,k0.iN⟩;have s3:=k.inv.pv ag aD ag;have agJ:¬IsNode aS (x.T.ent p).n.toNat:=λaJ=>s3 (oX _ aJ)
   have ags:=gY.other _ s3 agJ;have rJ:cK (x.T.ent p).n.toNat=1:=by rw[ags.2];exact uw
   have fw:(if cK (x.T.ent p).n.toNat=1 then cH+1 else cH)=σ.free+1:=by rw[if_pos rJ,xH]
   have hw:bX ρ h g10:=((((bX.ext (ρ:=ρ) q6).trans (bX.own gS) (λ_ _=>rfl)).trans (bX.ext (ρ:=ρ) vh) (λ_ _=>rfl)).trans hL (λ_ _=>rfl)).trans ((bX.ext (ρ:=ρ) w4).trans (bX.own fN) (λ_ _=>rfl)) (λ_ _=>rfl);have e6:=KX (σ:={σ with bY:=az σ.bY i 1,used:=σ.used+1,sec:=az σ.sec (c.first+i) (σ.mem (x.T.ent p).n.toNat)}) (mem:=cA) (held:=cK) (free:=cH) aA ky gY.ent;rw[aD]at e6;have adB:((bj.mk false false false true (i:Int)).here).toNat=0:=rfl;rw[adB]at e6;have asT:gk {σ with mem:=cA,held:=cK,free:=cH,au:=a++{x with T:=aS}::b,bY:=az σ.bY i 1,used:=σ.used+1,sec:=az σ.sec (c.first+i) (σ.mem (x.T.ent p).n.toNat)} +1=gk σ:=e6;refine aV.pure ⟨hw,true,_,rfl,s',⟨?_,?_,?_,Nat.le_refl _,?_,λ_=>.inl ?_,lb.mid aA rfl gY.ent fL rfl (.inr rfl),Nat.le_refl _,λ_=> ?_⟩,by simp⟩
   ·have v1:view c {σ with bY:=az σ.bY i 1,used:=σ.used+1,sec:=az σ.sec (c.first+i) (σ.mem (x.T.ent p).n.toNat)}=view c σ:=vk rfl (λy q aq=>i1.2 y q aq);rw[<-v1];refine Ik (a:=a) (b:=b) (x:=x) (cG:={x with T:=aS}) aA rfl rfl rfl (λy q aq=> ?_) (λq=> ?_)
    ·exact(lG (λ_=>rfl) (λ_=>rfl)).trans (n2.1 y q aq)
    ·refine(lG (σ:={σ with mem:=cA,held:=cK,free:=cH,au:=a++{x with T:=aS}::b,bY:=az σ.bY i 1,used:=σ.used+1,sec:=az σ.sec (c.first+i) (σ.mem (x.T.ent p).n.toNat)}) (λ_=>rfl) (λ_=>rfl)).trans ?_;by_cases aF:q=p
     ·subst aF;have aP:aS.ent q=bj.mk false false false true (i:Int):=by rw[gY.ent,e4]
      cases an:cv x.L q with
      |none=>unfold cont;simp only;rw[an]
      |some r=>
       unfold cont;simp only;rw[an];simp only[aP,aD,if_true];show some (if false=true then _ else if true=true then az σ.sec (c.first+i) (σ.mem (x.T.ent q).n.toNat) (c.first+((i:Int)).toNat)else base c r q)=_;rw[if_neg (by decide),if_pos rfl,Int.toNat_natCast,e4]
     ·exact n2.2 q aF
   ·show σ.free<=if cK _=1 then cH+1 else cH
    rw[fw];omega
   ·show gk {σ with mem:=cA,held:=cK,free:=cH,au:=a++{x with T:=aS}::b,bY:=az σ.bY i 1,used:=σ.used+1,sec:=az σ.sec (c.first+i) (σ.mem (x.T.ent p).n.toNat)}<=_;omega
   ·show(a++{x with T:=aS}::b).length=σ.au.length;rw[aA];simp
   ·show σ.free<if cK _=1 then cH+1 else cH
    rw[fw];omega
   ·show gk σ+σ.used<=gk {σ with mem:=cA,held:=cK,free:=cH,au:=a++{x with T:=aS}::b,bY:=az σ.bY i 1,used:=σ.used+1,sec:=az σ.sec (c.first+i) (σ.mem (x.T.ent p).n.toNat)} +(σ.used+1);omega
  ·subst aN;simp only[ar,adO,dP,ba];rw[if_pos (by decide)];rw[k.ef.c1]at FR;exact aV.pure ⟨bX.ext q6,false,σ,rfl,dQ,⟨rfl,Nat.le_refl _,Nat.le_refl _,Nat.le_succ _,rfl,by simp,lb.same rfl,Nat.le_refl _,λ_=>Nat.le_refl _⟩,λ_=>⟨rfl,.inr FR⟩⟩
end
end
section
variable{PV:cn} [cN PV]
def GY(M:Nat) :aa:=.agg [.func 156 [.ptr M 0] [],.func 157 [.ptr M 0] [],.func 158 [.ptr M 0] []]
theorem abL(M:Nat) :dY J 269 [(0,(.func 156 [.ptr M 0] [])),(1,(.func 157 [.ptr M 0] [])),(2,(.func 158 [.ptr M 0] []))]=some (GY M):=by kernel_rfl
theorem aif(M:Nat) :o2 J 269 (GY M) (.int .i64 ((0:Nat) :Int))=some (.func 156 [.ptr M 0] []):=by kernel_rfl
theorem aih(M:Nat) :o2 J 269 (GY M) (.int .i64 ((1:Nat) :Int))=some (.func 157 [.ptr M 0] []):=by kernel_rfl
theorem aii(M:Nat) :o2 J 269 (GY M) (.int .i64 ((2:Nat) :Int))=some (.func 158 [.ptr M 0] []):=by kernel_rfl
structure Idle(c:df)(σ aR:b8) :Prop where
 au:aR.au=σ.au
 held:aR.held=σ.held
 free:aR.free=σ.free
 used:aR.used=σ.used
 bY:aR.bY=σ.bY
 view:view c aR=view c σ
 ring:aR.ring.length<=σ.ring.length
def pa(c:df)(σ:b8) :Prop:=(∀x p,x∈σ.au->x.T.ent p≠.zero->h7 (x.T.ent p)=false)/\((∀x p,x∈σ.au->x.T.ent p≠.zero->Ad σ.held (x.T.ent p)=false)\/∀i,i<c.c1->σ.bY i≠0)
theorem Idle.made{c:df}{a b d:b8}{t:Bool}(i:Idle c a b)(m:Made c b d t) :Made c a d t:=by
 have aD:gk b=gk a:=by unfold gk;rw[i.au]
 refine⟨m.view.trans i.view,by rw[<-i.free];exact m.free,by rw[<-aD];exact m.here,by rw[<-i.used];exact m.used,by rw[m.len,i.au],λh=> ?_,(lb.same i.au).trans m.sub,Nat.le_trans m.ring i.ring,λaw=>by rw[<-aD,<-i.used];exact m.sum (by rw[i.au];exact aw)⟩;rw[<-i.free,<-aD];exact m.go h
theorem Idle.of{c:df}{a b:b8}(i:Idle c a b) :Made c a b false:=by
 have aD:gk b=gk a:=by unfold gk;rw[i.au]
 exact⟨i.view,by rw[i.free];exact Nat.le_refl _,by rw[aD];exact Nat.le_refl _,by rw[i.used];exact Nat.le_succ _,by rw[i.au],by simp,lb.same i.au,i.ring,λ_=>by rw[aD,i.used];exact Nat.le_refl _⟩
section
variable{h g:ae}{X:ew}{c:df}{ρ bD:Nat->Nat}{σ aR:b8}
theorem Mu(k:Good h X c ρ σ (λf=>0) (λf=>0)) :
  bh (call J PV (.func 81 [] []) [.ptr X.M 0] h) λv g=>bX ρ h g/\∃b aR,v=.bool b/\Good g X c ρ aR (λf=>0) (λf=>0)/\Made c σ aR b/\(b=false->Idle c σ aR/\pa c aR):=by
 refine bh.mk (λe=>akp (first:=[]) (cap:=[]) e rfl) ?_;unfold Ri;rw[abL];simp only[ar]
 refine hX (n:=14) (I:=λi vs g=>vs=[.bool false,.int .i64 (i:Nat)]/\bX ρ h g/\∃aR,Good g X c ρ aR (λf=>0) (λf=>0)/\Idle c σ aR/\i<=3/\(2<=i->∀x p,x∈aR.au->x.T.ent p≠.zero->h7 (x.T.ent p)=false)/\(3<=i->pa c aR)) (m:=3)
  (P:=λx vs g=>x=.exit 0/\bX ρ h g/\∃b aR d,vs=[.bool b,d]/\Good g X c ρ aR (λf=>0) (λf=>0)/\Made c σ aR b/\(b=false->Idle c σ aR/\pa c aR)) (by decide) ⟨rfl,bX.ext (aM.refl _ _),σ,k,⟨rfl,rfl,rfl,rfl,rfl,rfl,Nat.le_refl _⟩,by omega,λh=>absurd h (by decide),λh=>absurd h (by decide)⟩ ?_ ?_
 ·rintro i _ h1 af ⟨rfl,bb,aX,bk,o1,T1,gj,ea⟩;simp only[bz,bp,dk,ar,ba];by_cases bo:(i:Int) <3
  ·rw[if_pos (by simpa using bo)];have aG:b0 .i64 ((i:Int) +1)=((i+1:Nat) :Int):=by rw[wrap_i64 (by omega) (by omega)];omega
   have xB:i=0\/i=1\/i=2:=by omega
   rcases xB with rfl|rfl|rfl
   ·rw[aif];simp only[ar];refine b4 (adM bk (λf=>Int.le_refl 0)) ?_;rintro v g2 ⟨dT,b,b5,rfl,b_,dr,aj⟩;simp only[ba];cases b with
    |true=>
     rw[if_pos rfl];exact aV.pure (.inr ⟨by simp,rfl,bb.trans dT (λ_ _=>rfl),true,b5,_,rfl,b_,o1.made dr,by simp⟩)
    |false=>
     rw[if_neg (by decide)];simp only[du,aG,ar];obtain⟨eA,gr,jO,h9,kD,r6⟩:=aj rfl;exact aV.pure (.inl ⟨rfl,by omega,rfl,bb.trans dT (λ_ _=>rfl),b5,b_,⟨eA.trans o1.au,jO.trans o1.held,r6.trans o1.free,h9.trans o1.used,kD.trans o1.bY,dr.view.trans o1.view,Nat.le_trans dr.ring o1.ring⟩,by omega,λh=>absurd h (by decide),λh=>absurd h (by decide)⟩)
   ·rw[aih];simp only[ar];refine b4 (aqP bk) ?_;rintro v g2 ⟨dT,b,b5,rfl,b_,dr,aj⟩;simp only[ba];cases b with
    |true=>
     rw[if_pos rfl];exact aV.pure (.inr ⟨by simp,rfl,bb.trans dT (λ_ _=>rfl),true,b5,_,rfl,b_,o1.made dr,by simp⟩)
    |false=>
     rw[if_neg (by decide)];simp only[du,aG,ar];obtain⟨rfl,gr⟩:=aj rfl;exact aV.pure (.inl ⟨rfl,by omega,rfl,bb.trans dT (λ_ _=>rfl),b5,b_,o1,by omega,λ_=>gr,λh=>absurd h (by decide)⟩)
   ·rw[aii];simp only[ar];refine b4 (apB bk) ?_;rintro v g2 ⟨dT,b,b5,rfl,b_,dr,aj⟩;simp only[ba];cases b with
    |true=>
     rw[if_pos rfl];exact aV.pure (.inr ⟨by simp,rfl,bb.trans dT (λ_ _=>rfl),true,b5,_,rfl,b_,o1.made dr,by simp⟩)
    |false=>
     rw[if_neg (by decide)];simp only[du,aG,ar];obtain⟨rfl,gr⟩:=aj rfl;exact aV.pure (.inl ⟨rfl,by omega,rfl,bb.trans dT (λ_ _=>rfl),b5,b_,o1,by omega,λ_=>gj (by decide),λ_=>⟨gj (by decide),gr⟩⟩)
  ·rw[if_neg (by simpa using bo)];exact aV.pure (.inr ⟨by simp,rfl,bb,false,aX,_,rfl,bk,o1.of,λ_=>⟨o1,ea (by omega)⟩⟩)
 ·rintro x vs g ⟨rfl,bb,b,aR,d,rfl,bk,c5,aj⟩;simp only[bz,bp,hs,if_true];exact aV.pure ⟨bb,b,aR,rfl,bk,c5,aj⟩
end
end
section
set_option maxRecDepth 100000
variable{PV:cn} [cN PV]
def PO(a0:aa)(C:bW)(h:ae) :Option a1:=U (ax J h .eql 126 a0 .bI) λv1=>bq v1 (some (.ret,[.bI],h)) (ca (lg J 126 0 []) h λv2 h1=>a7 (h2 J h1 126 126 v2 a0) λv3 ab=>some (.ret,[v3],ab))
theorem aiV{a0:aa} :LT PV 107 [a0] (PO a0):=
 cc (f:=Tryz.f107) (hF (.seq (hF (.cond (hF .leaf) .leaf)) (hF .leaf))) (by kernel_rfl) (b' rfl (by kernel_rfl)) λ_ _=>by kernel_rfl
def P9(a0 ao:aa)(C:bW)(h:ae) :Option a1:=ca (c9 J 169 ao) h λv1 h1=>U (aQ J 169 v1 0) λv2=>U (ak J h1 4 v2) λv3=>bq v3 (U (bB a0) λv4=>U (aQ J 161 v4 0) λv5=>U (ak J (ae.aB h1 11) 42 v5) λv6=>U (bB v6) λbl=>U (aQ J 156 bl 0) λbA=>U (ak J (ae.aB h1 11) 152 bA) λv9=>U (aQ J 169 v1 4) λv10=>U (ak J (ae.aB h1 11) 3 v10) λv11=>a7 (C (.func 98 [] []) [v9,v11] (ae.aB h1 11)) λv12 ab=>bx [] (λg=>ak J g 3 v10) v11 (bx [] (λg=>ak J g 152 bA) v9 (bx [] (λg=>ak J g 42 v5) v6 (some (.ret,[v12],ab))))) (U (aQ J 169 v1 3) λcd=>U (ak J h1 4 cd) λb9=>bq b9 (U (bB a0) λch=>U (aQ J 161 ch 0) λcj=>U (ak J (ae.aB h1 11) 42 cj) λcC=>U (bB cC) λcx=>U (aQ J 156 cx 3) λcL=>U (ak J (ae.aB h1 11) 154 cL) λv20=>U (aQ J 169 v1 4) λv21=>U (ak J (ae.aB h1 11) 3 v21) λv22=>a7 (C (.func 99 [] []) [v20,v22] (ae.aB h1 11)) λv23 al=>bx [] (λg=>ak J g 3 v21) v22 (bx [] (λg=>ak J g 154 cL) v20 (bx [] (λg=>ak J g 42 cj) cC (some (.ret,[v23],al))))) (some (.ret,[(.int .i64 0)],h1)))
theorem ajc{a0 ao:aa} :LT PV 164 [a0,ao] (P9 a0 ao):=
 cc (f:=Tryz.f164) (hF (.seq (.dW (hF (.cond (.seq .drawn .leaf) (hF (.cond (.seq .drawn .leaf) .leaf))))) (hF .leaf))) (by kernel_rfl) (b' rfl (by kernel_rfl)) λ_ _=>by kernel_rfl
def QG(a0 ao:aa)(C:bW)(h:ae) :Option a1:=U (bB a0) λv1=>U (aQ J 161 v1 0) λv2=>U (ak J h 42 v2) λv3=>U (bB v3) λv4=>U (aQ J 156 v4 0) λv5=>U (ak J h 152 v5) λv6=>a7 (C (.func 159 [] []) [v6] h) λbl h1=>U (cm bl 0) λbA=>U (cm bl 1) λv9=>U (bB a0) λv10=>U (aQ J 161 v10 0) λv11=>U (ak J h1 42 v11) λv12=>U (bB v12) λcd=>U (aQ J 156 cd 0) λb9=>U (ak J h1 152 b9) λch=>a7 (C (.func 319 [] []) [ch,bA,ao] h1) λcj ab=>some (.ret,[bA],ab)
theorem ajM{a0 ao:aa} :LT PV 247 [a0,ao] (QG a0 ao):=
 cc (f:=Tryz.f247) (hF (hF (hF (hF .leaf)))) (by kernel_rfl) (b' rfl (by kernel_rfl)) λ_ _=>by kernel_rfl
def P_(a0 ao a2 a3 a4:aa)(C:bW)(h:ae) :Option a1:=ca (c9 J 47 ao) h λv1 h1=>ca (c9 J 169 a4) h1 λv2 ab=>U (bB a0) λv3=>U (aQ J 161 v3 0) λv4=>U (ak J ab 42 v4) λv5=>U (aQ J 169 v2 4) λv6=>U (ak J ab 3 v6) λbl=>bG (U (ax J ab .eql 3 a3 (.int .i64 3)) λbA=>bq bA (U (ak J ab 47 v1) λv9=>a7 (C (.func 226 [] []) [v9,a2] ab) λv10 al=>U (cm v10 0) λv11=>U (cm v10 1) λv12=>ca (dz J 182) al λcd aE=>U (bN J aE 182 cd v11) λaL=>U (bB v5) λb9=>U (aQ J 156 b9 2) λch=>U (ak J (ae.aB aL 11) 153 ch) λcj=>U (ak J (ae.aB aL 11) 182 cd) λcC=>a7 (C (.func 246 [] []) [cj,cC] (ae.aB aL 11)) λcx bm=>U (cm cx 0) λcL=>U (cm cx 1) λv20=>bx [] (λg=>ak J g 182 cd) cC (bx [] (λg=>ak J g 153 ch) cj (U (ax J bm .neq 29 v20 (.int .i64 0)) λv21=>bG (bq v21 (a7 (C (.func 213 [] []) [(.str 0 0),(.int .i64 64)] bm) λv22 cr=>a7 (C (.func 247 [] []) [a0,v22] cr) λv23 cz=>some (.normal,[(.int .i64 4),v23],cz)) (some (.normal,[a3,cL],bm))) λPy aK c6=>a_ aK λv24 O9=>a_ O9 λv25 Ee=>br Ee (jF Py (some (.normal,[v24,v25],c6)) (some (.ret,[v24,bl],c6)) λi=>none)))) (U (ax J ab .eql 3 a3 (.int .i64 4)) λv26=>bq v26 (a7 (C (.func 213 [] []) [(.str 0 0),(.int .i64 64)] ab) λv27 dF=>a7 (C (.func 247 [] []) [a0,v27] dF) λv28 dZ=>some (.normal,[a3,v28],dZ)) (U (ax J ab .eql 3 a3 (.int .i64 5)) λv29=>bq v29 (U (bB v5) λv30=>U (aQ J 156 v30 3) λv31=>U (ak J (ae.aB ab 12) 154 v31) λv32=>U (aQ J 169 v2 4) λv33=>U (ak J (ae.aB ab 12) 3 v33) λeP=>a7 (C (.func 228 [] []) [v32,eP] (ae.aB ab 12)) λv35 dv=>U (cm v35 0) λv36=>U (cm v35 1) λv37=>bx [] (λg=>ak J g 3 v33) eP (bx [] (λg=>ak J g 154 v31) v32 (a7 (C (.func 247 [] []) [a0,v36] dv) λfE e5=>U (bB v5) λfy=>U (aQ J 156 fy 3) λv40=>U (ak J (ae.aB e5 7) 154 v40) λv41=>U (aQ J 169 v2 4) λgv=>U (ak J (ae.aB e5 7) 3 gv) λfF=>a7 (C (.func 176 [] []) [v41,fF] (ae.aB e5 7)) λv44 eX=>bx [] (λg=>ak J g 3 gv) fF (bx [] (λg=>ak J g 154 v40) v41 (some (.normal,[a3,fE],eX)))))) (U (ax J ab .eql 3 a3 (.int .i64 6)) λgI=>bq gI (U (bB v5) λv46=>U (aQ J 156 v46 0) λgR=>U (ak J (ae.aB ab 11) 152 gR) λhb=>U (aQ J 169 v2 4) λv49=>U (ak J (ae.aB ab 11) 3 v49) λix=>a7 (C (.func 248 [] []) [hb,ix] (ae.aB ab 11)) λv51 hd=>U (cm v51 0) λiy=>U (cm v51 1) λv53=>bx [] (λg=>ak J g 3 v49) ix (bx [] (λg=>ak J g 152 gR) hb (U (bB v5) λic=>U (aQ J 156 ic 0) λig=>U (ak J (ae.aB hd 7) 152 ig) λjD=>U (aQ J 169 v2 4) λv57=>U (ak J (ae.aB hd 7) 3 v57) λj8=>a7 (C (.func 175 [] []) [jD,j8] (ae.aB hd 7)) λv59 hC=>bx [] (λg=>ak J g 3 v57) j8 (bx [] (λg=>ak J g 152 ig) jD (some (.normal,[a3,iy],hC)))))) (some (.normal,[a3,bl],ab)))))) λarX aK hv=>a_ aK λjQ Ph=>a_ Ph λjm Ep=>br Ep (jF arX (U (bB a0) λjR=>U (aQ J 161 jR 1) λv63=>U (ak J (ae.aB hv 10) 157 v63) λv64=>U (ak J (ae.aB hv 10) 47 v1) λko=>a7 (C (.func 249 [] []) [ko,jQ,jm] (ae.aB hv 10)) λl4 hx=>a7 (C (.func 109 [] []) [v64,a2,l4] hx) λmB kt=>bx [] (λg=>ak J g 47 v1) ko (bx [hx] (λg=>ak J g 157 v63) v64 (some (.ret,[],kt)))) (some (.ret,[],hv)) λi=>none)
theorem ajd{a0 ao a2 a3 a4:aa} :LT PV 165 [a0,ao,a2,a3,a4] (P_ a0 ao a2 a3 a4):=
 cc (f:=Tryz.f165) (hF (hF (hF (.seq (hF (.cut [3,11] [] (.dW (hF (.cond (hF (.seq .drawn (.seq (hF (.cut [3,14] [] (.cond (.ah []) .leaf))) (.ah [])))) (hF (.cond (.ah []) (hF (.cond (.seq .drawn (hF .drawn)) (hF (.cond (.seq .drawn .drawn) .leaf))))))))))) .drawn)))) (by kernel_rfl) (b' rfl (by kernel_rfl)) λ_ _=>by kernel_rfl
def Rn(a0 ao a2 a3:aa)(C:bW)(h:ae) :Option a1:=bG (eM 14 (λaK h1=>a_ aK λv1 ck=>a_ ck λv2 dT=>a_ dT λv3 eJ=>br eJ (U (ax J h1 .lss 3 v3 (.int .i64 200)) λv4=>bq v4 (bG (U (bB a0) λv5=>U (aQ J 161 v5 2) λv6=>U (ak J h1 126 v6) λbl=>a7 (C (.func 162 [] []) [bl,ao] h1) λbA al=>U (cm bA 0) λv9=>U (cm bA 1) λv10=>ca (dz J 47) al λv11 aE=>U (bN J aE 47 v11 v9) λaL=>U (bB a0) λv12=>U (aQ J 161 v12 1) λcd=>U (ak J aL 157 cd) λb9=>a7 (C (.func 163 [] []) [b9,ao] aL) λch bm=>U (cm ch 0) λcj=>U (cm ch 1) λcC=>ca (dz J 169) bm λcx cr=>U (bN J cr 169 cx cj) λcz=>U (ak J (ae.aB cz 9) 47 v11) λcL=>U (ak J (ae.aB cz 9) 169 cx) λv20=>U (ak J (ae.aB cz 9) 169 cx) λv21=>a7 (C (.func 164 [] []) [a0,v21] (ae.aB cz 9)) λv22 c6=>a7 (C a3 [cL,v10,v20,v22] c6) λv23 dF=>bx [] (λg=>ak J g 169 cx) v21 (bx [c6] (λg=>ak J g 169 cx) v20 (bx [c6] (λg=>ak J g 47 v11) cL (U (ax J dF .eql 3 v23 (.int .i64 2)) λv24=>bq v24 (some (.ret,[(.int .i64 0),(.int .i64 19)],dF)) (U (ax J dF .eql 3 v23 (.int .i64 1)) λv25=>bq v25 (U (aQ J 169 cx 4) λv26=>U (ak J dF 3 v26) λv27=>some (.ret,[v27,(.int .i64 0)],dF)) (U (ax J dF .neq 3 v23 (.int .i64 7)) λv28=>bG (b7 v28 true (U (bB a0) λv29=>U (aQ J 161 v29 0) λv30=>U (ak J dF 42 v30) λv31=>U (bB v31) λv32=>U (aQ J 156 v32 0) λv33=>U (ak J dF 152 v33) λeP=>a7 (C (.func 80 [] []) [eP] dF) λv35 dZ=>U (ax J dZ .lss 3 v35 (.int .i64 4)) λv36=>some (.normal,[v36],dZ)) (some (.normal,[.undef],dF))) λ_ aK dv=>a_ aK λv37 q_=>br q_ (U (bZ v28 v37 (.bool false)) λfE=>bq fE (U (bB a0) λfy=>U (aQ J 161 fy 0) λv40=>U (ak J dv 42 v40) λv41=>a7 (C (.func 81 [] []) [v41] dv) λgv e5=>U (gQ .not gv) λfF=>bq fF (some (.ret,[(.int .i64 0),(.int .i64 18)],e5)) (some (.normal,[v1,v2],e5))) (U (ak J dv 47 v11) λv44=>U (ak J dv 169 cx) λgI=>a7 (C (.func 165 [] []) [a0,v44,ao,v23,gI] dv) λv46 eX=>some (.normal,[v1,v2],eX))))))))) λPw aK hd=>a_ aK λgR En=>a_ En λhb ary=>br ary (jF Pw (U (ax J hd .add 3 v3 (.int .i64 1)) λv49=>some (.normal,[gR,hb,v49],hd)) (some (.ret,[gR,hb,v3],hd)) λi=>none)) (some ((.exit 0),[v1,v2,v3],h1)))) [(.int .i64 0),(.int .i64 0),(.int .i64 0)] h) λeY aK ab=>a_ aK λix Pc=>a_ Pc λv51 arz=>a_ arz λiy Eo=>br Eo (gD 0 eY (some (.ret,[(.int .i64 0),(.int .i64 18)],ab)) (some (.ret,[ix,v51],ab)) λi=>none)
theorem aku{a0 ao a2 a3:aa} :LT PV 87 [a0,ao,a2,a3] (Rn a0 ao a2 a3):=
 cc (f:=Tryz.f87) (hF (.seq (hF (.loop [8,9,15] [] (hF (.seq (.cond .leaf .leaf) (.seq (.cut [8,9] [] (.dW (hF (hF (.seq .drawn (.seq (.dW (hF (.cond (hF .leaf) (hF (.cond (hF .leaf) (.seq (.ah [[63]]) (.cond (.seq (hF (.cond (hF .leaf) .leaf)) .leaf) .leaf))))))) (.ah []))))))) (.ah [])))))) (hF .leaf))) (by kernel_rfl) (b' rfl (by kernel_rfl)) λ_ _=>by kernel_rfl
def Ro(a0 ao a2 a3 a4:aa)(C:bW)(h:ae) :Option a1:=ca (c9 J 47 a0) h λv1 h1=>ca (c9 J 169 a2) h1 λv2 ab=>U (ak J ab 47 v1) λv3=>U (ak J ab 169 v2) λv4=>U (ak J ab 3 a4) λv5=>a7 (C (.func 89 [] []) [v3,ao,v4,v5,a3] ab) λv6 al=>some (.ret,[v6],al)
theorem akv{a0 ao a2 a3 a4:aa} :LT PV 88 [a0,ao,a2,a3,a4] (Ro a0 ao a2 a3 a4):=
 cc (f:=Tryz.f88) (hF (hF .leaf)) (by kernel_rfl) (b' rfl (by kernel_rfl)) λ_ _=>by kernel_rfl
def Rq(a0 ao a2 a3:aa)(C:bW)(h:ae) :Option a1:=U (bB a0) λv1=>U (aQ J 161 v1 0) λv2=>U (ak J h 42 v2) λv3=>U (bB v3) λv4=>U (aQ J 156 v4 0) λv5=>U (ak J h 152 v5) λv6=>U (gB J h 5 67 a3) λbl=>a7 (C (.func 167 [] []) [v6,ao,a2,(.int .i64 1),bl] h) λbA h1=>some (.ret,[],h1)
theorem akx{a0 ao a2 a3:aa} :LT PV 90 [a0,ao,a2,a3] (Rq a0 ao a2 a3):=
 cc (f:=Tryz.f90) (.ah []) (by kernel_rfl) (b' rfl (by kernel_rfl)) λ_ _=>by kernel_rfl
def Q5(a0 ao a2 a3:aa)(C:bW)(h:ae) :Option a1:=ca (c9 J 3 a2) h λv1 h1=>a7 (C (.func 83 [] []) [a0] h1) λv2 ab=>U (ax J ab .neq 29 v2 (.int .i64 0)) λv3=>bq v3 (some (.ret,[(.int .u8 0),v2],ab)) (U (ax J ab .lss 3 ao (.int .i64 0)) λv4=>bq v4 (some (.ret,[(.int .u8 0),(.int .i64 19)],ab)) (U (ax J ab .quo 3 ao (.int .i64 64)) λv5=>U (ak J ab 3 v1) λv6=>a7 (C (.func 87 [] []) [a0,v5,v6,(.func 88 [] [v1])] ab) λbl al=>U (cm bl 0) λbA=>U (cm bl 1) λv9=>U (ax J al .neq 29 v9 (.int .i64 0)) λv10=>bq v10 (some (.ret,[(.int .u8 0),v9],al)) (U (ak J al 3 v1) λv11=>U (ax J al .eql 3 v11 (.int .i64 2)) λv12=>bG (bq v12 (U (ax J al .rem 3 ao (.int .i64 64)) λcd=>a7 (C (.func 90 [] []) [a0,bA,cd,a3] al) λb9 aE=>some (.normal,[],aE)) (some (.normal,[],al))) λkH aK aL=>br aK (jF kH (U (bB a0) λch=>U (aQ J 161 ch 0) λcj=>U (ak J aL 42 cj) λcC=>U (bB cC) λcx=>U (aQ J 156 cx 0) λcL=>U (ak J aL 152 cL) λv20=>U (ax J aL .rem 3 ao (.int .i64 64)) λv21=>a7 (C (.func 91 [] []) [v20,bA,v21,(.int .i64 1)] aL) λv22 bm=>U (cm v22 0) λv23=>U (cm v22 1) λv24=>U (gB J bm 67 5 v23) λv25=>some (.ret,[v25,(.int .i64 0)],bm)) (some (.ret,[(.int .u8 0),(.int .i64 0)],aL)) λi=>none))))
theorem akb{a0 ao a2 a3:aa} :LT PV 33 [a0,ao,a2,a3] (Q5 a0 ao a2 a3):=
 cc (f:=Tryz.f33) (hF (hF (.seq (hF (.cond (hF .leaf) .leaf)) (.seq (hF (.cond (hF .leaf) .leaf)) (hF (.seq (hF (.cond (hF .leaf) .leaf)) (.seq (hF (.cut [] [] (.cond (.ah []) .leaf))) (hF (hF .leaf))))))))) (by kernel_rfl) (b' rfl (by kernel_rfl)) λ_ _=>by kernel_rfl
def Rb(a0:aa)(C:bW)(h:ae) :Option a1:=a7 (C (.func 83 [] []) [a0] h) λv1 h1=>U (ax J h1 .neq 29 v1 (.int .i64 0)) λv2=>bq v2 (some (.ret,[.nilPtr,v1],h1)) (U (bB a0) λv3=>U (aQ J 161 v3 0) λv4=>U (ak J h1 42 v4) λv5=>a7 (C (.func 30 [] []) [v5] h1) λv6 ab=>U (cm v6 0) λbl=>U (cm v6 1) λbA=>U (ax J ab .neq 29 bA (.int .i64 0)) λv9=>bq v9 (some (.ret,[.nilPtr,bA],ab)) (U (bB a0) λv10=>U (aQ J 161 v10 2) λv11=>U (ak J ab 126 v11) λv12=>a7 (C (.func 107 [] []) [v12] ab) λcd al=>U (bB bl) λb9=>U (aQ J 161 b9 2) λch=>U (bN J al 126 ch cd) λaE=>bG (eM 14 (λaK aL=>a_ aK λcj vl=>a_ vl λcC p'=>a_ p' λcx qa=>br qa (bG (eM 14 (λaK cr=>a_ aK λcL qb=>a_ qb λv20 qc=>br qc (U (bB v5) λv21=>U (aQ J 156 v21 0) λv22=>U (ak J cr 152 v22) λv23=>a7 (C (.func 80 [] []) [v23] cr) λv24 c6=>U (ax J c6 .lss 3 v24 (.int .i64 4)) λv25=>bq v25 (a7 (C (.func 81 [] []) [v5] c6) λv26 dF=>U (gQ .not v26) λv27=>bq v27 (a7 (C (.func 41 [] []) [bl] dF) λv28 dZ=>some (.ret,[.nilPtr,(.int .i64 18)],dZ)) (some (.normal,[cL,v20],dF))) (some ((.exit 2),[cL,v20],c6)))) [cj,cC] aL) λEs aK cz=>a_ aK λv29 sl=>a_ sl λv30 vm=>br vm (gD 2 Es (U (bB a0) λv31=>U (aQ J 161 v31 1) λv32=>U (ak J cz 157 v32) λv33=>a7 (C (.func 108 [] []) [v33,cx] cz) λeP dv=>U (cm eP 0) λv35=>U (cm eP 1) λv36=>ca (dz J 178) dv λv37 e5=>U (bN J e5 178 v37 v35) λeX=>U (gQ .not v36) λfE=>bq fE (some (.ret,[bl,(.int .i64 0),cx],eX)) (U (aQ J 178 v37 0) λfy=>U (ak J eX 3 fy) λv40=>U (aQ J 178 v37 1) λv41=>U (aQ J 169 v41 1) λgv=>U (ak J eX 4 gv) λfF=>bG (bq fF (U (aQ J 178 v37 1) λv44=>U (aQ J 169 v44 1) λgI=>U (bN J eX 4 gI (.bool false)) λhd=>U (aQ J 178 v37 1) λv46=>U (aQ J 169 v46 2) λgR=>U (bN J hd 4 gR (.bool true)) λhC=>U (bB a0) λhb=>U (aQ J 161 hb 1) λv49=>U (ak J (ae.aB hC 8) 157 v49) λix=>U (aQ J 178 v37 1) λv51=>U (ak J (ae.aB hC 8) 169 v51) λiy=>a7 (C (.func 109 [] []) [ix,v40,iy] (ae.aB hC 8)) λv53 hv=>bx [] (λg=>ak J g 169 v51) iy (bx [] (λg=>ak J g 157 v49) ix (some (.normal,[],hv)))) (some (.normal,[],eX))) λPx aK hx=>br aK (jF Px (U (aQ J 178 v37 1) λic=>U (aQ J 169 ic 0) λig=>U (ak J hx 4 ig) λjD=>bG (bq jD (U (bB v5) λv57=>U (aQ J 156 v57 0) λj8=>U (ak J (ae.aB hx 8) 152 j8) λv59=>U (aQ J 178 v37 1) λjQ=>U (aQ J 169 jQ 4) λjm=>U (ak J (ae.aB hx 8) 3 jm) λjR=>a7 (C (.func 110 [] []) [v59,jR] (ae.aB hx 8)) λv63 kt=>bx [] (λg=>ak J g 3 jm) jR (bx [] (λg=>ak J g 152 j8) v59 (some (.normal,[],kt)))) (U (bB v5) λv64=>U (aQ J 156 v64 3) λko=>U (ak J (ae.aB hx 8) 154 ko) λl4=>U (aQ J 178 v37 1) λmB=>U (aQ J 169 mB 4) λl5=>U (ak J (ae.aB hx 8) 3 l5) λm7=>a7 (C (.func 111 [] []) [l4,m7] (ae.aB hx 8)) λv70 kV=>bx [] (λg=>ak J g 3 l5) m7 (bx [] (λg=>ak J g 154 ko) l4 (some (.normal,[],kV))))) λarY aK lp=>br aK (jF arY (U (bB bl) λnM=>U (aQ J 161 nM 1) λv72=>U (ak J (ae.aB lp 8) 157 v72) λm8=>U (aQ J 178 v37 1) λp8=>U (ak J (ae.aB lp 8) 169 p8) λv75=>a7 (C (.func 109 [] []) [m8,v40,v75] (ae.aB lp 8)) λv76 nq=>bx [] (λg=>ak J g 169 p8) v75 (bx [] (λg=>ak J g 157 v72) m8 (U (ax J nq .add 3 v40 (.int .i64 1)) λq8=>some (.normal,[v29,v30,q8],nq)))) (some (.ret,[v29,v30,v40],lp)) λi=>none)) (some (.ret,[v29,v30,v40],hx)) λi=>none))) (some (.ret,[v29,v30,cx],cz)) λi=>none))) [.nilPtr,(.int .i64 0),(.int .i64 0)] aE) λsm aK bm=>a_ aK λtF arJ=>a_ arJ λtG Po=>a_ Po λvi Pp=>br Pp (gD 0 sm (some (.ret,[tF,tG],bm)) (some (.ret,[tF,tG],bm)) λi=>none)))
theorem akj{a0:aa} :LT PV 43 [a0] (Rb a0):=
 cc (f:=Tryz.f43) (hF (hF (.seq (hF (.cond (hF .leaf) .leaf)) (hF (hF (.seq (hF (.cond (hF .leaf) .leaf)) (hF (hF (.loop [2,3,7] [] (.seq (.dW (.seq (.loop [2,3] [] (.seq (hF (.cond .leaf .leaf)) (.dW (hF (.cond (hF (hF .leaf)) .leaf))))) (hF (.seq (hF (.cond (hF .leaf) .leaf)) (hF (.seq (hF (.cut [] [] (.cond (hF .drawn) .leaf))) (.seq (hF (.cut [] [] (.cond .drawn .drawn))) .drawn))))))) (.ah []))))))))))) (by kernel_rfl) (b' rfl (by kernel_rfl)) λ_ _=>by kernel_rfl
end
section
variable{PV:cn} [cN PV]
def n0(p b:Int) :Bool:=decide (jb .i64 p b≠0)
def kO(perm use:Int) :Bool:=if use=1 then n0 perm 4 else if use=2 then n0 perm 2 else if use=3 then n0 perm 1 else false
def jt(r:aU)(there:Bool)(s:bj)(use shared:Int) :Int:=
 if there=false\/kO r.perm use=false then 2 else if s.out=true then 5 else if s.here=false then(if r.kind=1 then 3 else 4)else if use≠2\/s.write=true then 1 else if s.copy=true/\shared<=1 then 7 else 6
def je(r:aU)(act n:Int) :bj:=if act=3 then⟨true,false,false,false,n⟩else if act=4\/act=5\/act=6\/act=7 then⟨true,n0 r.perm 2, !n0 r.perm 2,false,n⟩else .zero
theorem RO(h:ae) :bh (call J PV (.func 250 [] []) [] h) λv g=>v=.agg [.int .i64 0,.int .i64 4,.int .i64 2,.int .i64 1]/\bf h g:=by
 refine bh.mk (λe=>ajP (first:=[]) (mid:=[]) (cap:=[]) e rfl) ?_;unfold QJ;refine cM tu λg1 ct dR bb=> ?_
 have aj:dY J 22 [(0,.int .i64 0),(1,.int .i64 4),(2,.int .i64 2),(3,.int .i64 1)]=some (.agg [.int .i64 0,.int .i64 4,.int .i64 2,.int .i64 1]):=by kernel_rfl
 rw[aj,ar];refine cX (u' (cs:=[.int .i64 0,.int .i64 4,.int .i64 2,.int .i64 1]) ct rfl (by simp) rfl) λg2 ⟨cE,bn,eN⟩=> ?_
 have cE:=ff cE rfl;rw[DM cE (by simp)];exact aV.pure ⟨rfl,bb.local bn (λi af e=>by omega)⟩
theorem abe(h:ae)(perm use:Int) :bh (call J PV (.func 166 [] []) [.int .i64 perm,.int .i64 use] h) λv g=>v=.bool (kO perm use)/\bf h g:=by
 refine bh.mk (λe=>aje (first:=[]) (cap:=[]) e rfl) ?_;unfold P';simp only[iT,ar];by_cases bo:0<use
 ·simp only[decide_eq_true bo,cP,if_true]
  refine fO (P:=λx vs g=>x=.normal/\vs=[.bool (decide (use<4))]/\bf h g) (b4 (RO h) λv g ⟨cQ,u⟩=>by
   simp only[dk,ar]
   exact aV.pure ⟨rfl,rfl,u⟩) ?_
  rintro _ _ g ⟨rfl,rfl,u⟩;simp only[bz,bp,cF,if_true,ar];by_cases cp:use<4
  ·simp only[decide_eq_true cp,cP,if_true];refine fO (P:=λx vs g=>x=.normal/\vs=[.bool (kO perm use)]/\bf h g) (b4 (RO g) λv cw ⟨cQ,eD⟩=> ?_) ?_
   ·subst cQ;have af:o2 J 22 (.agg [.int .i64 0,.int .i64 4,.int .i64 2,.int .i64 1]) (.int .i64 use)=some (.int .i64 (if use=1 then 4 else if use=2 then 2 else 1)):=by
     rcases(by omega:use=1\/use=2\/use=3)with rfl|rfl|rfl<;>kernel_rfl
    simp only[af,ar,xd,dP];refine aV.pure ⟨rfl,?_,u.trans eD⟩;rcases(by omega:use=1\/use=2\/use=3)with rfl|rfl|rfl<;>rfl
   ·rintro _ _ cw ⟨rfl,rfl,eD⟩;simp only[bz,bp,cF,if_true,ar];exact aV.pure ⟨rfl,eD⟩
  ·simp only[decide_eq_false cp,cP,Bool.false_eq_true,if_false,c4,bz,bp,cF,ar];refine aV.pure ⟨?_,u⟩;unfold kO;rw[if_neg (by omega),if_neg (by omega),if_neg (by omega)];rfl
 ·simp only[decide_eq_false bo,cP,Bool.false_eq_true,if_false,c4,bz,bp,cF,ar];refine aV.pure ⟨?_,aM.refl _ _⟩;unfold kO;rw[if_neg (by omega),if_neg (by omega),if_neg (by omega)];rfl
theorem ac8(h:ae)(r:aU)(there:Bool)(s:bj)(use shared:Int) :bh (call J PV (.func 89 [] []) [.agg r.vs,.bool there,s.eo,.int .i64 use,.int .i64 shared] h) λv g=>v=.int .i64 (jt r there s use shared)/\bf h g:=by
 refine bh.mk (λe=>akw (first:=[]) (cap:=[]) e rfl) ?_;unfold Rp;refine cM (r' (cs:=r.vs) rfl) λg1 ct dR bb=> ?_
 refine cM (u6 (cs:=s.vs) rfl) λg2 cE eN bn=> ?_
 have iq:=ct.ext bn (by omega);have kF:=bb.trans bn;simp only[fD,ar];refine fO (P:=λx vs g=>x=.normal/\vs=[if there=true then .bool (!kO r.perm use)else .undef]/\bf g2 g) ?_ ?_
 ·cases there
  ·simp only[Bool.not_false,cP,Bool.true_eq_false,if_false];exact aV.pure ⟨rfl,rfl,aM.refl _ _⟩
  ·simp only[Bool.not_true,cP,if_true,H2,Nat.zero_add,cW,Obj.get iq (i:=2) rfl,ar];refine b4 (abe g2 r.perm use) ?_;rintro _ g ⟨rfl,u⟩;simp only[fD,ar];exact aV.pure ⟨rfl,rfl,u⟩
 ·rintro _ _ g ⟨rfl,rfl,u⟩;have Ha:=cE.ext u (by omega);have al5:=iq.ext u (by omega);have aqI:=kF.trans u;have gb:=Obj.get Ha (i:=0) rfl;have s1:=Obj.get Ha (i:=1) rfl;have s2:=Obj.get Ha (i:=2) rfl;have dE:=Obj.get Ha (i:=3) rfl;have eS:=Obj.get al5 (i:=3) rfl;have aI:bZ (.bool (!there)) (.bool true) (if there=true then .bool (!kO r.perm use)else .undef)=some (.bool (decide (there=false\/kO r.perm use=false))):=by
   cases there<;>cases kO r.perm use<;>rfl
  have fin:∀n,n=jt r there s use shared->aV (some (.ret,[aa.int .i64 n],g)) λ_ vs cw=>kE vs=.int .i64 (jt r there s use shared)/\bf h cw:=λn aw=>aV.pure ⟨by rw[<-aw];rfl,aqI⟩
  simp only[bz,bp,aI,ar,ba,decide_eq_true_eq];by_cases bo:there=false\/kO r.perm use=false
  ·rw[if_pos bo];exact fin 2 (by unfold jt;rw[if_pos bo])
  ·rw[if_neg bo];by_cases qA:s.out=true
   ·rw[qA]at dE;simp only[lZ,ow,ox,tw,sa,Nat.zero_add,cW,km,gb,s1,s2,dE,eS,ar,ba,fD,cP,c4,bz,bp,cF,dn,dP,jr,Bool.not_true,Bool.not_false,Bool.false_eq_true,Bool.true_eq_false,if_true,if_false,decide_true,decide_false];exact fin 5 (by unfold jt;simp[bo,qA])
   have qA:s.out=false:=by simpa using qA
   rw[qA]at dE;by_cases aD:s.here=false
   ·rw[aD]at gb;by_cases oI:r.kind=1
    ·rw[oI]at eS;simp only[lZ,ow,ox,tw,sa,Nat.zero_add,cW,km,gb,s1,s2,dE,eS,ar,ba,fD,cP,c4,bz,bp,cF,dn,dP,jr,Bool.not_true,Bool.not_false,Bool.false_eq_true,Bool.true_eq_false,if_true,if_false,decide_true,decide_false];exact fin 3 (by unfold jt;simp[bo,qA,aD,oI])
    ·simp only[lZ,ow,ox,tw,sa,Nat.zero_add,cW,km,gb,s1,s2,dE,eS,ar,ba,fD,cP,c4,bz,bp,cF,dn,dP,jr,Bool.not_true,Bool.not_false,Bool.false_eq_true,Bool.true_eq_false,if_true,if_false,decide_true,decide_false,oI];exact fin 4 (by unfold jt;simp[bo,qA,aD,oI])
   have aD:s.here=true:=by simpa using aD
   rw[aD]at gb;by_cases tX:use=2
   ·subst tX;by_cases hw:s.write=true
    ·rw[hw]at s1;simp only[lZ,ow,ox,tw,sa,Nat.zero_add,cW,km,gb,s1,s2,dE,eS,ar,ba,fD,cP,c4,bz,bp,cF,dn,dP,jr,Bool.not_true,Bool.not_false,Bool.false_eq_true,Bool.true_eq_false,if_true,if_false,decide_true,decide_false,ne_eq,not_true];exact fin 1 (by unfold jt;simp[bo,qA,aD,hw])
    have hw:s.write=false:=by simpa using hw
    rw[hw]at s1;by_cases sR:s.copy=true
    ·rw[sR]at s2;by_cases cs:shared<=1
     ·simp only[lZ,ow,ox,tw,sa,Nat.zero_add,cW,km,gb,s1,s2,dE,eS,ar,ba,fD,cP,c4,bz,bp,cF,dn,dP,jr,Bool.not_true,Bool.not_false,Bool.false_eq_true,Bool.true_eq_false,if_true,if_false,decide_true,decide_false,ne_eq,not_true,cs];exact fin 7 (by unfold jt;simp[bo,qA,aD,hw,sR,cs])
     ·simp only[lZ,ow,ox,tw,sa,Nat.zero_add,cW,km,gb,s1,s2,dE,eS,ar,ba,fD,cP,c4,bz,bp,cF,dn,dP,jr,Bool.not_true,Bool.not_false,Bool.false_eq_true,Bool.true_eq_false,if_true,if_false,decide_true,decide_false,ne_eq,not_true,cs];exact fin 6 (by unfold jt;simp[bo,qA,aD,hw,sR,cs])
    have sR:s.copy=false:=by simpa using sR
    rw[sR]at s2;simp only[lZ,ow,ox,tw,sa,Nat.zero_add,cW,km,gb,s1,s2,dE,eS,ar,ba,fD,cP,c4,bz,bp,cF,dn,dP,jr,Bool.not_true,Bool.not_false,Bool.false_eq_true,Bool.true_eq_false,if_true,if_false,decide_true,decide_false,ne_eq,not_true];exact fin 6 (by unfold jt;simp[bo,qA,aD,hw,sR])
   ·simp only[lZ,ow,ox,tw,sa,Nat.zero_add,cW,km,gb,s1,s2,dE,eS,ar,ba,fD,cP,c4,bz,bp,cF,dn,dP,jr,Bool.not_true,Bool.not_false,Bool.false_eq_true,Bool.true_eq_false,if_true,if_false,decide_true,decide_false,ne_eq,tX,not_false_iff];exact fin 1 (by unfold jt;simp[bo,qA,aD,tX])
theorem abG(w v:Bool)(n:Int) :dY J 169 [(0,.bool true),(1,.bool w),(2,.bool v),(4,.int .i64 n)]=some (bj.mk true w v false n).eo:=by kernel_rfl
theorem abH(n:Int) :dY J 169 [(0,.bool true),(4,.int .i64 n)]=some (bj.mk true false false false n).eo:=by kernel_rfl
theorem adZ(h:ae)(r:aU)(act n:Int) :bh (call J PV (.func 249 [] []) [.agg r.vs,.int .i64 act,.int .i64 n] h) λv g=>v=(je r act n).eo/\bf h g:=by
 refine bh.mk (λe=>ajO (first:=[]) (cap:=[]) e rfl) ?_;unfold QI;refine cM (r' (cs:=r.vs) rfl) λg1 ct dR bb=> ?_
 refine cM u5 λg2 cE eN bn=> ?_
 have iq:=ct.ext bn (by omega);have kF:=bb.trans bn;have fin:∀s:bj,s=je r act n->aV (U (bN J g2 169 (.ptr g1.next 0) s.eo) λal=>U (ak J al 169 (.ptr g1.next 0)) λv9=>some (.ret,[v9],al)) λ_ vs cw=>kE vs=(je r act n).eo/\bf h cw:=λs aA=>by
  refine cX (q1 (cs:=s.vs) cE rfl (by simp[bj.vs]) rfl) λg3 ⟨cO,bR,gp⟩=> ?_
  have cO:=ff cO rfl;rw[k1 cO];exact aV.pure ⟨by rw[aA];rfl,kF.local bR (λi af e=>by omega)⟩
 have afg:∀p:Int,decide (jb .i64 p 2≠0)=n0 p 2:=λp=>rfl
 simp only[H2,Nat.zero_add,cW,Obj.get iq (i:=2) rfl,ar,xd,dP,afg,dn,ba,decide_eq_true_eq];unfold je at fin|-;by_cases ed:act=3
 ·rw[if_pos ed,abH,ar];exact fin _ (by rw[if_pos ed])
 ·rw[if_neg ed];rw[if_neg ed]at fin|-;refine fO (P:=λx vs g=>x=.normal/\g2=g/\vs=[.bool (decide (act=4\/act=5\/act=6\/act=7))]) ?_ ?_
  ·by_cases gh:act=4
   ·rw[if_pos gh];exact aV.pure ⟨rfl,rfl,by simp[gh]⟩
   rw[if_neg gh];by_cases lh:act=5
   ·rw[if_pos lh];exact aV.pure ⟨rfl,rfl,by simp[lh]⟩
   rw[if_neg lh];by_cases lj:act=6
   ·rw[if_pos lj];exact aV.pure ⟨rfl,rfl,by simp[lj]⟩
   rw[if_neg lj];exact aV.pure ⟨rfl,rfl,by simp[gh,lh,lj]⟩
  ·rintro _ _ _ ⟨rfl,rfl,rfl⟩;simp only[bz,bp,jd,ba,decide_eq_true_eq];by_cases c:act=4\/act=5\/act=6\/act=7
   ·rw[if_pos c];simp only[fD,ar,abG];exact fin _ (by rw[if_pos c])
   ·rw[if_neg c,rk,ar];exact fin _ (by rw[if_neg c])
end
section
variable{PV:cn} [cN PV]
def my(σ:b8)(s:bj) :Int:=if s.here=true then(σ.held s.n.toNat:Int)else if s.out=true then(σ.bY s.n.toNat:Int)else 0
section
variable{h g:ae}{X:ew}{c:df}{ρ bD:Nat->Nat}{σ aR:b8}{d e:Nat->Int}
theorem aoS(k:Sys h X ρ σ){x:bH}(ag:x∈σ.au)(s:bj)(h1:s.here=true->0<=s.n/\s.n.toNat<X.A.n)(ab:s.out=true->0<=s.n/\s.n.toNat<X.R.c1) :
  bh (call J PV (.func 164 [] []) [.ptr x.s 0,s.eo] h) λv g=>v=.int .i64 (my σ s)/\bf h g:=by
 refine bh.mk (λe=>ajc (first:=[]) (cap:=[]) e rfl) ?_;unfold P9;refine cM (u6 (cs:=s.vs) rfl) λg1 o dR u=> ?_
 have cf:bf g1 (g1.aB 11):=aM.aB _ _ _;have bk:=(k.ext u).ext cf;have gb:=(bk.au x ag).field.1;have oj:=bk.field.1;have eu:=bk.field.2.2.2;rw[dd]at gb oj eu;have r0:=Obj.get o (i:=0) rfl;have eS:=Obj.get o (i:=3) rfl;have fp:=Obj.get o (i:=4) rfl;simp only[lZ,tw,l0,Nat.zero_add,km,r0,eS,ar,ba];by_cases bo:s.here=true
 ·have aw:=h1 bo;have fA:((s.n.toNat:Nat) :Int)=s.n:=by have:=aw.1;omega
  have BP:=FO bk.core.ps.p aw.2;rw[fA]at BP;rw[if_pos bo];simp only[cl,qW,k7,ar,mA,ha,cW,dd,gb,oj,fp,BP,c3,eh];exact aV.pure ⟨by simp[my,bo,kE],u.trans cf⟩
 ·rw[if_neg bo];by_cases cp:s.out=true
  ·have aw:=ab cp;have fA:((s.n.toNat:Nat) :Int)=s.n:=by have:=aw.1;omega
   have BP:=XO bk.core.hi aw.2;rw[fA]at BP;rw[if_pos cp];simp only[cl,qW,tv,Nat.zero_add,ar,mA,m3,cW,dd,gb,eu,fp,BP,c3,eh];exact aV.pure ⟨by simp[my,bo,cp,kE],u.trans cf⟩
  ·rw[if_neg cp];exact aV.pure ⟨by simp[my,bo,cp,kE],u⟩
theorem NU(k:Good h X c ρ σ d e)(aC:∀f,0<=d f){x:bH}(ag:x∈σ.au){m:Nat}(hm:m<2^512)(aJ:0<σ.free) :
  bh (call J PV (.func 247 [] []) [.ptr x.s 0,.str 64 m] h) λv g=>c2 ρ h g/\∃fr,v=.int .i64 (fr:Nat)/\fr<c.n/\σ.held fr=0/\refs σ fr=0/\(∀y,y∈σ.au->¬IsNode y.T fr)/\
   Good g X c ρ {σ with mem:=az σ.mem fr m,held:=az σ.held fr 1,free:=σ.free-1} (λg=>d g+(decide (g=fr)).toNat) e:=by
 refine bh.mk (λe=>ajM (first:=[]) (cap:=[]) e rfl) ?_;unfold QG;have e3:=k.sys.core.e3;obtain⟨fr,f1,f2,g1,aG,g',bb⟩:=HV k.sys.core.ps.p k.nW aJ;have ck:c2 ρ h g1:=c2.of bb λi _ e=>by have:=k.sys.core.mv e;omega
 have bo:=k.sys.core.m1 g' (bb.mono λi _ e=>e);have s1:=k.sys.own bo rfl ck (λ_ _=>rfl);obtain⟨g2,aT,gO,bn⟩:=Tf s1.core.ps.p f1 (m:=m) (by simp[az]) hm;have dT:c2 ρ g1 g2:=c2.of bn λi _ e=>by subst e;omega
 have cp:=s1.core.m1 gO (bn.mono λi _ e=>.inl e);have s2:=s1.own cp rfl dT (λ_ _=>rfl);simp only[cl,qW,k7,ar,mA,ha,(k.sys.au x ag).field.1,k.sys.field.1,aG,c3,adO,(s1.au x ag).field.1,s1.field.1,aT];rw[k.ef.n]at f1;have aw:=k.inv.uf aC f1 f2;have i1:=k.inv.fill m aw.1 aw.2.2
 have i2:=i1.held (f:=fr) f1 1 (σ.free-1) (λg=>d g+(decide (g=fr)).toNat) aw.2.2 (by
  have:refs {σ with mem:=az σ.mem fr m} fr=refs σ fr:=rfl
  rw[this,aw.1,aw.2.1];simp) (λg aN=>by simp[aN]) (by
  show σ.free-1+(decide (σ.held fr=0)).toNat=σ.free+(decide (1=0)).toNat;rw[decide_eq_true f2];show σ.free-1+1=σ.free+0
  omega)
 have dE:Sys g2 X ρ {σ with mem:=az σ.mem fr m,held:=az σ.held fr 1,free:=σ.free-1}:=by simp only[OT]at s2;exact s2
 exact aV.pure ⟨ck.trans dT (λ_ _=>rfl),fr,rfl,f1,f2,aw.1,aw.2.2,dE,i2,k.ef,k.sec,k.iN⟩
theorem NT(k:Good h X c ρ σ d e){a b:List bH}{x:bH}(aA:σ.au=a++x::b){p:Nat}(aI:p<4096){s:bj}(hm:s.may=true)(iG:3<=σ.free\/x.T.bd 3 (p/8)≠none)(B':(∀f,0<=d f)\/x.T.bd 3 (p/8)≠none)
  (fc de:Nat->Int) (aC:∀f,fc f=d f+(b2 f (x.T.ent p)).toNat-(b2 f s).toNat) (he:∀i,de i=e i+(dg i (x.T.ent p)).toNat-(dg i s).toNat)
  (cp:cv x.L p≠none) (ed:s.here=true->s.n.toNat<c.n/\(∀y,y∈σ.au->¬IsNode y.T s.n.toNat)/\σ.held s.n.toNat≠0) (gh:s.out=true->s.n.toNat<c.c1)
  (lh:s.here=true->s.write=true->refs σ s.n.toNat=(b2 s.n.toNat (x.T.ent p)).toNat)
  (lj:s.here=true->b2 s.n.toNat (x.T.ent p)=false->∀y q,y∈σ.au->(y.T.ent q).here=true->(y.T.ent q).write=true->(y.T.ent q).n.toNat≠s.n.toNat)
  (oH:h7 s=true->∀r,cv x.L p=some r->r.kind=1/\c.iU r.file (r.bM+p-r.lo)=some (σ.mem s.n.toNat)) :
  bh (call J PV (.func 109 [] []) [.ptr x.t 0,.int .i64 p,s.eo] h) λv g=>bX ρ h g/\∃cA cK cH aS,aS.ent=az x.T.ent p s/\Good g X c ρ {σ with mem:=cA,held:=cK,free:=cH,au:=a++{x with T:=aS}::b} fc de/\
   σ.free<=cH+3/\cH<=σ.free/\(x.T.bd 3 (p/8)≠none->cH=σ.free/\aS.bd=x.T.bd)/\
   (∀y q,y∈a++b->cont c {σ with mem:=cA,held:=cK,free:=cH,au:=a++{x with T:=aS}::b} y q=cont c σ y q)/\
   (∀q,q≠p->cont c {σ with mem:=cA,held:=cK,free:=cH,au:=a++{x with T:=aS}::b} {x with T:=aS} q=cont c σ x q)/\
   (s.here=true->cA s.n.toNat=σ.mem s.n.toNat)/\(∀f,¬IsNode x.T f->σ.held f≠0->cA f=σ.mem f/\cK f=σ.held f):=by
 have ag:x∈σ.au:=by rw[aA];simp
 refine bh.mono (YM k.ps (k.ly ag) (λf aJ=>(k.inv.node x f ag aJ).1) (k.inv.tight x ag) k.nW (k.DP ag) aI hm iG) ?_;rintro _ g ⟨rfl,cA,cK,cH,aS,gY,g',t1,bb,rF,v7,xG⟩;rw[k.ef.n]at gY;have fK:∀f,IsNode aS f->¬IsNode x.T f->refs σ f=0/\d f=0:=λf h1 ab=>by
  rcases B' with B'|B'
  ·have h0:=k.inv.uf B' ((gY.ok.lvl _ _ f h1.choose_spec.choose_spec).2.2) (gY.new f h1 ab);exact⟨h0.1,h0.2.1⟩
  ·obtain⟨l,q,e⟩:=h1;exact absurd ⟨l,q,by rw[<-(xG B').2];exact e⟩ ab
 have fA:∀f,¬IsNode x.T f->σ.held f≠0->¬IsNode aS f:=λf h1 ab al=>ab (gY.new f al h1)
 have i1:=k.inv.ent aA gY aI fc de aC he fK (λ_=>.inl cp) (λaD=>⟨(ed aD).1,(ed aD).2.1,fA _ ((ed aD).2.1 x ag) (ed aD).2.2⟩) gh lh lj oH;have n2:=k.inv.Fh aA gY fK;have va:hh g X.A x.t (nodeAt aS 0 0) aS.ee:=t1.obj;have s1:=k.sys.table aA g' va bb;have Lx:=(k.sys.au x ag).role;refine⟨bX.of bb λi _ e=> ?_,cA,cK,cH,aS,gY.ent,⟨s1,i1,k.ef,k.sec,k.iN⟩,rF,v7,xG,n2.1,n2.2,λaD=>(gY.other _ ((ed aD).2.1 x ag) (fA _ ((ed aD).2.1 x ag) (ed aD).2.2)).1,λf h1 ab=>gY.other f h1 (fA f h1 ab)⟩;rcases e with e|rfl
 ·have:=k.sys.core.mv e;omega
 ·omega
end
end
section
variable{PV:cn} [cN PV]
structure vC(h:ae)(X:ew)(c:df)(ρ:Nat->Nat)(σ:b8)(x:bH)(p:Nat)(r:aU)(act:Int)(g:ae)(st:Int)(n:Nat)(aX:b8)(dy:Nat->Nat)(d1 aG:Nat->Int) :Prop where
 u:bX ρ h g
 ro:∀i,i<h.next->dy i=ρ i
 nm:Good g X c dy aX d1 aG
 au:aX.au=σ.au
 view:view c aX=view c σ
 sec:aX.sec=σ.sec
 cont:cont c σ x p=some (aX.mem n)
 wz:n<c.n
 node:∀y,y∈σ.au->¬IsNode y.T n
 held:aX.held n≠0
 zo:∀f,(0:Int)=d1 f+(b2 f (x.T.ent p)).toNat-(decide (f=n)).toNat
 zt:∀i,(0:Int)=aG i+(dg i (x.T.ent p)).toNat
 sC:(∀f,0<=d1 f)\/x.T.bd 3 (p/8)≠none
 write:st≠3->refs aX n=(b2 n (x.T.ent p)).toNat
 other:b2 n (x.T.ent p)=false->∀y q,y∈σ.au->(y.T.ent q).here=true->(y.T.ent q).write=true->(y.T.ent q).n.toNat≠n
 clean:st=3->r.kind=1/\c.iU r.file (r.bM+p-r.lo)=some (aX.mem n)
 yA:st=act\/act=3/\st=4
 free:σ.free<=aX.free+1
 used:aX.used<=σ.used
 w7:σ.used<=aX.used+((x.T.ent p).out).toNat
 ring:act≠3->aX.ring=σ.ring
 yw:(lv aX.ring=lv σ.ring\/lv aX.ring=lv σ.ring++[(r.file,r.bM+p-r.lo)])/\(act=3->c.iU r.file (r.bM+p-r.lo)≠none->(r.file,r.bM+p-r.lo)∈lv aX.ring)
theorem SZ{r:aU}{st:Int}{n:Nat}(h:st=3\/st=4\/st=5\/st=6\/st=7)(aw:n<=4096) :(je r st n).may=true/\(je r st n).here=true/\(je r st n).out=false/\(je r st n).n=n/\(h7 (je r st n)=true->st=3)/\((je r st n).write=true->st≠3):=by
 have h1:(0:Int)<=(n:Int):=by omega
 have ab:(n:Int)<=1048576:=by omega
 unfold je;by_cases ed:st=3
 ·rw[if_pos ed];simp[bj.may,h1,ab,ed]
 ·rw[if_neg ed,if_pos (by omega)];cases n0 r.perm 2<;>simp[bj.may,h7,h1,ab,ed]
theorem UW{r:aU}{st:Int}{n:Nat}(h:st=3\/st=4\/st=5\/st=6\/st=7)(aw:n<=4096)(f:Nat) :b2 f (je r st n)=decide (f=n)/\dg f (je r st n)=false:=by obtain⟨_,b,kR,e,_⟩:=SZ (r:=r) h aw;unfold b2 dg;rw[b,kR,e];refine⟨?_,rfl⟩;rw[Bool.true_and,Bool.eq_iff_iff];simp;omega
structure Ez(c:df)(x:bH)(p:Nat)(r:aU)(act:Int)(σ aR:b8) :Prop where
 view:view c aR=view c σ
 free:σ.free<=aR.free+4
 leaf:x.T.bd 3 (p/8)≠none->σ.free<=aR.free+1
 ent:∃a b aS n st,σ.au=a++x::b/\aR.au=a++{x with T:=aS}::b/\aS.ent=az x.T.ent p (je r st (n:Nat))/\n<c.n/\(st=act\/act=3/\st=4)
 used:aR.used<=σ.used
 w7:σ.used<=aR.used+((x.T.ent p).out).toNat
 ring:act≠3->aR.ring=σ.ring
 yw:(lv aR.ring=lv σ.ring\/lv aR.ring=lv σ.ring++[(r.file,r.bM+p-r.lo)])/\(act=3->c.iU r.file (r.bM+p-r.lo)≠none->(r.file,r.bM+p-r.lo)∈lv aR.ring)
section
variable{h g:ae}{X:ew}{c:df}{ρ bD:Nat->Nat}{σ aR:b8}{d e:Nat->Int}
theorem anS{x:bH}{p:Nat}{r:aU}{act st:Int}{n:Nat}{aX:b8}{dy:Nat->Nat}{d1 aG:Nat->Int}(k:vC h X c ρ σ x p r act g st n aX dy d1 aG){a b:List bH}(aA:σ.au=a++x::b)(aI:p<4096)(an:cv x.L p=some r)(uj:act=3\/act=4\/act=5\/act=6\/act=7)(aJ:4<=σ.free\/x.T.bd 3 (p/8)≠none){cw:ae}(ia:bf g cw) :
  bh (call J PV (.func 109 [] []) [.ptr x.t 0,.int .i64 p,(je r st n).eo] cw) λv g2=>bX ρ h g2/\∃aR,Good g2 X c dy aR (λf=>0) (λf=>0)/\Ez c x p r act σ aR:=by
 have hn:=k.nm.ext ia;have zT:=k.nm.n;have ea:st=3\/st=4\/st=5\/st=6\/st=7:=by rcases k.yA with e|⟨_,e⟩<;>omega
 have Ll:n<=4096:=by have:=k.wz;omega
 obtain⟨c5,dr,eu,e2,Mq,akV⟩:=SZ (r:=r) ea Ll;have iW:aX.au=a++x::b:=by rw[k.au];exact aA
 have ns:(je r st n).n.toNat=n:=by rw[e2];omega
 refine bh.mono (NT hn iW aI (s:=je r st n) c5 (aJ.imp (λaJ=>by have:=k.free;omega) id) k.sC (λf=>0) (λf=>0) (λf=>by rw[(UW ea Ll f).1];exact k.zo f) (λi=>by rw[(UW ea Ll i).2];have:=k.zt i;simpa using this)
  (by rw[an];simp) (λ_=>by rw[ns];exact⟨k.wz,λy aq=>k.node y (by rw[<-k.au];exact aq),k.held⟩) (λaD=>by rw[eu]at aD;cases aD) (λ_ hw=>by rw[ns];exact k.write (akV hw)) (λ_ ju y q aq=>by rw[ns]at ju|-;exact k.other ju y q (by rw[<-k.au];exact aq))
  (λaH cR ki=>by rw[an]at ki;cases ki;rw[ns];exact k.clean (Mq aH))) ?_
 rintro v g2 ⟨dT,cA,cK,cH,aS,lr,b_,f1,f2,f3,eA,gr,jO,h9⟩;refine⟨(k.u.trans (bX.ext (ρ:=ρ) ia) (λ_ _=>rfl)).trans dT k.ro,_,b_,?_,?_,λay=> ?_,⟨a,b,aS,n,st,aA,rfl,lr,k.wz,k.yA⟩,k.used,k.w7,k.ring,k.yw⟩
 ·rw[<-k.view];refine Ik (a:=a) (b:=b) (x:=x) (cG:={x with T:=aS}) iW rfl rfl rfl (λy q aq=>eA y q aq) (λq=> ?_);by_cases aF:q=p
  ·subst aF;have h1:cont c aX x q=cont c σ x q:=by
    have ai:=k.view;unfold view at ai;rw[k.au]at ai;have ag:x∈σ.au:=by rw[aA];simp
    have:=List.map_inj_left.1 ai x ag;simp only[Prod.mk.injEq,true_and]at this;rw[this]
   rw[h1,k.cont];have aP:aS.ent q=je r st n:=by rw[lr,e4]
   unfold cont;simp only;rw[an];simp only[aP,dr,if_true];rw[jO dr,ns]
  ·exact gr q aF
 ·show σ.free<=cH+4
  have:=k.free;omega
 ·show σ.free<=cH+1
  have:=(f3 ay).1;have:=k.free;omega
end
end
section
variable{PV:cn} [cN PV]
theorem Fi{s:bj}(h:s≠.zero->s.may=true)(h1:s.out=false)(ab:s.here=false) :s=.zero:=by
 by_cases c:s=.zero
 ·exact c
 ·have:=h c;simp[bj.may,h1,ab]at this
section
variable{h g:ae}{X:ew}{c:df}{ρ bD:Nat->Nat}{σ aR:b8}{d e:Nat->Int}
theorem aiO(k:Good h X c ρ σ d e){n:Nat}(aw:n<c.n)(aD:σ.held n≠0)(fA:∀x,x∈σ.au->¬IsNode x.T n)(b6:σ.held n<2^60) :
  ∃g,call J PV (.func 175 [] []) [.ptr X.A.p 0,.int .i64 (n:Nat)] h=some (.int .i64 0,g)/\
   c2 ρ h g/\Good g X c ρ {σ with held:=az σ.held n (σ.held n-1),free:=if σ.held n=1 then σ.free+1 else σ.free} (λf=>d f-(decide (f=n)).toNat) e:=by
 have lu:=k.zy;have sS:=k.inv.data n aw fA;obtain⟨g,aG,g',bb⟩:=BM k.sys.core.ps.p (f:=n) (by rw[k.ef.n];exact aw) aD (by omega) (by omega);have e3:=k.sys.core.e3;have w:c2 ρ h g:=c2.of bb λi _ e=>by rcases e with rfl|rfl<;>omega
 have nB:=k.sys.core.m1 g' (bb.mono λi _ e=>.inr e);refine⟨g,aG,w,⟨k.sys.own nB rfl w (λ_ _=>rfl),?_,k.ef,k.sec,k.iN⟩⟩;refine k.inv.held aw _ _ _ fA ?_ (λg aN=>by simp[aN]) ?_
 ·simp only[decide_true,Bool.toNat_true];omega
 ·by_cases bo:σ.held n=1
  ·rw[if_pos bo,decide_eq_false aD,decide_eq_true (show σ.held n-1=0 by omega)];simp
  ·rw[if_neg bo,decide_eq_false aD,decide_eq_false (show¬σ.held n-1=0 by omega)]
theorem Xa{x:bH}{p:Nat}{r:aU}{act st:Int}{fr m:Nat}(ag:x∈σ.au)(aP:x.T.ent p=.zero)(hm:cont c σ x p=some m)(u:bX ρ h g)(fw:fr<c.n)(h0:σ.held fr=0)(oW:refs σ fr=0)(e7:∀y,y∈σ.au->¬IsNode y.T fr)
  (inv:Inv c σ (λ_=>0) (λ_=>0)) (hn:Good g X c ρ {σ with mem:=az σ.mem fr m,held:=az σ.held fr 1,free:=σ.free-1} (λg=>0+(decide (g=fr)).toNat) (λ_=>0)) (ea:st=act\/act=3/\st=4) (al:st≠3) (aeT:act=3->c.iU r.file (r.bM+p-r.lo)=none) :
  vC h X c ρ σ x p r act g st fr {σ with mem:=az σ.mem fr m,held:=az σ.held fr 1,free:=σ.free-1} ρ (λg=>0+(decide (g=fr)).toNat) (λ_=>0)where
 u:=u
 ro:=λ_ _=>rfl
 nm:=hn
 au:=rfl
 view:=vk rfl λy q aq=>lG (λaD=>by
  show az σ.mem fr m _=_;rw[eE];intro e;have:=(lV oW).1 y q aq (inv.lt aq (gZ aD))
  rw[<-e,iL inv aq aD]at this;cases this) (λ_=>rfl)
 sec:=rfl
 cont:=by rw[hm];show some m=some (az σ.mem fr m fr);rw[e4]
 wz:=fw
 node:=e7
 held:=by show az σ.held fr 1 fr≠0;rw[e4];decide
 zo:=λf=>by rw[aP];have:b2 f bj.zero=false:=rfl;rw[this];simp
 zt:=λi=>by rw[aP];have:dg i bj.zero=false:=rfl;rw[this];simp
 sC:=.inl λf=>by show(0:Int)<=0+((decide (f=fr)).toNat:Int);omega
 write:=λ_=>by rw[aP];show refs σ fr=(b2 fr bj.zero).toNat;rw[oW];rfl
 other:=λ_ y q aq aD hw e=>by have:=(lV oW).1 y q aq (inv.lt aq (gZ aD));rw[<-e,iL inv aq aD]at this;cases this
 clean:=λh=>absurd h al
 yA:=ea
 free:=by show σ.free<=σ.free-1+1;omega
 used:=Nat.le_refl _
 w7:=Nat.le_add_right _ _
 ring:=λ_=>rfl
 yw:=⟨.inl rfl,λh aw=>absurd (aeT h) aw⟩
theorem Td(h:ae) :call J PV (.func 213 [] []) [(.str 0 0),(.int .i64 64)] h=some (.str 64 0,h):=Ww h (l:=0) (n:=0) (by decide) (by decide)
theorem anO(k:Good h X c ρ σ (λ_=>0) (λ_=>0)){x:bH}(ag:x∈σ.au){p:Nat}{r:aU}(an:cv x.L p=some r)(aP:x.T.ent p=.zero)(av:r.kind=1){g:ae}(u:bX ρ h g){fr:Nat}{aR:b8}{bD:Nat->Nat}(jY:∀i,i<h.next->bD i=ρ i)
  (aq:∃y,y∈aR.ring/\y.fr=fr/\y.file=r.file/\y.bM=r.bM+p-r.lo) (hn:Good g X c bD aR (λg=>0+(decide (g=fr)).toNat) (λ_=>0)) (ep:aR.au=σ.au) (ai:view c aR=view c σ) (CG:aR.sec=σ.sec) (aJ:σ.free<=aR.free+1) (hu:aR.used=σ.used) (La:lv aR.ring=lv σ.ring\/lv aR.ring=lv σ.ring++[(r.file,r.bM+p-r.lo)]) :
  vC h X c ρ σ x p r 3 g 3 fr aR bD (λg=>0+(decide (g=fr)).toNat) (λ_=>0):=by
 obtain⟨y,s8,rfl,uz,hyp⟩:=aq;have F':=hn.inv.ring y s8;rw[uz,hyp]at F';have sY:=hn.inv.NB s8 (by omega)
 exact{
  u:=u
  ro:=jY
  nm:=hn
  au:=ep
  view:=ai
  sec:=CG
  cont:=by unfold cont;rw[an];simp only[aP];show some (if false=true then _ else if false=true then _ else base c r p)=_;unfold base;rw[if_pos av,F'.2];rfl
  wz:=F'.1
  node:=λz aP=>hn.inv.yu s8 (by rw[ep];exact aP)
  held:=by omega
  zo:=λf=>by rw[aP];have:b2 f bj.zero=false:=rfl;rw[this];simp
  zt:=λi=>by rw[aP];have:dg i bj.zero=false:=rfl;rw[this];simp
  sC:=.inl λf=>by show(0:Int)<=0+((decide (f=y.fr)).toNat:Int);omega
  write:=λh=>absurd rfl h
  other:=λ_ z q aP aD hw e=>by rw[<-ep]at aP;have h1:=hn.inv.write z q aP aD hw;rw[e]at h1;have ab:=E5 (P:=λx:dj=>x.fr==y.fr) s8 (by simp);have al:=AA (P:=b2 y.fr) aP (hn.inv.lt aP (gZ aD)) (by rw[<-e];exact iL hn.inv aP aD);unfold refs at h1;omega
  clean:=λ_=>⟨av,F'.2⟩
  yA:=.inl rfl
  free:=aJ
  used:=by rw[hu];exact Nat.le_refl _
  w7:=by rw[hu];exact Nat.le_add_right _ _
  ring:=λh=>absurd rfl h
  yw:=⟨La,λ_ _=>List.mem_map.2 ⟨y,s8,by rw[uz,hyp]⟩⟩}
end
end
section
variable{PV:cn} [cN PV]
section
variable{h g:ae}{X:ew}{c:df}{ρ bD:Nat->Nat}{σ aR:b8}{d e:Nat->Int}
theorem Vg(k:Good h X c ρ σ d e){i:Nat}(af:i<c.c1)(aD:σ.bY i≠0)(b6:σ.bY i<2^60) :
  bh (call J PV (.func 176 [] []) [.ptr X.R.a 0,.int .i64 (i:Nat)] h) λv g=>c2 ρ h g/\Good g X c ρ {σ with bY:=az σ.bY i (σ.bY i-1),used:=if σ.bY i=1 then σ.used-1 else σ.used} d (λj=>e j-(decide (j=i)).toNat):=by
 have pG:1<=σ.used:=by rw[k.inv.used];exact zk af (by simp[aD])
 have Gg:σ.used<=4096:=by rw[k.inv.used];exact Nat.le_trans (oJ _ _) k.c1
 refine bh.mono (aoQ k.sys.core.hi (i:=i) (by rw[k.ef.c1];exact af) aD b6 ⟨pG,Gg⟩) ?_;rintro _ g ⟨rfl,ao,bb⟩;have ga:=k.sys.core.ga;have w:c2 ρ h g:=c2.of bb λi _ e=>by rcases e with rfl|rfl<;>omega
 have nB:=k.sys.core.zb ao bb;have sS:=k.inv.slot i af;refine⟨w,k.sys.own nB rfl w (λ_ _=>rfl),?_,k.ef,k.sec,k.iN⟩;refine k.inv.bY af _ _ _ ?_ (λj aO=>by simp[aO]) ?_
 ·simp only[decide_true,Bool.toNat_true];omega
 ·by_cases bo:σ.bY i=1
  ·rw[if_pos bo,decide_eq_true aD,decide_eq_false (show¬σ.bY i-1≠0 by omega)];show σ.used-1+1=σ.used+0;omega
  ·rw[if_neg bo,decide_eq_true aD,decide_eq_true (show σ.bY i-1≠0 by omega)]
theorem anP(k:Good h X c ρ σ (λ_=>0) (λ_=>0)){x:bH}(ag:x∈σ.au){p:Nat}{r:aU}(an:cv x.L p=some r)(bg:(x.T.ent p).out=true){g:ae}(u:bX ρ h g){fr m:Nat}(hm:m=σ.sec (c.first+(x.T.ent p).n.toNat))(fw:fr<c.n)(h0:σ.held fr=0)(oW:refs σ fr=0)(e7:∀y,y∈σ.au->¬IsNode y.T fr)
  {bY:Nat->Nat} {used:Nat} (oZ:used<=σ.used) (ahq:σ.used<=used+1) (hn:Good g X c ρ {σ with mem:=az σ.mem fr m,held:=az σ.held fr 1,free:=σ.free-1,bY:=bY,used:=used} (λg=>0+(decide (g=fr)).toNat) (λj=>0-(decide (j=(x.T.ent p).n.toNat)).toNat)) :
  vC h X c ρ σ x p r 5 g 5 fr {σ with mem:=az σ.mem fr m,held:=az σ.held fr 1,free:=σ.free-1,bY:=bY,used:=used} ρ (λg=>0+(decide (g=fr)).toNat) (λj=>0-(decide (j=(x.T.ent p).n.toNat)).toNat):=by
 have hk:=k2 (k.inv.jy ag (wE bg));have aD:(x.T.ent p).here=false:=by
  cases aj:(x.T.ent p).here with
  |false=>rfl
  |true=>exact absurd ⟨aj,bg⟩ hk.2
 have ju:∀f,b2 f (x.T.ent p)=false:=λf=>by unfold b2;rw[aD];rfl
 exact{
  u:=u
  ro:=λ_ _=>rfl
  nm:=hn
  au:=rfl
  view:=vk rfl λy q aq=>lG (λaD=>by
   show az σ.mem fr m _=_;rw[eE];intro e;have:=(lV oW).1 y q aq (k.inv.lt aq (gZ aD))
   rw[<-e,iL k.inv aq aD]at this;cases this) (λ_=>rfl)
  sec:=rfl
  cont:=by unfold cont;rw[an];simp only[aD,bg];show some (if false=true then _ else if true=true then σ.sec (c.first+(x.T.ent p).n.toNat)else base c r p)=some (az σ.mem fr m fr);rw[if_neg (by decide),if_pos rfl,e4,hm]
  wz:=fw
  node:=e7
  held:=by show az σ.held fr 1 fr≠0;rw[e4];decide
  zo:=λf=>by rw[ju];simp
  zt:=λi=>by
   have:dg i (x.T.ent p)=decide (i=(x.T.ent p).n.toNat):=by unfold dg;rw[bg,Bool.true_and,Bool.eq_iff_iff];simp;have:=hk.1;omega
   rw[this];omega
  sC:=.inl λf=>by show(0:Int)<=0+((decide (f=fr)).toNat:Int);omega
  write:=λ_=>by rw[ju];show refs σ fr=(false).toNat;rw[oW];rfl
  other:=λ_ y q aq aD hw e=>by have:=(lV oW).1 y q aq (k.inv.lt aq (gZ aD));rw[<-e,iL k.inv aq aD]at this;cases this
  clean:=λh=>absurd h (by decide)
  yA:=.inl rfl
  free:=by show σ.free<=σ.free-1+1;omega
  used:=oZ
  w7:=by rw[bg];exact ahq
  ring:=λ_=>rfl
  yw:=⟨.inl rfl,λh=>absurd h (by decide)⟩}
theorem Ab{s:bj}(h:s.here=true)(h0:0<=s.n)(f:Nat) :b2 f s=decide (f=s.n.toNat):=by unfold b2;rw[h,Bool.true_and,Bool.eq_iff_iff];simp;omega
theorem CX{s:bj}(h:s.may=true)(aD:s.here=true)(j:Nat) :dg j s=false:=by
 have:=(k2 h).2;unfold dg;cases bg:s.out with
 |false=>rfl
 |true=>exact absurd ⟨aD,bg⟩ this
theorem anQ(k:Good h X c ρ σ (λ_=>0) (λ_=>0)){x:bH}(ag:x∈σ.au){p:Nat}{r:aU}(an:cv x.L p=some r)(aD:(x.T.ent p).here=true){g:ae}(u:bX ρ h g){fr:Nat}(fw:fr<c.n)(h0:σ.held fr=0)(oW:refs σ fr=0)(e7:∀y,y∈σ.au->¬IsNode y.T fr)
  {held:Nat->Nat} {free:Nat} (xH:σ.free<=free+1) (af4:held fr≠0) (hn:Good g X c ρ {σ with mem:=az σ.mem fr (σ.mem (x.T.ent p).n.toNat),held:=held,free:=free} (λg=>0+(decide (g=fr)).toNat-(decide (g=(x.T.ent p).n.toNat)).toNat) (λ_=>0)) :
  vC h X c ρ σ x p r 6 g 6 fr {σ with mem:=az σ.mem fr (σ.mem (x.T.ent p).n.toNat),held:=held,free:=free} ρ (λg=>0+(decide (g=fr)).toNat-(decide (g=(x.T.ent p).n.toNat)).toNat) (λ_=>0):=by
 have ik:=k.inv.jy ag (gZ aD);have hk:=k2 ik;have c':fr≠(x.T.ent p).n.toNat:=λe=>by have:=(lV oW).1 x p ag (k.inv.lt ag (gZ aD));rw[e,iL k.inv ag aD]at this;cases this
 exact{
  u:=u
  ro:=λ_ _=>rfl
  nm:=hn
  au:=rfl
  view:=vk rfl λy q aq=>lG (λaD=>by
   show az σ.mem fr _ _=_;rw[eE];intro e;have:=(lV oW).1 y q aq (k.inv.lt aq (gZ aD))
   rw[<-e,iL k.inv aq aD]at this;cases this) (λ_=>rfl)
  sec:=rfl
  cont:=by unfold cont;rw[an];simp only[aD,if_true];show some (σ.mem (x.T.ent p).n.toNat)=some (az σ.mem fr _ fr);rw[e4]
  wz:=fw
  node:=e7
  held:=af4
  zo:=λf=>by rw[Ab aD hk.1];omega
  zt:=λi=>by rw[CX ik aD];simp
  sC:=.inr ((k.inv.jl x ag).own p (gZ aD))
  write:=λ_=>by rw[Ab aD hk.1,decide_eq_false c'];show refs σ fr=(false).toNat;rw[oW];rfl
  other:=λ_ y q aq aD hw e=>by have:=(lV oW).1 y q aq (k.inv.lt aq (gZ aD));rw[<-e,iL k.inv aq aD]at this;cases this
  clean:=λh=>absurd h (by decide)
  yA:=.inl rfl
  free:=xH
  used:=Nat.le_refl _
  w7:=Nat.le_add_right _ _
  ring:=λ_=>rfl
  yw:=⟨.inl rfl,λh=>absurd h (by decide)⟩}
theorem anR(k:Good h X c ρ σ (λ_=>0) (λ_=>0)){x:bH}(ag:x∈σ.au){p:Nat}{r:aU}(an:cv x.L p=some r)(aD:(x.T.ent p).here=true)(h1:σ.held (x.T.ent p).n.toNat<=1){g:ae}(u:bf h g) :
  vC h X c ρ σ x p r 7 g 7 (x.T.ent p).n.toNat σ ρ (λ_=>0) (λ_=>0):=by
 have ik:=k.inv.jy ag (gZ aD);have hk:=k2 ik;have aw:=k.inv.here x p ag aD;have s3:=λy aq=>k.inv.pv ag aD (y:=y) aq
 have sY:=k.inv.zK ag aD (Int.le_refl 0);have sS:=k.inv.data _ aw s3
 exact{
  u:=bX.ext u
  ro:=λ_ _=>rfl
  nm:=k.ext u
  au:=rfl
  view:=rfl
  sec:=rfl
  cont:=by unfold cont;rw[an];simp only[aD,if_true]
  wz:=aw
  node:=s3
  held:=by omega
  zo:=λf=>by rw[Ab aD hk.1];omega
  zt:=λi=>by rw[CX ik aD];simp
  sC:=.inl λf=>Int.le_refl 0
  write:=λ_=>by rw[iL k.inv ag aD];simp only[Bool.toNat_true];omega
  other:=λju=>by rw[iL k.inv ag aD]at ju;cases ju
  clean:=λh=>absurd h (by decide)
  yA:=.inl rfl
  free:=Nat.le_succ _
  used:=Nat.le_refl _
  w7:=Nat.le_add_right _ _
  ring:=λ_=>rfl
  yw:=⟨.inl rfl,λh=>absurd h (by decide)⟩}
end
end
section
variable{PV:cn} [cN PV]
section
variable{h g:ae}{X:ew}{c:df}{ρ bD:Nat->Nat}{σ aR:b8}{d e:Nat->Int}
theorem bX.L8{a b:ae}{id:Nat}{l:List aa}(u:bX ρ a b)(o:a8.Obj a id l)(af:id<a.next)(an:ρ id=0) :a8.Obj b id l:=u.c0 o af an
theorem ade(k:Good h X c ρ σ (λ_=>0) (λ_=>0)){x:bH}(ag:x∈σ.au){p:Nat}(aI:p<4096){r:aU}(an:cv x.L p=some r){act:Int}
  (al:act=3->x.T.ent p=.zero/\r.kind=1) (aE:act=4->x.T.ent p=.zero/\r.kind≠1) (aL:act=5->(x.T.ent p).out=true) (bm:act=6->(x.T.ent p).here=true) (cr:act=7->(x.T.ent p).here=true/\σ.held (x.T.ent p).n.toNat<=1)
  (uj:act=3\/act=4\/act=5\/act=6\/act=7) (aJ:act=7\/4<=σ.free) :
  bh (call J PV (.func 165 [] []) [.ptr x.s 0,.agg r.vs,.int .i64 p,.int .i64 act,(x.T.ent p).eo] h) λv g=>bX ρ h g/\∃aR bD,(∀i,i<h.next->bD i=ρ i)/\Good g X c bD aR (λ_=>0) (λ_=>0)/\Ez c x p r act σ aR:=by
 refine bh.mk (λe=>ajd (first:=[]) (cap:=[]) e rfl) ?_;unfold P_;refine cM (r' (cs:=r.vs) rfl) λg1 ct dR bb=> ?_
 refine cM (u6 (cs:=(x.T.ent p).vs) rfl) λg2 cE eN bn=> ?_
 have iq:=ct.ext bn (by omega);have kF:=bb.trans bn;have b_:=k.ext kF;have h':ρ h.next=0:=k.fresh (Nat.le_refl _);have Dn:ρ g1.next=0:=k.fresh (by omega);have ov:=(b_.sys.au x ag).field;have fp:bP g2 g1.next 4=some (.int .i64 (x.T.ent p).n):=cE.rd 4;have pD:=AF an;have lN:=(k.inv.hJ x ag).may r pD.1;have ati:=nE lN;simp only[cl,qW,ar,mA,ov.1,l0,Nat.zero_add,cW,fp];obtain⟨a,b,aA⟩:=List.append_of_mem ag;refine fO (P:=λy vs g=>y=.normal/\∃st n aX dy d1 aG,vs=[.int .i64 st,.int .i64 (n:Nat)]/\vC h X c ρ σ x p r act g st n aX dy d1 aG/\a8.Obj g h.next r.vs/\h.next<g.next) ?_ ?_
 ·rcases uj with rfl|rfl|rfl|rfl|rfl
  ·have aJ:=aJ.resolve_left (by decide);obtain⟨aP,av⟩:=al rfl;simp only[dn,ar,ba];rw[if_pos (by decide)];rw[lz iq (by simp[aU.vs])];simp only[ar];rw[show List.take 6 (List.drop 0 r.vs)=r.vs from rfl];have xL:keyOf r p=some (r.file,r.bM+p-r.lo):=by unfold keyOf;rw[if_pos ⟨av,pD.2.1,pD.2.2⟩]
   refine b4 (aiq g2 (C5 lN) (p:=p) (by unfold Jj;omega)) ?_;rintro _ g3 ⟨rfl,bR⟩;rw[xL];simp only[adO,ar];refine cM DF λg4 dG hU bO=> ?_
   refine cX (A8 (k:=0) (cs:=[.int .i64 r.file,.int .i64 (r.bM+p-r.lo)]) dG rfl (by simp) rfl) λg5 ⟨eH,cD,n5⟩=> ?_
   have eH:=ff eH rfl;have ve:bf g3 g5:=bO.local cD (λj aO e=>by omega);have cf:bf g5 (g5.aB 11):=aM.aB _ _ _;have q6:=((kF.trans bR).trans ve).trans cf;have dQ:=k.ext q6;have dr:=dQ.sys.field.2.2.1;rw[dd]at dr;have amg:=eH.ext cf (by omega);have s0:=bR.next;have nF:=((iq.ext bR (by omega)).ext ve (by omega)).ext cf (by omega);simp only[cl,DH,Nat.zero_add,ar,o7,dd,dr];rw[o8 amg (by simp)];simp only[ar,List.drop_zero,List.take_succ_cons,List.take_zero];refine b4 (aco dQ (λf=>Int.le_refl 0) (λf=>by omega) r.file (r.bM+p-r.lo)) ?_;rintro v g6 ⟨cJ,⟨zv,rfl,xB,eL⟩ |⟨fr,aR,bD,rfl,jY,aq,eL,ep,ai,CG,fw,_,oZ,_,La⟩⟩
   ·have gS:bX ρ h g6:=(bX.ext (ρ:=ρ) q6).trans cJ (λ_ _=>rfl);have r2:=bX.c0 cJ nF (by show h.next<g5.next+11;omega) h';have FY:h.next<g6.next:=Nat.lt_of_lt_of_le (show h.next<g5.next+11 by omega) cJ.next;rcases xB with⟨rfl,Ct⟩ |⟨_,h0,_⟩
    ·simp only[adO,ar,eh,dP,ba];rw[if_pos (by decide)];simp only[Td,c3];refine fO (P:=λy vs g=>y=.normal/\∃fr:Nat,vs=[.int .i64 4,.int .i64 (fr:Nat)]/\vC h X c ρ σ x p r 3 g 4 fr {σ with mem:=az σ.mem fr 0,held:=az σ.held fr 1,free:=σ.free-1} ρ (λg=>0+(decide (g=fr)).toNat) (λ_=>0)/\a8.Obj g h.next r.vs/\h.next<g.next) ?_ ?_
     ·refine b4 (NU eL (λf=>Int.le_refl 0) ag (m:=0) (Nat.two_pow_pos _) (by omega)) ?_;rintro _ g7 ⟨jn,fr,rfl,f1,f2,f3,f4,j0⟩;refine aV.pure ⟨rfl,fr,rfl,Xa ag aP ?_ (gS.trans (bX.own jn) (λ_ _=>rfl)) f1 f2 f3 f4 k.inv j0 (.inr ⟨rfl,rfl⟩) (by decide) (λ_=>Ct),bX.c0 (bX.own jn) r2 FY h',Nat.lt_of_lt_of_le FY jn.next⟩;unfold cont;rw[an];simp only[aP];show some (if false=true then _ else if false=true then _ else base c r p)=_;unfold base;rw[if_pos av,Ct];rfl
     ·rintro _ _ g7 ⟨rfl,fr,rfl,rd,fj,Lc⟩;simp only[bz,bp,jd];exact aV.pure ⟨rfl,4,fr,_,_,_,_,rfl,rd,fj,Lc⟩
    ·omega
   ·have gS:bX ρ h g6:=(bX.ext (ρ:=ρ) q6).trans cJ (λ_ _=>rfl);have r2:=bX.c0 cJ nF (by show h.next<g5.next+11;omega) h';have FY:h.next<g6.next:=Nat.lt_of_lt_of_le (show h.next<g5.next+11 by omega) cJ.next;simp only[adO,ar,eh,dP,ba];rw[if_neg (by decide)];simp only[c4,bz,bp,jd];have kx:h.next<=(g5.aB 11).next:=q6.next
    exact aV.pure ⟨rfl,3,fr,_,_,_,_,rfl,anO k ag an aP av gS (λi af=>jY i (Nat.lt_of_lt_of_le af kx)) aq eL ep ai CG fw oZ La,r2,FY⟩
  ·have aJ:=aJ.resolve_left (by decide);obtain⟨aP,av⟩:=aE rfl;simp only[dn,ar,ba];rw[if_neg (by decide),if_pos (by decide)];simp only[Td,c3];refine b4 (NU b_ (λf=>Int.le_refl 0) ag (m:=0) (Nat.two_pow_pos _) (by omega)) ?_;rintro _ g7 ⟨jn,fr,rfl,f1,f2,f3,f4,j0⟩;refine aV.pure ⟨rfl,4,fr,_,_,_,_,rfl,Xa ag aP ?_ ((bX.ext (ρ:=ρ) kF).trans (bX.own jn) (λ_ _=>rfl)) f1 f2 f3 f4 k.inv j0 (.inl rfl) (by decide) (λh=>absurd h (by decide)),bX.c0 (bX.own jn) iq (by omega) h',by have:=jn.next;omega⟩;unfold cont;rw[an];simp only[aP];show some (if false=true then _ else if false=true then _ else base c r p)=_;unfold base;rw[if_neg av];rfl
  ·have aJ:=aJ.resolve_left (by decide);have bg:=aL rfl;have hk:=k2 (k.inv.jy ag (wE bg));have hP:=k.inv.out x p ag bg;have xU:=k.inv.Nf ag bg (Int.le_refl 0);have fA:(((x.T.ent p).n.toNat:Nat) :Int)=(x.T.ent p).n:=by have:=hk.1;omega
   have cf:bf g2 (g2.aB 12):=aM.aB _ _ _;have b3:=b_.ext cf;have eu:=b3.sys.field.2.2.2;rw[dd]at eu;simp only[dn,ar,ba];rw[if_neg (by decide),if_neg (by decide),if_pos (by decide)];simp only[cl,tv,Nat.zero_add,ar,m3,dd,eu,fp];rw[<-fA];refine b4 (aoR b3.sys.core.hi b3.sys.core.jV (i:=(x.T.ent p).n.toNat) (by rw[k.ef.c1];exact hP) (by omega)) ?_;rintro _ g4 ⟨rfl,a4,d4,bO⟩;have f':=k.sys.core.f';have fq:c2 ρ (g2.aB 12) g4:=c2.of bO λi _ e=>by subst e;omega
   have gh:=b3.sys.core.SE a4 d4 (bO.mono λi _ e=>.inl e);have c7:Good g4 X c ρ σ (λ_=>0) (λ_=>0):=⟨b3.sys.own gh rfl fq (λ_ _=>rfl),k.inv,k.ef,k.sec,k.iN⟩;have CG:σ.sec (X.R.first+(x.T.ent p).n.toNat) <2^512:=c7.sys.core.jV.aoK (by have:=c7.sys.core.hi.f;rw[k.ef.c1]at this;omega);have iX:=fq.c0 (iq.ext cf (by omega)) (by show h.next<g2.next+12;omega) h';have tj:=fq.c0 (cE.ext cf (by omega)) (by show g1.next<g2.next+12;omega) Dn;simp only[adO,ar,eh];refine b4 (NU c7 (λf=>Int.le_refl 0) ag CG (by omega)) ?_;rintro _ g5 ⟨gf,fr,rfl,f1,f2,f3,f4,dQ⟩;have zT:g2.next+12<=g4.next:=bO.next;have nF:=gf.c0 iX (by omega) h';have Ao:=gf.c0 tj (by omega) Dn;have uu:=gf.next;have vg:bf g5 (g5.aB 7):=aM.aB _ _ _;have CZ:=dQ.ext vg;have VH:=CZ.sys.field.2.2.2;rw[dd]at VH;have anD:bP g5 g1.next 4=some (.int .i64 (x.T.ent p).n):=Ao.rd 4;simp only[cl,tv,Nat.zero_add,ar,m3,dd,VH,l0,cW,anD];rw[<-fA];have b6:=k.NW (λf=>by show(0:Int)<=16;omega) hP;refine b4 (Vg CZ (i:=(x.T.ent p).n.toNat) hP (by show σ.bY _≠0;omega) (by show σ.bY _<_;omega)) ?_;rintro v g6 ⟨gS,eL⟩;have r2:=gS.c0 (nF.ext vg (by omega)) (by show h.next<g5.next+7;omega) h';have w:bX ρ h g6:=((((bX.ext (ρ:=ρ) (kF.trans cf)).trans (bX.own fq) (λ_ _=>rfl)).trans (bX.own gf) (λ_ _=>rfl)).trans (bX.ext (ρ:=ρ) vg) (λ_ _=>rfl)).trans (bX.own gS) (λ_ _=>rfl)
   refine aV.pure ⟨rfl,5,fr,_,_,_,_,rfl,anP k ag an bg w (by rw[k.ef.first]) f1 f2 f3 f4 ?_ (by show _<=(if σ.bY _=1 then σ.used-1 else σ.used) +1;split<;>omega) eL,r2,by have:g5.next+7<=g6.next:=gS.next;omega⟩;show(if σ.bY _=1 then σ.used-1 else σ.used)<=σ.used;split<;>omega
  ·have aJ:=aJ.resolve_left (by decide);have aD:=bm rfl;have ik:=k.inv.jy ag (gZ aD);have hk:=k2 ik;have kh:=k.inv.here x p ag aD;have sY:=k.inv.zK ag aD (Int.le_refl 0);have s3:=λy aq=>k.inv.pv ag aD (y:=y) aq
   have b6:=k.Cb (λf=>by show(0:Int)<=16;omega) kh;have fA:(((x.T.ent p).n.toNat:Nat) :Int)=(x.T.ent p).n:=by have:=hk.1;omega
   have cf:bf g2 (g2.aB 11):=aM.aB _ _ _;have b3:=b_.ext cf;have oj:=b3.sys.field.1;rw[dd]at oj;simp only[dn,ar,ba];rw[if_neg (by decide),if_neg (by decide),if_neg (by decide),if_pos (by decide)];simp only[cl,k7,Nat.zero_add,ar,ha,dd,oj,fp];rw[<-fA];refine b4 (am_ b3.sys.core.ps.p b3.nW (by omega) (f:=(x.T.ent p).n.toNat) (by rw[k.ef.n];exact kh) (by omega)) ?_;rintro _ g4 ⟨fr,f1,f2,rfl,tn,bO⟩;rw[k.ef.n]at f1;have ns:=k.inv.uf (λf=>Int.le_refl 0) f1 f2;have c':fr≠(x.T.ent p).n.toNat:=λe=>by rw[<-e]at sY;omega
   have fq:c2 ρ (g2.aB 11) g4:=c2.of bO λi _ e=>by have:=k.sys.core.mv e;omega
   have gh:=b3.sys.core.m1 tn bO;have i1:=k.inv.fill (σ.mem (x.T.ent p).n.toNat) ns.1 ns.2.2
   have i2:=i1.held (f:=fr) f1 1 (σ.free-1) (λg=>0+(decide (g=fr)).toNat) ns.2.2 (by
    have:refs {σ with mem:=az σ.mem fr (σ.mem (x.T.ent p).n.toNat)} fr=refs σ fr:=rfl
    rw[this,ns.1];simp) (λg aN=>by simp[aN]) (by
    show σ.free-1+(decide (σ.held fr=0)).toNat=σ.free+(decide (1=0)).toNat;rw[decide_eq_true f2];show σ.free-1+1=σ.free+0
    omega)
   have c7:Good g4 X c ρ {σ with mem:=az σ.mem fr (σ.mem (x.T.ent p).n.toNat),held:=az σ.held fr 1,free:=σ.free-1} (λg=>0+(decide (g=fr)).toNat) (λ_=>0):=⟨b3.sys.own gh rfl fq (λ_ _=>rfl),i2,k.ef,k.sec,k.iN⟩;have iX:=fq.c0 (iq.ext cf (by omega)) (by show h.next<g2.next+11;omega) h';have tj:=fq.c0 (cE.ext cf (by omega)) (by show g1.next<g2.next+11;omega) Dn;have zT:g2.next+11<=g4.next:=bO.next;have vf:bf g4 (g4.aB 7):=aM.aB _ _ _;have GC:=c7.ext vf;have VG:=GC.sys.field.1;rw[dd]at VG;have anC:bP g4 g1.next 4=some (.int .i64 (x.T.ent p).n):=tj.rd 4;simp only[adO,ar,eh,cl,k7,ha,dd,VG,l0,Nat.zero_add,cW,anC];rw[<-fA];have hu:az σ.held fr 1 (x.T.ent p).n.toNat=σ.held (x.T.ent p).n.toNat:=eE _ _ c'.symm;obtain⟨g5,fJ,gf,dQ⟩:=aiO GC (n:=(x.T.ent p).n.toNat) kh (by show az σ.held fr 1 _≠0;rw[hu];omega) s3 (by show az σ.held fr 1 _<_;rw[hu];omega);rw[fJ];simp only[c3,eh];have nF:=gf.c0 (iX.ext vf (by omega)) (by show h.next<g4.next+7;omega) h';have w:bX ρ h g5:=(((bX.ext (ρ:=ρ) (kF.trans cf)).trans (bX.own fq) (λ_ _=>rfl)).trans (bX.ext (ρ:=ρ) vf) (λ_ _=>rfl)).trans (bX.own gf) (λ_ _=>rfl);refine aV.pure ⟨rfl,6,fr,_,_,_,_,rfl,anQ k ag an aD w f1 f2 ns.1 ns.2.2 ?_ ?_ dQ,nF,by have:g4.next+7<=g5.next:=gf.next;omega⟩
   ·show σ.free<=(if az σ.held fr 1 _=1 then σ.free-1+1 else σ.free-1) +1;split<;>omega
   ·show az (az σ.held fr 1) _ _ fr≠0;rw[eE _ _ c',e4];decide
  ·obtain⟨aD,hle⟩:=cr rfl;have hk:=k2 (k.inv.jy ag (gZ aD));have fA:(((x.T.ent p).n.toNat:Nat) :Int)=(x.T.ent p).n:=by have:=hk.1;omega
   simp only[dn,ar,ba];rw[if_neg (by decide),if_neg (by decide),if_neg (by decide),if_neg (by decide)];exact aV.pure ⟨rfl,7,(x.T.ent p).n.toNat,_,_,_,_,by rw[fA],anR k ag an aD hle kF,iq,by omega⟩
 ·rintro _ _ g7 ⟨rfl,st,n,aX,dy,d1,aG,rfl,rd,fj,Lc⟩;have cf:bf g7 (g7.aB 10):=aM.aB _ _ _;have agy:=rd.u.next;have iJ:x∈aX.au:=by rw[rd.au];exact ag
  have Ae:=((rd.nm.ext cf).sys.au x iJ).field.2;rw[dd]at Ae;have MT:=fj.ext cf Lc;simp only[bz,bp,jd,cl,qX,Nat.zero_add,ar,m4,dd,Ae];rw[lz MT (by simp[aU.vs])];simp only[ar];rw[show List.take 6 (List.drop 0 r.vs)=r.vs from rfl];refine b4 (adZ (g7.aB 10) r st n) ?_;rintro _ g8 ⟨rfl,u8⟩;have ia:=cf.trans u8;refine b4 (anS rd aA aI an uj (aJ.symm.imp id λh=>(k.inv.jl x ag).own p (gZ (cr h).1)) ia) ?_;rintro v g9 ⟨iz,aR,pL,oL⟩;simp only[eh];have U9:=((rd.nm.ext ia).sys.au x iJ).field.2;rw[ze (by first|exact U9|(rw[m4];exact U9)),eh];exact aV.pure ⟨iz,aR,dy,rd.ro,pL,oL⟩
end
end
section
variable{PV:cn} [cN PV]
theorem eZ.len:∀{l:List aU} {a b:Int},eZ a l b->(∀r,r∈l->r.may=true)->a+l.length<=b
 |[],a,b,h,_=>by have:=eZ.le h;simpa using this
 |r::l,a,b,h,hm=>by obtain⟨c,h1,ab⟩:=eZ.split (l:=[r]) (m:=l) h;have al:=eZ.mem h1 (r:=r) (by simp);have aE:=nE (hm r (by simp));have aL:=eZ.len ab (λx ag=>hm x (by simp[ag]));rw[List.length_cons];omega
theorem nd.len{L:List aU}(h:nd L) :L.length<=4096:=by have:=eZ.len h.N6 h.may;omega
abbrev so:=aU->Bool->bj->Int->Int
structure PH(dec:so) :Prop where
 no:∀r s n,dec r false s n=2
 d1:∀r s n,dec r true s n=1->s.here=true
 d3:∀r s n,dec r true s n=3->s.out=false/\s.here=false/\r.kind=1
 d4:∀r s n,dec r true s n=4->s.out=false/\s.here=false/\r.kind≠1
 d5:∀r s n,dec r true s n=5->s.out=true
 d6:∀r s n,dec r true s n=6->s.here=true
 d7:∀r s n,dec r true s n=7->s.here=true/\n<=1
 all:∀r b s n,dec r b s n=1\/dec r b s n=2\/dec r b s n=3\/dec r b s n=4\/dec r b s n=5\/dec r b s n=6\/dec r b s n=7
def c_(dec:so)(σ:b8)(x:bH)(p:Nat) :Int:=dec ((cv x.L p).getD aU.zero) (cv x.L p).isSome (x.T.ent p) (my σ (x.T.ent p))
def o_(dec:so)(L:List aU)(p:Nat) :Prop:=∃r s n,cv L p=some r/\dec r true s n≠2
inductive lD(c:df)(dec:so)(s p:Nat) :Nat->b8->b8->Prop
 |nil (σ:b8) :lD c dec s p 0 σ σ
 |idle {i:Nat} {σ aX b5:b8} :lD c dec s p i σ aX->aX.free<4->Inv c aX (λ_=>0) (λ_=>0)->Idle c aX b5->lD c dec s p i σ b5
 |make {i:Nat} {σ aX b5:b8} {x:bH} :lD c dec s p i σ aX->x∈aX.au->x.s=s->c_ dec aX x p≠1->c_ dec aX x p≠2->c_ dec aX x p≠7->aX.free<4->Inv c aX (λ_=>0) (λ_=>0)->Made c aX b5 true->lD c dec s p (i+1) σ b5
 |BL {i:Nat} {σ aX b5:b8} {x:bH} {r:aU} :lD c dec s p i σ aX->Inv c aX (λ_=>0) (λ_=>0)->x∈aX.au->x.s=s->cv x.L p=some r->c_ dec aX x p≠1->c_ dec aX x p≠2->(c_ dec aX x p=7\/4<=aX.free)->Ez c x p r (c_ dec aX x p) aX b5->lD c dec s p (i+1) σ b5
theorem aaE{c:df}{σ aR:b8}(ai:view c aR=view c σ){x:bH}(ag:x∈σ.au) :∃cG,cG∈aR.au/\cG.s=x.s/\cG.L=x.L/\cont c aR cG=cont c σ x:=by have h1:(x.s,x.L,cont c σ x)∈view c σ:=List.mem_map.2 ⟨x,ag,rfl⟩;rw[<-ai]at h1;obtain⟨cG,ab,al⟩:=List.mem_map.1 h1;simp only[Prod.mk.injEq]at al;exact⟨cG,ab,al.1,al.2.1,al.2.2⟩
section
variable{h g:ae}{X:ew}{c:df}{ρ bD:Nat->Nat}{σ aR:b8}{d e:Nat->Int}
theorem acK{dec:so}(xD:PH dec)(k:Good h X c ρ σ (λ_=>0) (λ_=>0)){x:bH}(ag:x∈σ.au){p:Nat}{a2 a3:aa}
  (fz:∀g,(∀id l,a8.Obj h id l->id<h.next->ρ id=0->a8.Obj g id l)->h.next<=g.next->∀r there s sh,bh (call J PV a3 [.agg (aU.vs r),.bool there,bj.eo s,.int .i64 sh] g) λv cw=>v=.int .i64 (dec r there s sh)/\bf g cw) :
  bh (call J PV (.func 87 [] []) [.ptr x.s 0,.int .i64 p,a2,a3] h) λv g=>bX ρ h g/\∃i aR bD cG,(∀i,i<h.next->bD i=ρ i)/\Good g X c bD aR (λ_=>0) (λ_=>0)/\lD c dec x.s p i σ aR/\i<=200/\cG∈aR.au/\cG.s=x.s/\cG.L=x.L/\view c aR=view c σ/\
   ((v=.tuple [.int .i64 0,.int .i64 19]/\c_ dec aR cG p=2)\/
    (v=.tuple [.int .i64 (cG.T.ent p).n,.int .i64 0]/\c_ dec aR cG p=1/\cv x.L p≠none)\/
    (v=.tuple [.int .i64 0,.int .i64 18]/\o_ dec x.L p/\(i=200\/aR.free<4/\pa c aR/\c_ dec aR cG p≠1/\c_ dec aR cG p≠2/\c_ dec aR cG p≠7))):=by
 refine bh.mk (λe=>aku (first:=[]) (cap:=[]) e rfl) ?_;unfold Rn
 refine hX (n:=14) (I:=λi vs g=>vs=[.int .i64 0,.int .i64 0,.int .i64 (i:Nat)]/\i<=200/\bX ρ h g/\∃aR bD cG,(∀i,i<h.next->bD i=ρ i)/\Good g X c bD aR (λ_=>0) (λ_=>0)/\(lD c dec x.s p i σ aR/\(0<i->o_ dec x.L p))/\cG∈aR.au/\cG.s=x.s/\cG.L=x.L/\view c aR=view c σ) (m:=200)
  (P:=λy vs g=>bX ρ h g/\∃i aR bD cG,(∀i,i<h.next->bD i=ρ i)/\Good g X c bD aR (λ_=>0) (λ_=>0)/\(lD c dec x.s p i σ aR/\(0<i->o_ dec x.L p))/\i<=200/\cG∈aR.au/\cG.s=x.s/\cG.L=x.L/\view c aR=view c σ/\
    ((y=.exit 0/\i=200/\vs.length=3)\/(y=.ret/\∃a b d,vs=[a,b,d]/\
    ((a=.int .i64 0/\b=.int .i64 19/\c_ dec aR cG p=2)\/
     (a=.int .i64 (cG.T.ent p).n/\b=.int .i64 0/\c_ dec aR cG p=1/\cv x.L p≠none)\/
     (a=.int .i64 0/\b=.int .i64 18/\o_ dec x.L p/\(aR.free<4/\pa c aR/\c_ dec aR cG p≠1/\c_ dec aR cG p≠2/\c_ dec aR cG p≠7)))))) (by decide) ⟨rfl,by omega,bX.ext (aM.refl _ _),σ,ρ,x,λ_ _=>rfl,k,⟨.nil σ,λh=>absurd h (by omega)⟩,ag,rfl,rfl,rfl⟩ ?_ ?_
 ·rintro i _ h1 af ⟨rfl,rK,bb,aX,dy,bU,h',bk,dS,iJ,iW,sN,iH⟩;simp only[bz,bp,dk,ar,ba];by_cases ci:(i:Int) <200
  ·rw[if_pos (by simpa using ci)];have tr:=bk.sys.au bU iJ;have xq:=tr.field;obtain⟨hT,ol,iY,lU⟩:=tr.str;rw[iW]at ol xq;have eK:=bk.inv.hJ bU iJ;have Cn:=eK.len;have aG:b0 .i64 ((i:Int) +1)=((i+1:Nat) :Int):=by rw[wrap_i64 (by omega) (by omega)];omega
   refine fO (P:=λy vs g=>bX ρ h g/\((y=.normal/\vs=[.int .i64 0,.int .i64 0]/\∃aR bD cG,(∀i,i<h.next->bD i=ρ i)/\Good g X c bD aR (λ_=>0) (λ_=>0)/\(lD c dec x.s p (i+1) σ aR/\(0<i+1->o_ dec x.L p))/\cG∈aR.au/\cG.s=x.s/\cG.L=x.L/\view c aR=view c σ)\/
     (y=.ret/\∃i aR bD cG,(∀i,i<h.next->bD i=ρ i)/\Good g X c bD aR (λ_=>0) (λ_=>0)/\(lD c dec x.s p i σ aR/\(0<i->o_ dec x.L p))/\i<=200/\cG∈aR.au/\cG.s=x.s/\cG.L=x.L/\view c aR=view c σ/\∃a b,vs=[a,b]/\((a=.int .i64 0/\b=.int .i64 19/\c_ dec aR cG p=2)\/
    (a=.int .i64 (cG.T.ent p).n/\b=.int .i64 0/\c_ dec aR cG p=1/\cv x.L p≠none)\/
    (a=.int .i64 0/\b=.int .i64 18/\o_ dec x.L p/\(aR.free<4/\pa c aR/\c_ dec aR cG p≠1/\c_ dec aR cG p≠2/\c_ dec aR cG p≠7)))))) ?_ ?_
   ·simp only[cl,Oh,Nat.zero_add,ar,u7,Obj.get ol (i:=2) rfl];refine b4 (ad' iY (by omega) p) ?_;rintro _ al ⟨rfl,bR⟩;simp only[adO,ar];refine cM AY λg4 dG hU bO=> ?_
    refine cX (yH (k:=0) (cs:=((cv bU.L p).getD aU.zero).vs) dG rfl (by simp[aU.vs]) rfl) λg5 ⟨eH,cD,n5⟩=> ?_
    have eH:=ff eH rfl;have ve:bf al g5:=bO.local cD (λj aO e=>by omega);have D1:=bR.trans ve;have dQ:=bk.ext D1;have f5:=(dQ.sys.au bU iJ).field;rw[iW]at f5;simp only[cl,qX,Nat.zero_add,ar,m4,f5.2];refine b4 (Yt dQ.ps (dQ.ly iJ) p) ?_;rintro _ g6 ⟨rfl,cJ⟩;simp only[adO,ar];refine cM u5 λg7 fj n7 fk=> ?_
    refine cX (q1 (k:=0) (cs:=(bU.T.ent p).vs) fj rfl (by simp[bj.vs]) rfl) λg8 ⟨iM,u8,n8⟩=> ?_
    have iM:=ff iM rfl;have w3:bf g6 g8:=fk.local u8 (λj aO e=>by omega);have cf:bf g8 (g8.aB 9):=aM.aB _ _ _;have s0:=bR.next;have F4:=cJ.next;have MS:=((eH.ext cJ (by omega)).ext w3 (by omega));have Wb:=MS.ext cf (by omega);have Wg:=iM.ext cf (by omega);rw[lz Wb (by simp[aU.vs]),yE Wg (by simp[bj.vs])];simp only[ar];rw[show List.take 6 (List.drop 0 ((cv bU.L p).getD aU.zero).vs)=((cv bU.L p).getD aU.zero).vs from rfl,show aa.agg (List.take 5 (List.drop 0 (bU.T.ent p).vs))=(bU.T.ent p).eo from rfl];have aao:=((D1.trans cJ).trans w3).trans cf;have pK:=bk.ext aao;have xU:=aoS pK.sys iJ (bU.T.ent p) (λaD=>⟨(k2 (bk.inv.jy iJ (gZ aD))).1,by rw[bk.ef.n];exact bk.inv.here bU p iJ aD⟩) (λbg=>⟨(k2 (bk.inv.jy iJ (wE bg))).1,by rw[bk.ef.c1];exact bk.inv.out bU p iJ bg⟩);rw[iW]at xU;refine b4 xU ?_;rintro _ g9 ⟨rfl,gy⟩;have aap:=aao.trans gy;have iz:bX ρ h g9:=bb.trans (bX.ext (ρ:=dy) aap) h';refine b4 (fz g9 (λid l o ay an=>iz.c0 o ay an) iz.next _ _ _ _) ?_;rintro _ g10 ⟨rfl,iw⟩;have aan:=aap.trans iw;have k0:=bk.ext aan;have fN:bX ρ h g10:=bb.trans (bX.ext (ρ:=dy) aan) h';have n9:=gy.next;have n10:=iw.next;have agA:(g8.aB 9).next=g8.next+9:=rfl
    have Wc:=Wb.ext gy (by omega);have Wf:=Wg.ext gy (by omega);have Wa:=Wc.ext iw (by omega);have We:=Wf.ext iw (by omega);simp only[eh];rw[ze (by rw[yE Wf (by simp[bj.vs])];rfl),eh,ze (by rw[lz Wc (by simp[aU.vs])];rfl),eh];have afC:dec ((cv bU.L p).getD aU.zero) (cv bU.L p).isSome (bU.T.ent p) (my aX (bU.T.ent p))=c_ dec aX bU p:=rfl;rw[afC];have hD:c_ dec aX bU p=1\/c_ dec aX bU p=2\/c_ dec aX bU p=3\/c_ dec aX bU p=4\/c_ dec aX bU p=5\/c_ dec aX bU p=6\/c_ dec aX bU p=7:=xD.all _ _ _ _;have TU:c_ dec aX bU p≠2->∃r,cv bU.L p=some r/\c_ dec aX bU p=dec r true (bU.T.ent p) (my aX (bU.T.ent p)):=λc'=>by
     cases an:cv bU.L p with
     |none=>exact absurd (by unfold c_;rw[an];exact xD.no _ _ _) c'
     |some r=>exact⟨r,rfl,by unfold c_;rw[an];rfl⟩
    generalize ai:c_ dec aX bU p=v at hD TU;simp only[dn,ar,ba];by_cases cp:v=2
    ·rw[if_pos (by simpa using cp)];exact aV.pure ⟨fN,.inr ⟨rfl,i,aX,dy,bU,h',k0,dS,rK,iJ,iW,sN,iH,_,_,rfl,.inl ⟨rfl,rfl,by rw[ai];exact cp⟩⟩⟩
    rw[if_neg (by simpa using cp)];obtain⟨r,an,z6⟩:=TU cp;have ag0:cv x.L p≠none:=by rw[<-sN,an];simp
    have ku:o_ dec x.L p:=⟨r,_,_,sN▸an,λe=>cp (z6.trans e)⟩;by_cases bo:v=1
    ·rw[if_pos (by simpa using bo)];have fp:bP g10 g6.next 4=some (.int .i64 (bU.T.ent p).n):=We.rd 4;simp only[l0,Nat.zero_add,cW,fp,ar];exact aV.pure ⟨fN,.inr ⟨rfl,i,aX,dy,bU,h',k0,dS,rK,iJ,iW,sN,iH,_,_,rfl,.inr (.inl ⟨rfl,rfl,by rw[ai];exact bo,ag0⟩)⟩⟩
    rw[if_neg (by simpa using bo)];have Lt:(cv bU.L p).getD aU.zero=r:=by rw[an];rfl
    rw[Lt]at Wa;have Up:p<4096:=by have h1:=AF an;have ab:=nE (eK.may r h1.1);omega
    have uj:v=3\/v=4\/v=5\/v=6\/v=7:=by
     rcases hD with h|h|h
     ·exact absurd h bo
     ·exact absurd h cp
     ·exact h
    have sV:=Fi (λaP=>bk.inv.jy iJ aP) (s:=bU.T.ent p);have SL:(v=7\/4<=aX.free)->aV (U (ak J g10 47 (.ptr al.next 0)) λv44=>U (ak J g10 169 (.ptr g6.next 0)) λgI=>a7 (call J PV (.func 165 [] []) [.ptr x.s 0,v44,.int .i64 p,.int .i64 v,gI] g10) λv46 eX=>some (eb.normal,[aa.int .i64 0,.int .i64 0],eX)) λy vs g=>bX ρ h g/\((y=.normal/\vs=[.int .i64 0,.int .i64 0]/\∃aR bD cG,(∀i,i<h.next->bD i=ρ i)/\Good g X c bD aR (λ_=>0) (λ_=>0)/\(lD c dec x.s p (i+1) σ aR/\(0<i+1->o_ dec x.L p))/\cG∈aR.au/\cG.s=x.s/\cG.L=x.L/\view c aR=view c σ)\/(y=.ret/\∃i aR bD cG,(∀i,i<h.next->bD i=ρ i)/\Good g X c bD aR (λ_=>0) (λ_=>0)/\(lD c dec x.s p i σ aR/\(0<i->o_ dec x.L p))/\i<=200/\cG∈aR.au/\cG.s=x.s/\cG.L=x.L/\view c aR=view c σ/\∃a b,vs=[a,b]/\((a=.int .i64 0/\b=.int .i64 19/\c_ dec aR cG p=2)\/(a=.int .i64 (cG.T.ent p).n/\b=.int .i64 0/\c_ dec aR cG p=1/\cv x.L p≠none)\/(a=.int .i64 0/\b=.int .i64 18/\o_ dec x.L p/\(aR.free<4/\pa c aR/\c_ dec aR cG p≠1/\c_ dec aR cG p≠2/\c_ dec aR cG p≠7))))):=λaJ=>by
     rw[lz Wa (by simp[aU.vs])];simp only[ar];rw[yE We (by simp[bj.vs])];simp only[ar];rw[show List.take 6 (List.drop 0 r.vs)=r.vs from rfl,show aa.agg (List.take 5 (List.drop 0 (bU.T.ent p).vs))=(bU.T.ent p).eo from rfl]
     have sT:=ade k0 iJ Up an (act:=v) (λe=>by have:=xD.d3 r _ _ (z6.symm.trans e);exact⟨sV this.1 this.2.1,this.2.2⟩) (λe=>by have:=xD.d4 r _ _ (z6.symm.trans e);exact⟨sV this.1 this.2.1,this.2.2⟩)
      (λe=>xD.d5 r _ _ (z6.symm.trans e)) (λe=>xD.d6 r _ _ (z6.symm.trans e)) (λe=>by
        have:=xD.d7 r _ _ (z6.symm.trans e);refine⟨this.1,?_⟩;have ab:=this.2;unfold my at ab;rw[if_pos this.1]at ab
        omega) uj aJ
     rw[iW]at sT;refine b4 sT ?_;rintro _ g14 ⟨kp,b5,ev,Dn,GB,oL⟩;obtain⟨eY,c5,dr,eu,_⟩:=aaE oL.view iJ;refine aV.pure ⟨fN.trans kp h',.inl ⟨rfl,rfl,b5,ev,eY,λj aO=>(Dn j (Nat.lt_of_lt_of_le aO fN.next)).trans (h' j aO),GB,⟨.BL dS.1 bk.inv iJ iW an (by rw[ai];exact bo) (by rw[ai];exact cp) (by rw[ai];exact aJ) (by rw[ai];exact oL),λ_=>ku⟩,c5,dr.trans iW,eu.trans sN,oL.view.trans iH⟩⟩
    simp only[dP,ar];by_cases oH:v=7
    ·rw[decide_eq_false (show¬(v≠7)from λh=>h oH)];simp only[cP,Bool.false_eq_true,if_false,c4,bz,bp,cF,ar,ba];exact SL (.inl oH)
    ·rw[decide_eq_true (show v≠7 from oH)];have f10:=(k0.sys.au bU iJ).field;rw[iW]at f10;simp only[cP,if_true,cl,qW,k7,ar,mA,ha,f10.1,k0.sys.field.1,zz k0.sys.core.ps.p,c3,dk,c4,bz,bp,cF,ba];by_cases gh:(aX.free:Int) <4
     ·rw[if_pos (by simpa using gh)];refine b4 (Mu k0) ?_;rintro _ g13 ⟨p_,b,b5,rfl,GA,md,aj⟩;simp only[fD,ar,ba];obtain⟨eY,c5,dr,eu,e2⟩:=aaE md.view iJ;cases b with
      |true=>
       rw[if_neg (by decide)];exact aV.pure ⟨fN.trans p_ h',.inl ⟨rfl,rfl,b5,dy,eY,h',GA,⟨.make dS.1 iJ iW (by rw[ai];exact bo) (by rw[ai];exact cp) (by rw[ai];exact oH) (by omega) bk.inv md,λ_=>ku⟩,c5,dr.trans iW,eu.trans sN,md.view.trans iH⟩⟩
      |false=>
       rw[if_pos (by decide)];obtain⟨uB,yz⟩:=aj rfl;have lP:bU∈b5.au:=by rw[uB.au];exact iJ
       have KR:c_ dec b5 bU p=v:=by rw[<-ai];unfold c_ my;rw[uB.held,uB.bY]
       refine aV.pure ⟨fN.trans p_ h',.inr ⟨rfl,i,b5,dy,bU,h',GA,?_,rK,lP,iW,sN,md.view.trans iH,_,_,rfl,.inr (.inr ⟨rfl,rfl,ku,by rw[uB.free];omega,yz,by rw[KR];exact bo,by rw[KR];exact cp,by rw[KR];exact oH⟩)⟩⟩;exact⟨.idle dS.1 (by omega) bk.inv uB,dS.2⟩
     ·rw[if_neg (by simpa using gh)];exact SL (.inr (by omega))
   ·rintro y vs g ⟨w,⟨rfl,rfl,aR,bD,cG,eA,gr,jO,h9,kD,r6,wJ⟩ |⟨rfl,j,aR,bD,cG,eA,gr,jO,Dg,h9,kD,r6,wJ,a,b,rfl,Ns⟩⟩
    ·simp only[bz,bp,jd,du,aG,ar];exact aV.pure (.inl ⟨rfl,by omega,rfl,by omega,w,aR,bD,cG,eA,gr,jO,h9,kD,r6,wJ⟩)
    ·simp only[bz,bp,J7];exact aV.pure (.inr ⟨by simp,w,j,aR,bD,cG,eA,gr,jO,Dg,h9,kD,r6,wJ,.inr ⟨rfl,a,b,_,rfl,Ns⟩⟩)
  ·rw[if_neg (by simpa using ci)];have:i=200:=by omega
   exact aV.pure (.inr ⟨by simp,bb,i,aX,dy,bU,h',bk,dS,rK,iJ,iW,sN,iH,.inl ⟨rfl,this,rfl⟩⟩)
 ·rintro y vs g ⟨w,i,aR,bD,cG,eA,gr,jO,Dg,h9,kD,r6,wJ,⟨rfl,rfl,ay⟩ |⟨rfl,a,b,d,rfl,Ns⟩⟩
  ·obtain⟨v1,v2,v3,rfl⟩ :∃v1 v2 v3,vs=[v1,v2,v3]:=by
    match vs,ay with
    |[a,b,c],_=>exact⟨a,b,c,rfl⟩
   simp only[bz,bp,hs,if_true];exact aV.pure ⟨w,200,aR,bD,cG,eA,gr,jO.1,by omega,h9,kD,r6,wJ,.inr (.inr ⟨rfl,jO.2 (by decide),.inl rfl⟩)⟩
  ·simp only[bz,bp,pj];refine aV.pure ⟨w,i,aR,bD,cG,eA,gr,jO.1,Dg,h9,kD,r6,wJ,?_⟩;rcases Ns with⟨rfl,rfl,q⟩ |⟨rfl,rfl,q⟩ |⟨rfl,rfl,q⟩
   ·exact .inl ⟨rfl,q⟩
   ·exact .inr (.inl ⟨rfl,q⟩)
   ·exact .inr (.inr ⟨rfl,q.1,.inr q.2⟩)
end
end
section
variable{PV:cn} [cN PV]
def dD(use:Int) :so:=λr b s n=>jt r b s use n
theorem vM(use:Int) :PH (dD use)where
 no:=λr s n=>by unfold dD jt;rw[if_pos (.inl rfl)]
 d1:=λr s n h=>by
  unfold dD jt at h;cases aD:s.here with
  |true=>rfl
  |false=>rw[aD]at h;split at h<;>(try split at h)<;>(try split at h)<;>(try split at h)<;>simp_all
 d3:=λr s n h=>by
  unfold dD jt at h;split at h
  ·cases h
  split at h
  ·cases h
  rename_i bg;split at h
  ·rename_i aD;split at h
   ·rename_i av;exact⟨by simpa using bg,aD,av⟩
   ·cases h
  split at h
  ·cases h
  split at h<;>cases h
 d4:=λr s n h=>by
  unfold dD jt at h;split at h
  ·cases h
  split at h
  ·cases h
  rename_i bg;split at h
  ·rename_i aD;split at h
   ·cases h
   ·rename_i av;exact⟨by simpa using bg,aD,av⟩
  split at h
  ·cases h
  split at h<;>cases h
 d5:=λr s n h=>by
  unfold dD jt at h;split at h
  ·cases h
  split at h
  ·assumption
  split at h
  ·split at h<;>cases h
  split at h
  ·cases h
  split at h<;>cases h
 d6:=λr s n h=>by
  unfold dD jt at h;split at h
  ·cases h
  split at h
  ·cases h
  split at h
  ·split at h<;>cases h
  rename_i aD;simpa using aD
 d7:=λr s n h=>by
  unfold dD jt at h;split at h
  ·cases h
  split at h
  ·cases h
  split at h
  ·split at h<;>cases h
  rename_i aD;split at h
  ·cases h
  split at h
  ·rename_i aH;exact⟨by simpa using aD,aH.2⟩
  ·cases h
 all:=λr b s n=>by
  unfold dD jt;split
  ·simp
  split
  ·simp
  split
  ·split<;>simp
  split
  ·simp
  split<;>simp
theorem ac7{r:aU}{s:bj}{n:Int}{b:Bool}(h:dD 2 r b s n=1) :s.write=true/\s.here=true:=by
 unfold dD jt at h;split at h
 ·cases h
 split at h
 ·cases h
 split at h
 ·split at h<;>cases h
 rename_i aD;split at h
 ·rename_i aH;rcases aH with aH|aH
  ·exact absurd rfl aH
  ·exact⟨aH,by simpa using aD⟩
 split at h<;>cases h
section
variable{h g:ae}{X:ew}{c:df}{ρ bD:Nat->Nat}{σ aR:b8}{d e:Nat->Int}
theorem aqU(g:ae){eV:Nat}{use:Int}(ob:a8.Obj g eV [.int .i64 use])(aj:eV<g.next)(r:aU)(there:Bool)(s:bj)(sh:Int) :bh (call J PV (.func 88 [] [.ptr eV 0]) [.agg r.vs,.bool there,s.eo,.int .i64 sh] g) λv cw=>v=.int .i64 (dD use r there s sh)/\bf g cw:=by
 refine bh.mk (λe=>akv (first:=[]) (mid:=[_,_,_,_]) (cap:=[_]) e rfl) ?_;unfold Ro;refine cM (r' (cs:=r.vs) rfl) λg1 ct dR bb=> ?_
 refine cM (u6 (cs:=s.vs) rfl) λg2 cE eN bn=> ?_
 have iq:=ct.ext bn (by omega);have Ap:=(ob.ext bb aj).ext bn (by omega);rw[lz iq (by simp[aU.vs])];simp only[ar];rw[yE cE (by simp[bj.vs])];simp only[ar,cW,Obj.get Ap (i:=0) rfl];rw[show List.take 6 (List.drop 0 r.vs)=r.vs from rfl,show aa.agg (List.take 5 (List.drop 0 s.vs))=s.eo from rfl];refine b4 (ac8 g2 r there s use sh) ?_;rintro _ g3 ⟨rfl,bR⟩;exact aV.pure ⟨rfl,(bb.trans bn).trans bR⟩
theorem ann(k:Good h X c ρ σ (λ_=>0) (λ_=>0)){x:bH}(ag:x∈σ.au){p:Nat}(aD:(x.T.ent p).here=true)(gj:h7 (x.T.ent p)=false)(Ly:refs σ (x.T.ent p).n.toNat=1){o b:Nat}(bg:o<64)(aj:b<256) :
  bh (call J PV (.func 90 [] []) [.ptr x.s 0,.int .i64 (x.T.ent p).n,.int .i64 o,.int .u8 b] h) λv g=>bX ρ h g/\Good g X c ρ {σ with mem:=az σ.mem (x.T.ent p).n.toNat (e8 (σ.mem (x.T.ent p).n.toNat) o 1 b)} (λ_=>0) (λ_=>0)/\
   (∀y q,y∈σ.au->(y≠x\/q≠p)->cont c {σ with mem:=az σ.mem (x.T.ent p).n.toNat (e8 (σ.mem (x.T.ent p).n.toNat) o 1 b)} y q=cont c σ y q):=by
 refine bh.mk (λe=>akx (first:=[]) (cap:=[]) e rfl) ?_;unfold Rq;have hk:=k2 (k.inv.jy ag (gZ aD));have kh:=k.inv.here x p ag aD;have sY:=k.inv.zK ag aD (Int.le_refl 0);have fA:(((x.T.ent p).n.toNat:Nat) :Int)=(x.T.ent p).n:=by have:=hk.1;omega
 obtain⟨a,dK,aA⟩:=List.append_of_mem ag;have ea:=k.inv.store aA (p:=p) (e8 (σ.mem (x.T.ent p).n.toNat) o 1 b) aD gj Ly;have KN:gB J h 5 67 (.int .u8 b)=some (.int .u64 b):=by
  have e:gB J h 5 67 (.int .u8 b)=some (.int .u64 (b0 .u64 b)):=by kernel_rfl
  rw[e,wrap_u64 (by omega) (by omega)]
 simp only[cl,qW,k7,ar,mA,ha,(k.sys.au x ag).field.1,k.sys.field.1,KN];have ji:=k.ps.ji;obtain⟨g,aG,g',bb⟩:=X' k.ps.w k.ps.p ji.2.1 (k:=1) (.inl rfl) (f:=(x.T.ent p).n.toNat) (by rw[k.ef.n];exact kh) (by omega) (at':=o) (by show o+1<=64;omega) (bits:=b) (by omega);rw[fA]at aG;rw[show(aa.int .i64 1)=.int .i64 ((1:Nat) :Int)from rfl,aG];have Ln:cB b 0 (di 1)=b:=by show b/2^(8*0) %2^(8*1)=b;simp;omega
 rw[Ln]at g';have e3:=k.sys.core.e3;have w:c2 ρ h g:=c2.of bb λi _ e=>by subst e;omega
 have nB:=k.sys.core.m1 g' (bb.mono λi _ e=>.inl e);simp only[c3];refine aV.pure ⟨bX.own w,⟨k.sys.own nB rfl w (λ_ _=>rfl),ea.1,k.ef,k.sec,k.iN⟩,λy q aq c'=> ?_⟩;by_cases z7:y∈a++dK
 ·exact ea.2.1 y q z7
 ·rw[aA]at aq;rcases fe.1 aq with rfl|aq
  ·exact ea.2.2.1 q (c'.resolve_left λh=>h rfl)
  ·exact absurd aq z7
theorem ank(k:Good h X c ρ σ (λ_=>0) (λ_=>0)){x:bH}(ag:x∈σ.au){p:Nat}(aD:(x.T.ent p).here=true)(hw:(x.T.ent p).write=true){o b:Nat}(bg:o<64)(aj:b<256) :
  bh (call J PV (.func 90 [] []) [.ptr x.s 0,.int .i64 (x.T.ent p).n,.int .i64 o,.int .u8 b] h) λv g=>bX ρ h g/\Good g X c ρ {σ with mem:=az σ.mem (x.T.ent p).n.toNat (e8 (σ.mem (x.T.ent p).n.toNat) o 1 b)} (λ_=>0) (λ_=>0)/\
   (∀y q,y∈σ.au->(y≠x\/q≠p)->cont c {σ with mem:=az σ.mem (x.T.ent p).n.toNat (e8 (σ.mem (x.T.ent p).n.toNat) o 1 b)} y q=cont c σ y q):=
 ann k ag aD (by simp[h7,hw]) (k.inv.write x p ag aD hw) bg aj
end
end
section
variable{PV:cn} [cN PV]
section
variable{h g:ae}{X:ew}{c:df}{ρ bD:Nat->Nat}{σ aR:b8}{d e:Nat->Int}
theorem SB{x:bH}{p:Nat}{r:aU}(an:cv x.L p=some r)(aD:(x.T.ent p).here=true) :cont c σ x p=some (σ.mem (x.T.ent p).n.toNat):=by unfold cont;rw[an];simp only[aD,if_true]
structure Used(h:ae)(X:ew)(c:df)(ρ:Nat->Nat)(σ:b8)(x:bH)(p:Nat)(dec:so)(g:ae)(i:Nat)(aX:b8)(bU:bH)(dy:Nat->Nat) :Prop where
 ro:∀i,i<h.next->dy i=ρ i
 dS:lD c dec x.s p i σ aX
 le:i<=200
 mem:bU∈aX.au
 s:bU.s=x.s
 L:bU.L=x.L
 view:view c aX=view c σ
theorem aaz(k:Good h X c ρ σ (λ_=>0) (λ_=>0)){x:bH}(ag:x∈σ.au){addr:Nat}(bc:addr<9223372036854775808)(use:Int){b:Nat}(aj:b<256) :
  bh (call J PV (.func 33 [] []) [.ptr x.s 0,.int .i64 addr,.int .i64 use,.int .u8 b] h) λv g=>bX ρ h g/\∃i aX bU dy,Used h X c ρ σ x (addr/64) (dD use) g i aX bU dy/\
   ((v=.tuple [.int .u8 0,.int .i64 19]/\c_ (dD use) aX bU (addr/64)=2/\Good g X c dy aX (λ_=>0) (λ_=>0))\/
    (v=.tuple [.int .u8 0,.int .i64 18]/\o_ (dD use) x.L (addr/64)/\(i=200\/aX.free<4/\pa c aX/\c_ (dD use) aX bU (addr/64)≠1/\c_ (dD use) aX bU (addr/64)≠2/\c_ (dD use) aX bU (addr/64)≠7)/\Good g X c dy aX (λ_=>0) (λ_=>0))\/
    (c_ (dD use) aX bU (addr/64)=1/\∃m b5,cont c aX bU (addr/64)=some m/\Good g X c dy b5 (λ_=>0) (λ_=>0)/\b5.au=aX.au/\b5.free=aX.free/\b5.ring=aX.ring/\b5.used=aX.used/\
      (∀y q,y∈aX.au->(y≠bU\/q≠addr/64)->cont c b5 y q=cont c aX y q)/\cont c b5 bU (addr/64)=some (if use=2 then e8 m (addr%64) 1 b else m)/\
      v=.tuple [.int .u8 (cB (if use=2 then e8 m (addr%64) 1 b else m) (addr%64) 1:Nat),.int .i64 0])):=by
 refine bh.mk (λe=>akb (first:=[]) (cap:=[]) e rfl) ?_;unfold Q5;refine cM (yC (cs:=[.int .i64 use]) rfl) λg1 ct dR bb=> ?_
 have bk:=k.ext bb;have h':ρ h.next=0:=k.fresh (Nat.le_refl _);have fm:¬(addr:Int) <0:=by omega
 have aG:b0 .i64 ((addr:Int).tdiv 64)=((addr/64:Nat) :Int):=by rw[show(addr:Int).tdiv 64=((addr/64:Nat) :Int)from rfl,wrap_i64 (by omega) (by omega)]
 have aT:(addr:Int).tmod 64=((addr%64:Nat) :Int):=rfl;simp only[HD (bk.sys.au x ag),c3,dP,ar,ba];rw[if_neg (by decide)];simp only[dk,ar,ba];rw[if_neg (by simp)];simp only[vF .i64 (show(64:Int)≠0 by decide),aG,ar,cW,Obj.get ct (i:=0) rfl];refine b4 (acK (vM use) bk ag (p:=addr/64) (λg2 av aw r there s sh=>aqU g2 (av _ _ ct (by omega) h') (by omega) r there s sh)) ?_;rintro v g2 ⟨dT,i,aX,dy,bU,eA,b_,jO,Dg,h9,kD,r6,wJ,aH⟩;have w:bX ρ h g2:=(bX.ext (ρ:=ρ) bb).trans dT (λ_ _=>rfl);have us:Used h X c ρ σ x (addr/64) (dD use) g2 i aX bU dy:=⟨λj aO=>eA j (by omega),jO,Dg,h9,kD,r6,wJ⟩;have cE:=dT.c0 ct (by omega) h';have qz:=dT.next;rcases aH with⟨rfl,aC⟩ |⟨rfl,aC,oW⟩ |⟨rfl,aC⟩
 ·simp only[adO,ar,dP,ba];rw[if_pos (by decide)];exact aV.pure ⟨w,i,aX,bU,dy,us,.inl ⟨rfl,aC,b_⟩⟩
 ·simp only[adO,ar,dP,ba];rw[if_neg (by decide)];obtain⟨r,an⟩ :∃r,cv bU.L (addr/64:Nat)=some r:=by
   rw[r6];exact Option.ne_none_iff_exists'.1 oW
  have rD:dD use r true (bU.T.ent (addr/64)) (my aX (bU.T.ent (addr/64)))=1:=by have:=aC;unfold c_ at this;rw[an]at this;exact this
  have aD:=(vM use).d1 _ _ _ rD;have hk:=k2 (b_.inv.jy h9 (gZ aD));have fA:(((bU.T.ent (addr/64)).n.toNat:Nat) :Int)=(bU.T.ent (addr/64)).n:=by have:=hk.1;omega
  have kh:=b_.inv.here bU _ h9 aD;have sY:=b_.inv.zK h9 aD (Int.le_refl 0);have n2:=SB (c:=c) (σ:=aX) an aD;simp only[cW,Obj.get cE (i:=0) rfl,ar,dn,ba]
  have fin:∀(g3:ae) (b5:b8),bX ρ h g3->Good g3 X c dy b5 (λ_=>0) (λ_=>0)->b5.au=aX.au->b5.free=aX.free->b5.ring=aX.ring->b5.used=aX.used->(∀y q,y∈aX.au->(y≠bU\/q≠addr/64)->cont c b5 y q=cont c aX y q)->b5.held=aX.held->
    b5.mem (bU.T.ent (addr/64)).n.toNat=(if use=2 then e8 (aX.mem (bU.T.ent (addr/64)).n.toNat) (addr%64) 1 b else aX.mem (bU.T.ent (addr/64)).n.toNat)->
    aV (U (bB (.ptr x.s 0)) λch=>U (aQ J 161 ch 0) λcj=>U (ak J g3 42 cj) λcC=>U (bB cC) λcx=>U (aQ J 156 cx 0) λcL=>U (ak J g3 152 cL) λv20=>U (ax J g3 .rem 3 (.int .i64 addr) (.int .i64 64)) λv21=>a7 (call J PV (.func 91 [] []) [v20,.int .i64 (bU.T.ent (addr/64)).n,v21,(.int .i64 1)] g3) λv22 bm=>U (cm v22 0) λv23=>U (cm v22 1) λv24=>U (gB J bm 67 5 v23) λv25=>some (.ret,[v25,(.int .i64 0)],bm))
    λ_ vs g=>bX ρ h g/\∃i aX bU dy,Used h X c ρ σ x (addr/64) (dD use) g i aX bU dy/\
   ((kE vs=.tuple [.int .u8 0,.int .i64 19]/\c_ (dD use) aX bU (addr/64)=2/\Good g X c dy aX (λ_=>0) (λ_=>0))\/
    (kE vs=.tuple [.int .u8 0,.int .i64 18]/\o_ (dD use) x.L (addr/64)/\(i=200\/aX.free<4/\pa c aX/\c_ (dD use) aX bU (addr/64)≠1/\c_ (dD use) aX bU (addr/64)≠2/\c_ (dD use) aX bU (addr/64)≠7)/\Good g X c dy aX (λ_=>0) (λ_=>0))\/
    (c_ (dD use) aX bU (addr/64)=1/\∃m b5,cont c aX bU (addr/64)=some m/\Good g X c dy b5 (λ_=>0) (λ_=>0)/\b5.au=aX.au/\b5.free=aX.free/\b5.ring=aX.ring/\b5.used=aX.used/\
      (∀y q,y∈aX.au->(y≠bU\/q≠addr/64)->cont c b5 y q=cont c aX y q)/\cont c b5 bU (addr/64)=some (if use=2 then e8 m (addr%64) 1 b else m)/\
      kE vs=.tuple [.int .u8 (cB (if use=2 then e8 m (addr%64) 1 b else m) (addr%64) 1:Nat),.int .i64 0])):=by
   intro g3 b5 eJ b3 bJ e0 adq adr fJ kc vQ;have jS:bU∈b5.au:=by rw[bJ];exact h9
   have xq:=(b3.sys.au bU jS).field;rw[kD]at xq;simp only[cl,qW,k7,ar,mA,ha,xq.1,b3.sys.field.1,tR .i64 (show(64:Int)≠0 by decide),aT];obtain⟨g4,nU,bO⟩:=Vy b3.ps.w b3.ps.p ⟨b3.ps.ji.1,b3.ps.ji.2.1,b3.ps.ji.2.2⟩ (k:=1) (.inl rfl) (f:=(bU.T.ent (addr/64)).n.toNat) (by rw[b3.ef.n];exact kh) (by rw[kc];omega) (at':=addr%64) (by show addr%64+1<=64;omega);rw[fA]at nU;rw[show(aa.int .i64 1)=.int .i64 ((1:Nat) :Int)from rfl,nU];have b6:cB (b5.mem (bU.T.ent (addr/64)).n.toNat) (addr%64) (di 1) <256:=uO _ _ _;simp only[c3,adO,ar,SD];rw[wrap_u8 (by omega) (by omega)];refine aV.pure ⟨eJ.trans (bX.ext (ρ:=ρ) bO) (λ_ _=>rfl),i,aX,bU,dy,⟨us.ro,us.dS,us.le,us.mem,us.s,us.L,us.view⟩,.inr (.inr ⟨aC,_,b5,n2,b3.ext bO,bJ,e0,adq,adr,fJ,?_,?_⟩)⟩
   ·rw[SB (c:=c) (σ:=b5) an aD,vQ]
   ·rw[vQ];rfl
  by_cases tX:use=2
  ·rw[if_pos (by simpa using tX)];have ahz:=ac7 (by rw[tX]at rD;exact rD);simp only[tR .i64 (show(64:Int)≠0 by decide),aT,ar];have s5:=ank b_ h9 aD ahz.1 (o:=addr%64) (b:=b) (by omega) aj;rw[kD]at s5
   refine fO (P:=λy vs g=>y=.normal/\vs=[]/\bX dy g2 g/\Good g X c dy {aX with mem:=az aX.mem (bU.T.ent (addr/64)).n.toNat (e8 (aX.mem (bU.T.ent (addr/64)).n.toNat) (addr%64) 1 b)} (λ_=>0) (λ_=>0)/\
    (∀y q,y∈aX.au->(y≠bU\/q≠addr/64)->cont c {aX with mem:=az aX.mem (bU.T.ent (addr/64)).n.toNat (e8 (aX.mem (bU.T.ent (addr/64)).n.toNat) (addr%64) 1 b)} y q=cont c aX y q)) (b4 s5 λv g4 aF=>aV.pure ⟨rfl,rfl,aF.1,aF.2.1,aF.2.2⟩) ?_
   rintro _ _ g4 ⟨rfl,rfl,fq,c7,afl⟩;simp only[bp,jd];exact fin g4 _ (w.trans fq us.ro) c7 rfl rfl rfl rfl afl rfl (by rw[if_pos tX];exact e4 _ _ _)
  ·rw[if_neg (by simpa using tX)];simp only[c4,bp,jd];exact fin g2 aX w b_ rfl rfl rfl rfl (λ_ _ _ _=>rfl) rfl (by rw[if_neg tX])
 ·simp only[adO,ar,dP,ba];rw[if_pos (by decide)];exact aV.pure ⟨w,i,aX,bU,dy,us,.inr (.inl ⟨rfl,aC.1,aC.2,b_⟩)⟩
end
end
section
variable{PV:cn} [cN PV]
theorem abD(M t:Nat) :dY J 161 [(0,.ptr M 0),(1,.ptr t 0)]=some (.agg [.ptr M 0,.ptr t 0,.bI]):=by kernel_rfl
theorem ab4(a:Nat) :lg J 75 1 [(0,.ptr a 0)]=some (λid=>aa.slice id 0 1 1 1 true,.cells ([aa.ptr a 0] :List aa).length false [] (bu.ofList [.ptr a 0])):=by kernel_rfl
section
variable{h g:ae}{X:ew}{c:df}{ρ bD:Nat->Nat}{σ aR:b8}{d e:Nat->Int}
theorem Core.role(k:Core h X ρ σ)(an:∀i,ρ i≠0->bD i=ρ i)(ay:∀i,bD i≠0->i<h.next) :Core h X bD σ where
 ps:=k.ps
 jV:=k.jV
 hi:=k.hi
 fl:=k.fl
 dX:=by obtain⟨rv,hits,fills,o,v,ex,dO⟩:=k.dX.str;exact⟨⟨rv,hits,fills,o,v,ex,λb aj=>by rw[an b (by rw[dO b aj];decide)];exact dO b aj⟩,k.dX.map,λy aq=>⟨(k.dX.fx y aq).1,by have:=(k.dX.fx y aq).2;rw[an _ (by omega)];exact this⟩,k.dX.keys,k.dX.nj,k.dX.db⟩
 e3:=by have:=k.e3;rw[an _ (by omega),an _ (by omega),an _ (by omega)];exact this
 f':=by have:=k.f';rw[an _ (by omega),an _ (by omega)];exact this
 ga:=by have:=k.ga;rw[an _ (by omega),an _ (by omega)];exact this
 gH:=by have:=k.gH;rw[an _ (by omega),an _ (by omega)];exact this
 r0:=by have:=k.r0;rw[an _ (by omega)];exact this
 eB:=⟨by have:=k.eB.1;rw[an _ (by omega)];exact this,λb aj=>by have:=k.eB.2.1 b aj;rw[an _ (by omega)];exact this,λn b aw aj=>by have:=k.eB.2.2 n b aw aj;rw[an _ (by omega)];exact this⟩
 lt:=ay
theorem rf.Xm{x:bH}(k:rf h X ρ x)(an:∀i,ρ i≠0->bD i=ρ i) :rf h X bD x where
 str:=let⟨hT,o,r,dO⟩:=k.str;⟨hT,o,r,λb aj=>by rw[an b (by rw[dO b aj];decide)];exact dO b aj⟩
 ly:=k.ly
 role:=by have:=k.role;rw[an _ (by omega),an _ (by omega)];exact this
theorem aq_{c:df}{σ aR:b8}{x:bH}(h:aR.au=σ.au++[x])(k:∀y p,y∈σ.au->cont c aR y p=cont c σ y p) :view c aR=view c σ++[(x.s,x.L,cont c aR x)]:=by unfold view;rw[h,List.map_append];congr 1;exact List.map_congr_left λy aq=>by rw[show cont c aR y=cont c σ y from funext λp=>k y p aq]
theorem XZ(k:Good h X c ρ σ (λ_=>0) (λ_=>0))(lq:0<σ.free\/gk σ<16000) :
  bh (call J PV (.func 30 [] []) [.ptr X.M 0] h) λv g=>bX ρ h g/\((∃aX,Good g X c ρ aX (λ_=>0) (λ_=>0)/\view c aX=view c σ/\(0<σ.free->aX=σ)/\σ.free<=aX.free/\
   v=.tuple [.nilPtr,.int .i64 18]/\aX.free=0/\pa c aX)\/∃aX f s t bD,(∀i,i<h.next->bD i=ρ i)/\view c aX=view c σ/\(0<σ.free->aX=σ)/\σ.free<=aX.free/\0<aX.free/\f<c.n/\v=.tuple [.ptr s 0,.int .i64 0]/\h.next<=s/\
    Good g X c bD {aX with mem:=az aX.mem f 0,held:=az aX.held f 1,free:=aX.free-1,au:=aX.au++[⟨s,t,ez f,[]⟩]} (λ_=>0) (λ_=>0)/\
    view c {aX with mem:=az aX.mem f 0,held:=az aX.held f 1,free:=aX.free-1,au:=aX.au++[⟨s,t,ez f,[]⟩]}=view c σ++[(s,[],λ_=>none)]):=by
 refine bh.mk (λe=>aj2 (first:=[]) (cap:=[]) e rfl) ?_;unfold QU;simp only[p4,ar,ba,Bool.false_eq_true,if_false]
 refine hX (n:=14) (I:=λi vs g=>vs=[.nilPtr,.int .i64 0]/\bX ρ h g/\∃aX,Good g X c ρ aX (λ_=>0) (λ_=>0)/\view c aX=view c σ/\(0<σ.free->aX=σ)/\σ.free<=aX.free/\(gk aX+i<=gk σ\/0<aX.free)) (m:=if 0<σ.free then 0 else gk σ+1)
  (P:=λx vs g=>bX ρ h g/\∃aX,Good g X c ρ aX (λ_=>0) (λ_=>0)/\view c aX=view c σ/\(0<σ.free->aX=σ)/\σ.free<=aX.free/\((x=.exit 0/\(∃a b,vs=[a,b])/\0<aX.free)\/(x=.ret/\vs=[.nilPtr,.int .i64 18]/\aX.free=0/\pa c aX))) (by split<;>omega) ⟨rfl,bX.ext (aM.refl _ _),σ,k,rfl,λ_=>rfl,Nat.le_refl _,.inl (by omega)⟩ ?_ ?_
 ·rintro i _ h1 af ⟨rfl,bb,aX,bk,v1,s1,f1,hm⟩;simp only[bz,bp,cl,k7,ar,ha,bk.sys.field.1,zz bk.sys.core.ps.p,c3,dn,ba];by_cases bo:(aX.free:Int)=0
  ·rw[if_pos (by simpa using bo)];have jw:¬0<σ.free:=by omega
   rw[if_neg jw]at af;rw[if_neg jw];refine b4 (Mu bk) ?_;rintro _ g2 ⟨dT,b,b5,rfl,b_,md,aj⟩;simp only[fD,ar,ba];cases b with
   |true=>
    rw[if_neg (by decide)];have jX:=md.go rfl;refine aV.pure (.inl ⟨rfl,by omega,rfl,bb.trans dT (λ_ _=>rfl),b5,b_,md.view.trans v1,λh=>absurd h jw,by have:=md.free;omega,?_⟩);omega
   |false=>
    rw[if_pos (by decide)];obtain⟨uB,yz⟩:=aj rfl;exact aV.pure (.inr ⟨by simp,bb.trans dT (λ_ _=>rfl),b5,b_,md.view.trans v1,λh=>absurd h jw,by have:=md.free;omega,.inr ⟨rfl,rfl,by rw[uB.free];omega,yz⟩⟩)
  ·rw[if_neg (by simpa using bo)];exact aV.pure (.inr ⟨by simp,bb,aX,bk,v1,s1,f1,.inl ⟨rfl,⟨_,_,rfl⟩,by omega⟩⟩)
 ·rintro x vs g1 ⟨ck,aX,bk,v1,s1,f1,⟨rfl,⟨a,b,rfl⟩,ml⟩ |⟨rfl,rfl,h0,yz⟩⟩
  ·simp only[bz,bp,hs,if_true,cl,k7,ar,ha,bk.sys.field.1];refine b4 (aqk bk.ps bk.nW ml) ?_;rintro _ g2 ⟨f,t,aJ,aD,rfl,ahg,ahh,gO,t2,bn⟩;rw[bk.ef.n]at aJ;have dT:c2 ρ g1 g2:=c2.of bn λi _ e=>by have:=bk.sys.core.mv e;omega
   have cp:=bk.sys.core.m1 gO.p bn;have s2:=bk.sys.own cp rfl dT (λ_ _=>rfl);simp only[adO,ar,dP,ba];rw[if_neg (by decide)];simp only[abD,ar];refine cM (apQ (cs:=[.ptr X.M 0,.ptr t 0,.bI]) rfl) λg3 cO gp bR=> ?_
   have dE:=s2.ext bR;obtain⟨eg,pW,hK,ex,dO⟩:=dE.mem;simp only[cl,AZ,Nat.zero_add,ar,DO,Obj.get pW (i:=4) rfl];refine cM (ab4 _) λg4 dG hU bO=> ?_
   have mj:=ck.next;have hP:=bk.AQ;have rB:=bk.n;have j3:=bk.sys.j3;have ay:=dE.core.lt;have pS:=ay X.M (by omega);have Hg:=pW.ext bO pS
   obtain⟨w,g5,fJ,Ed,BX,cD,⟨kP,ae_,ae',afa⟩,yZ,ws⟩:=(hK.ext bO).push (T:=75) (si:=q5) (ie:=p7) (by kernel_rfl) rfl (by kernel_rfl) rfl (by decide) ex (xcap:=1) (xex:=true) dG rfl rfl (by
    rw[List.length_map,List.length_map];show roomy (aX.au.length+1) 8=true;unfold roomy;rw[Bool.and_eq_true,ec,ec]
    omega)
   rw[show p7.size=1 from rfl]at fJ;rw[fJ];have lU:∀b,cI eg=some b->b<g3.next/\b≠X.M:=λb aj=>by have h1:=dO b aj;exact⟨ay b (by omega),λe=>by rw[e]at h1;omega⟩
   have M4:=Hg.az cD (by omega) (λe=>(lU _ e).2 rfl);have uu:=cD.next;simp only[c3,ar,cl,AZ,Nat.zero_add];refine cX (YL (k:=4) (v:=w) M4 (by simp) yZ ws) λg6 ⟨eO,cJ,n6⟩=> ?_
   simp only[List.set_cons_succ,List.set_cons_zero]at eO;have Ch:g1.next<=g2.next:=bn.next;let ev:Nat->Nat:=λi=>if i=t then 16 else if i=g2.next then 15 else if cI w=some i then 14 else ρ i
   have oQ:∀b,cI w=some b->(ρ b=14/\b<g3.next\/g4.next<=b)/\b<g5.next:=λb aj=>by
    rw[ae_]at aj;cases aj;refine⟨?_,ae'⟩;rcases afa with e|e
    ·exact .inl ⟨dO _ e,(lU _ e).1⟩
    ·exact .inr e
   have rt:ρ t=0:=bk.fresh ahg;have rs:ρ g2.next=0:=bk.fresh Ch;have mU:∀i,i<g1.next->ev i=ρ i:=λi af=>by
    show(if i=t then 16 else if i=g2.next then 15 else if cI w=some i then 14 else ρ i)=ρ i;rw[if_neg (by omega),if_neg (by omega)];by_cases e:cI w=some i
    ·rw[if_pos e];rcases(oQ i e).1 with de|de
     ·exact de.1.symm
     ·omega
    ·rw[if_neg e]
   have iE:∀i,ρ i≠0->ev i=ρ i:=λi af=>mU i (bk.sys.core.lt i af)
   have D8:aM (λi=>i=X.M\/cI eg=some i) g2 g6:=by
    have ao:aM (λi=>i=X.M\/cI eg=some i) g2 g3:=aM.ext bR;have a2:aM (λi=>i=X.M\/cI eg=some i) g3 g4:=aM.ext bO;have a3:aM (λi=>i=X.M\/cI eg=some i) g4 g5:=cD.mono λi _ e=>.inr e
    have a4:aM (λi=>i=X.M\/cI eg=some i) g5 g6:=cJ.mono λi _ e=>.inl e
    exact((ao.trans a2).trans a3).trans a4
   have dq:∀i,(i=X.M\/cI eg=some i)->ρ i=13\/ρ i=14:=λi e=>by
    rcases e with rfl|e
    ·exact .inl j3
    ·exact .inr (dO i e)
   have yX:bX ρ g2 g6:=bX.of D8 λi _ e=>by have:=dq i e;omega
   have lj:=s2.core.c0 D8 (λi e _=>by have:=dq i e;omega) (λ_ _=>rfl) (λi af=>Nat.lt_of_lt_of_le (s2.core.lt i af) D8.next);have oT:∀i,ev i≠0->i<g6.next:=λi af=>by
    have fh:(if i=t then 16 else if i=g2.next then 15 else if cI w=some i then 14 else ρ i)≠0:=af;by_cases aG:i=t
    ·omega
    ·rw[if_neg aG]at fh;by_cases aT:i=g2.next
     ·omega
     ·rw[if_neg aT]at fh;by_cases bJ:cI w=some i
      ·have:=(oQ i bJ).2;omega
      ·rw[if_neg bJ]at fh;have:=bk.sys.core.lt i fh;omega
   have qm:=lj.role iE oT;have alC:∀b,cI w=some b->b≠X.M:=λb aj e=>by
    rcases(oQ b aj).1 with h1|h1
    ·rw[e]at h1;omega
    ·omega
   have Dz:a8.Obj g6 g2.next [.ptr X.M 0,.ptr t 0,.bI]:=by have eA:=(cO.ext bO (by omega)).az cD (by omega) (λe=>by have:=dO _ e;omega);exact eA.az cJ (by omega) (λe=>by rw[e]at rs;omega)
   have apZ:hh g6 X.A t (nodeAt (ez f) 0 0) (ez f).ee:=by rw[alI];exact Obj.az t2 D8 ahh (λe=>by have:=dq _ e;omega)
   have jw:=bk.inv.uf (λf=>Int.le_refl 0) aJ aD;have i1:=bk.inv.fill 0 jw.1 jw.2.2
   have i2:=i1.held (f:=f) aJ 1 (aX.free-1) (λg=>(decide (g=f)).toNat) jw.2.2 (by
    have:refs {aX with mem:=az aX.mem f 0} f=refs aX f:=rfl
    rw[this,jw.1];simp) (λg aN=>by simp[aN]) (by
    show aX.free-1+(decide (aX.held f=0)).toNat=aX.free+(decide (1=0)).toNat;rw[decide_eq_true aD];show aX.free-1+1=aX.free+0
    omega)
   have i3:=i2.space (f:=f) (s:=g2.next) (t:=t) aJ (by show az aX.mem f 0 f=0;rw[e4]) jw.1 jw.2.2 (by show az aX.held f 1 f=1;rw[e4]) (λ_=>0) (λg=>by show(0:Int)=((decide (g=f)).toNat:Int) -((decide (g=f)).toNat:Int);omega) (by simp);have iR:Sys g6 X ev {aX with mem:=az aX.mem f 0,held:=az aX.held f 1,free:=aX.free-1,au:=aX.au++[⟨g2.next,t,ez f,[]⟩]}:=by
    refine⟨⟨qm.ps,qm.jV,qm.hi,qm.fl,qm.dX,qm.e3,qm.f',qm.ga,qm.gH,qm.r0,qm.eB,qm.lt⟩,⟨w,eO,?_,BX,λb aj=> ?_⟩,?_,λx ag=> ?_,?_⟩
    ·have:=Ed.az cJ (λb aj e=>alC b aj e);show gg g6 1 w (((aX.au++[(⟨g2.next,t,ez f,[]⟩ :bH)]).map λx:bH=>aa.ptr x.s 0).map one);rw[List.map_append,List.map_append];exact this
    ·show(if b=t then 16 else if b=g2.next then 15 else if cI w=some b then 14 else ρ b)=14;have h1:b≠t:=λe=>by
      rcases(oQ b aj).1 with h1|h1
      ·rw[e]at h1;omega
      ·omega
     have ab:b≠g2.next:=λe=>by
      rcases(oQ b aj).1 with h1|h1
      ·rw[e]at h1;omega
      ·omega
     rw[if_neg h1,if_neg ab,if_pos aj]
    ·rw[iE _ (by omega)];exact j3
    ·rcases List.mem_append.1 ag with ag|ag
     ·exact((s2.au x ag).c0 D8 (λi e _=>.inl (by have:=dq i e;omega)) (λ_ _=>rfl) s2.core.lt).Xm iE
     ·rw[List.mem_singleton]at ag;subst ag;refine⟨⟨.bI,Dz,kq.nil _,λb aj=>by cases aj⟩,apZ,?_,?_⟩
      ·show(if g2.next=t then 16 else if g2.next=g2.next then 15 else if cI w=some g2.next then 14 else ρ g2.next)=15;rw[if_neg (by omega),if_pos rfl]
      ·show(if t=t then 16 else if t=g2.next then 15 else if cI w=some t then 14 else ρ t)=16;rw[if_pos rfl]
    ·refine List.pairwise_append.2 ⟨s2.iP,List.pairwise_singleton _ _,λx ag y aq=> ?_⟩;rw[List.mem_singleton]at aq;subst aq;have iJ:x∈aX.au:=ag;have r:=(bk.sys.au x iJ).role;exact⟨λe=>by rw[e]at r;have ab:ρ g2.next=15:=r.1;omega,λe=>by rw[e]at r;have ab:ρ t=16:=r.2;omega⟩
   refine aV.pure ⟨(ck.trans (bX.own dT) (λ_ _=>rfl)).trans yX (λ_ _=>rfl),.inr ⟨aX,f,g2.next,t,ev,λi af=>mU i (by omega),v1,s1,f1,ml,aJ,rfl,by omega,⟨iR,i3,bk.ef,bk.sec,bk.iN⟩,?_⟩⟩;rw[<-v1]
   have ahs:=aq_ (c:=c) (σ:=aX) (aR:={aX with mem:=az aX.mem f 0,held:=az aX.held f 1,free:=aX.free-1,au:=aX.au++[⟨g2.next,t,ez f,[]⟩]}) (x:=⟨g2.next,t,ez f,[]⟩) rfl (λy p aq=>lG (λnr=>by
    show az aX.mem f 0 _=_;rw[eE];intro e;have:=(lV jw.1).1 y p aq (bk.inv.lt aq (gZ nr))
    rw[<-e,iL bk.inv aq nr]at this;cases this) (λ_=>rfl))
   rw[ahs];rfl
  ·simp only[bz,bp,pj];exact aV.pure ⟨ck,.inl ⟨aX,bk,v1,s1,f1,rfl,h0,yz⟩⟩
end
end
section
variable{PV:cn} [cN PV]
section
variable{h g:ae}{X:ew}{c:df}{ρ bD:Nat->Nat}{σ aR:b8}{d e:Nat->Int}
theorem Good.row(k:Good h X c ρ σ (λ_=>0) (λ_=>0)){a b:List bH}{x:bH}(aA:σ.au=a++x::b){hM:List aU}(dB:nd hM)
  (av:∀p:Nat,x.T.ent p≠.zero->(∃r cR,cv x.L p=some r/\cv hM p=some cR/\cR.kind=r.kind/\cR.file=r.file/\(r.kind=1->cR.bM+p-cR.lo=r.bM+p-r.lo))\/c.loose x.s p/\cv hM p=none)
  {hT:aa} (o:a8.Obj g x.s [.ptr X.M 0,.ptr x.t 0,hT]) (rv:kq g hT hM) (aj:∀i,cI hT=some i->(ρ i=0\/ρ i=17)/\i<g.next) (u:aM (λi=>i=x.s) h g) :
  Good g X c (λi=>if cI hT=some i then 17 else ρ i) {σ with au:=a++{x with L:=hM}::b} (λ_=>0) (λ_=>0):=by
 have ag:x∈σ.au:=by rw[aA];simp
 have rx:=(k.sys.au x ag).role;have ay:=k.sys.core.lt;have an:∀i,ρ i≠0->(λi=>if cI hT=some i then 17 else ρ i) i=ρ i:=λi af=>by
  show(if cI hT=some i then 17 else ρ i)=ρ i;by_cases e:cI hT=some i
  ·rw[if_pos e];have:=(aj i e).1;omega
  ·rw[if_neg e]
 have oT:∀i,(λi=>if cI hT=some i then 17 else ρ i) i≠0->i<g.next:=λi af=>by
  have fh:(if cI hT=some i then 17 else ρ i)≠0:=af;by_cases e:cI hT=some i
  ·exact(aj i e).2
  ·rw[if_neg e]at fh;exact Nat.lt_of_lt_of_le (ay i fh) u.next
 have bo:=(k.sys.core.c0 u (λi e _=>by subst e;omega) (λ_ _=>rfl) (λi af=>Nat.lt_of_lt_of_le (ay i af) u.next)).role an oT;have nI:=(jA (R:=λx y:bH=>x.s≠y.s/\x.t≠y.t) (λa b aw=>⟨aw.1.symm,aw.2.symm⟩)).1 (aA▸k.sys.iP);obtain⟨eg,pW,hK,ex,dO⟩:=k.sys.mem;have j3:=k.sys.j3;refine⟨⟨⟨bo.ps,bo.jV,bo.hi,bo.fl,bo.dX,bo.e3,bo.f',bo.ga,bo.gH,bo.r0,bo.eB,bo.lt⟩,⟨eg,pW.az u (ay _ (by omega)) (λe=>by rw[e]at j3;omega),?_,ex,λb gK=>(an b (by rw[dO b gK];decide)).trans (dO b gK)⟩,(an X.M (by omega)).trans j3,λy aq=> ?_,(jA (R:=λx y:bH=>x.s≠y.s/\x.t≠y.t) (λa b aw=>⟨aw.1.symm,aw.2.symm⟩)).2 ⟨nI.1,nI.2⟩⟩,k.inv.row aA dB av,k.ef,k.sec,k.iN⟩
 ·have:(a++{x with L:=hM}::b).map (λx:bH=>aa.ptr x.s 0)=σ.au.map (λx:bH=>aa.ptr x.s 0):=by rw[aA];simp
  show gg g 1 eg (((a++{x with L:=hM}::b).map (λx:bH=>aa.ptr x.s 0)).map one);rw[this];exact hK.az u (λb gK e=>by have:=dO b gK;rw[e]at this;omega)
 ·rcases fe.1 aq with rfl|aq
  ·have Ae:=k.sys.au x ag;exact⟨⟨hT,o,rv,λi af=>if_pos af⟩,Obj.az Ae.ly u (ay x.t (by omega)) (λe=>by have de:x.t=x.s:=e;rw[de]at rx;omega),(an x.s (by omega)).trans rx.1,(an x.t (by omega)).trans rx.2⟩
  ·have od:y∈σ.au:=by rw[aA];exact fe.2 (.inr aq)
   have rV:=k.sys.au y od;have iO:=rV.role;obtain⟨lw,ol,iY,lU⟩:=rV.str;have bk:rf g X ρ y:=⟨⟨lw,ol.az u (ay _ (by omega)) (λe=>(nI.1 y aq).1 e.symm),iY.az u (λb cap ex e de=>by have:=lU b (by rw[e];rfl);rw[de]at this;omega),lU⟩,Obj.az rV.ly u (ay _ (by omega)) (λe=>by rw[e]at iO;omega),iO⟩;exact bk.Xm an
theorem am'{r cR:aU}{p:Int}(h:r.cu p=cR.cu p)(hm:r.may=true)(hk:cR.may=true) :cR.kind=r.kind/\cR.file=r.file/\(r.kind=1->cR.bM+p-cR.lo=r.bM+p-r.lo):=by unfold aU.cu at h;simp only[aU.mk.injEq]at h;obtain⟨_,_,_,aE,aL,bm⟩:=h;refine⟨aE.symm,aL.symm,λav=> ?_⟩;simp only[av,aE.symm.trans av,if_true]at bm;omega
theorem GS(k:Good h X c ρ σ (λ_=>0) (λ_=>0))(e1:∀s p,¬c.loose s p){a b:List bH}{x:bH}(aA:σ.au=a++x::b)(r:aU) :
  bh (call J PV (.func 31 [] []) [.ptr x.s 0,.agg r.vs] h) λv g=>bX ρ h g/\
   ((r.may=false/\v=.int .i64 1/\Good g X c ρ σ (λ_=>0) (λ_=>0))\/
    (r.may=true/\(∃y,y∈x.L/\meets r y=true)/\v=.int .i64 13/\Good g X c ρ σ (λ_=>0) (λ_=>0))\/
    (r.may=true/\(∀y,y∈x.L->meets r y=false)/\v=.int .i64 0/\∃bD,(∀i,i<h.next->bD i=ρ i)/\Good g X c bD {σ with au:=a++{x with L:=(iK r x.L).foldl e9 []}::b} (λ_=>0) (λ_=>0))):=by
 refine bh.mk (λe=>aj5 (first:=[]) (cap:=[]) e rfl) ?_;unfold QX;have ag:x∈σ.au:=by rw[aA];simp
 refine cM (r' (cs:=r.vs) rfl) λg1 ct dR bb=> ?_
 have bk:=k.ext bb;simp only[HD (bk.sys.au x ag),c3,dP,ar,ba];rw[if_neg (by decide)];have cf:bf g1 (g1.aB 11):=aM.aB _ _ _;have b_:=bk.ext cf;have tr:=b_.sys.au x ag;obtain⟨hT,ol,iY,lU⟩:=tr.str;have hR:=Obj.get ol (i:=2) rfl;rw[dd]at hR;have eK:=k.inv.hJ x ag;have Cn:=eK.len;have C_:=ct.ext cf (by omega);simp only[cl,Oh,Nat.zero_add,ar,u7,dd,hR];rw[lz C_ (by simp[aU.vs])];simp only[ar];rw[show List.take 6 (List.drop 0 r.vs)=r.vs from rfl];refine b4 (anF iY eK (by omega) r) ?_;rintro w g3 ⟨bR,⟨hm,rfl⟩ |⟨hm,wb,rfl⟩ |⟨hm,wb,eT,rfl,AI,wy⟩⟩
 ·have fM:=(bb.trans cf).trans bR;simp only[adO,ar,eh,dn,ba];rw[if_neg (by decide)];simp only[c4,bp,jd];exact aV.pure ⟨bX.ext fM,.inl ⟨hm,rfl,k.ext fM⟩⟩
 ·have fM:=(bb.trans cf).trans bR;simp only[adO,ar,eh,dn,ba];rw[if_neg (by decide)];simp only[c4,bp,jd];exact aV.pure ⟨bX.ext fM,.inr (.inl ⟨hm,wb,rfl,k.ext fM⟩)⟩
 ·have fM:=(bb.trans cf).trans bR;have b3:=k.ext fM;simp only[adO,ar,eh,dn,ba];rw[if_pos (by decide)];have iQ:=b_.sys.core.lt x.s (by rw[tr.role.1];decide);have amu:=ol.ext bR iQ;have fV:eT.cells=[eT]/\dH eT=true:=by
   rcases AI with⟨rfl,_⟩ |⟨dK,cap,ex,rfl,_⟩
   ·exact⟨rfl,rfl⟩
   ·exact⟨rfl,rfl⟩
  have jG:∀i,cI eT=some i->i<g3.next:=λi af=>by
   rcases AI with⟨rfl,_⟩ |⟨dK,cap,ex,rfl,_,al,_⟩
   ·cases af
   ·cases af;exact al
  refine fO (P:=λy vs g=>y=.normal/\vs=[]/\a8.Obj g x.s [.ptr X.M 0,.ptr x.t 0,eT]/\aM (λj=>j=x.s) g3 g/\g.next=g3.next) ?_ ?_
  ·refine cX (OD (k:=2) (v:=eT) amu (by simp) fV.1 fV.2) λg4 ⟨dG,bO,hU⟩=> ?_
   exact aV.pure ⟨rfl,rfl,dG,bO,hU⟩
  ·rintro _ _ g4 ⟨rfl,rfl,dG,bO,hU⟩;simp only[bp,jd];have zE:=aa_ eK hm wb;have fw:∀i,cI eT=some i->ρ i=0:=λi af=>k.fresh (by have:=wy i af;have:(g1.aB 11).next=g1.next+11:=rfl;omega)
   have aoq:=AI.az bO (λdK cap ex e de=>by have:=fw dK (by rw[e];rfl);rw[de]at this;have:=tr.role.1;omega)
   have c7:=b3.row aA zE.1 (λp aI=>by
    have ky:=k.inv.lt ag aI;have iE:=(k.inv.mL x p ag aI).resolve_right (e1 _ _);left;cases an:cv x.L p with
    |none=>exact absurd an iE
    |some r0=>
     have ep:spread x.L p=some (r0.cu p):=Xi an;have agH:r.has p=false:=by
      cases aD:r.has p with
      |false=>rfl
      |true=>
       exfalso;have nr:r.lo<=p/\(p:Int) <r.af:=by simpa [aU.has]using aD
       obtain⟨y,aq,uA⟩:=(ak9 eK (nE hm).2.1).2 ⟨p,nr.1,nr.2,by rw[ep];simp⟩;rw[wb y aq]at uA;cases uA
     have ab:=zE.2.1 p;rw[agH,ep]at ab;simp only[Bool.false_eq_true,if_false]at ab;cases ki:cv ((iK r x.L).foldl e9 []) p with
     |none=>rw[N4.2 ki]at ab;cases ab
     |some cR=>
      rw[Xi ki]at ab;refine⟨r0,cR,rfl,rfl,?_⟩
      exact am' (Option.some.inj ab).symm (eK.may r0 (AF an).1) (zE.1.may cR (AF ki).1)) dG aoq (λi af=>⟨.inl (fw i af),by have:=jG i af;omega⟩) bO
   refine aV.pure ⟨(bX.ext (ρ:=ρ) fM).trans (bX.of (ρ:=ρ) bO λi _ e=>by subst e;have:=tr.role.1;omega) (λ_ _=>rfl),.inr (.inr ⟨hm,wb,rfl,_,λi af=> ?_,c7⟩)⟩;show(if cI eT=some i then 17 else ρ i)=ρ i;rw[if_neg];intro e;have:=wy i e;have:(g1.aB 11).next=g1.next+11:=rfl
   omega
end
end
section
variable{PV:cn} [cN PV]
structure I0(h g:ae)(D:ij)(F:kI)(sec:Nat->Nat)(dh:Nat)(n m:Nat)(A:gw)(R:ra)(k mp M:Nat) :Prop where
 m1:er g A (λ_=>0) (λ_=>0) n
 zb:hp g R D (λ_=>0) 0
 vO:fH g D sec dh
 files:kL g F D
 map:lC g mp []
 cache:a8.Obj g k [.ptr A.p 0,.ptr F.f 0,.map mp,.bI,.int .i64 0,.int .i64 0,.int .i64 0]
 mem:a8.Obj g M [.ptr A.p 0,.ptr F.f 0,.ptr k 0,.ptr R.a 0,.bI]
 m':A.n=n
 EE:R.first=F.used/\R.c1=m
 az:aM (λj=>j=D.d) h g
 ids:h.next<=R.q/\R.q<R.a/\R.a<A.b/\A.b<A.q/\A.q<A.p/\A.p<mp/\mp<k/\k<M/\M<g.next
end
theorem MY{h:ae}{i:Nat}{l:List aa}(o:a8.Obj h i l){s:Nat}{st:Bool}{N:Nat}(e:h.get i=.bytes s st N) :False:=by obtain⟨z,t,de⟩:=o.live;rw[e]at de;cases de
open Classical in
def kk(A:gw)(D:ij)(R:ra)(F:kI)(k mp M:Nat)(i:Nat) :Nat:=
 if i=A.b then 1 else if i=A.q then 2 else if i=A.p then 3 else if i=D.d then 4 else if i=D.b then 5 else if i=R.a then 6 else if i=R.q then 7 else if i=k then 8 else if i=mp then 9 else if i=M then 13 else
 if i=0\/i=F.f\/cI F.h8=some i\/∃n,n∈F.cb/\cI n.cQ=some i then 12 else 0
def yi(n:Nat)(sec:Nat->Nat) :b8:={mem:=λ_=>0,held:=λ_=>0,free:=n,au:=[],ring:=[],hand:=0,bY:=λ_=>0,used:=0,sec:=sec}
theorem aia(n first m:Nat)(vU:Int->Int->Option Nat)(sec:Nat->Nat) :Inv ⟨n,first,m,vU,λ_ _=>False⟩ (yi n sec) (λ_=>0) (λ_=>0)where
 jl:=λx ag=>by cases ag
 tight:=λx ag=>by cases ag
 ph:=.nil
 node:=λx f ag=>by cases ag
 data:=λf aJ aw=>rfl
 free:=(JJ n).symm
 here:=λx p ag=>by cases ag
 out:=λx p ag=>by cases ag
 mL:=λx p ag=>by cases ag
 slot:=λi af=>rfl
 used:=by
  show 0=cq (λi=>(0:Nat) !=0) m;induction m with
  |zero=>rfl
  |succ m b1=>rw[cq,<-b1];rfl
 write:=λx p ag=>by cases ag
 clean:=λx p r ag=>by cases ag
 ring:=λy aq=>by cases aq
 keys:=.nil
 hJ:=λx ag=>by cases ag
theorem VV{h g:ae}{D:ij}{F:kI}{sec:Nat->Nat}{dh n m:Nat}{A:gw}{R:ra}{k mp M:Nat}(N:I0 h g D F sec dh n m A R k mp M)(hw:lE h)(h0:D.d≠0/\D.b≠0)(aC:D.d<h.next/\D.b<h.next)(aJ:F.f<h.next/\(∀b,cI F.h8=some b->b<h.next)/\∀x b,x∈F.cb->cI x.cQ=some b->b<h.next)
  (zY:dh<=F.used) (agj:∀x,x∈F.cb->∀p s,p<(x.size+63) /64->loc x.ext p=some s->s<F.used) :
  ∃X ρ,X.M=M/\X.D=D/\X.F=F/\(∀i,ρ i≠0->i<=0\/i=D.d\/i=D.b\/i=F.f\/cI F.h8=some i\/(∃x,x∈F.cb/\cI x.cQ=some i)\/h.next<=i/\i<=M)/\Good g X ⟨n,F.used,m,fileAt F.cb sec,λ_ _=>False⟩ ρ (yi n sec) (λ_=>0) (λ_=>0):=by
 obtain⟨i1,i2,i3,i4,i5,i6,i7,i8,i9⟩:=N.ids;have c':=N.vO.ne;obtain⟨st,ast,aj,_⟩:=N.vO.bytes;have adT:F.f≠D.b:=λe=>by obtain⟨qM,o⟩:=N.files.str;rw[e]at o;exact MY o aj
 have aq8:∀b,cI F.h8=some b->b≠D.b:=λb gK e=>by
  rcases N.files.nodes.2 with⟨aG,_⟩ |⟨dK,_,_,_,aG,_,_,o,_⟩
  ·rw[aG]at gK;cases gK
  ·rw[aG]at gK;cases gK;rw[e]at o;exact MY o aj
 have ar1:∀x b,x∈F.cb->cI x.cQ=some b->b≠D.b:=λx b ag gK e=>by
  rcases(N.files.exts x ag).2 with⟨aG,_⟩ |⟨dK,_,_,_,aG,_,_,o,_⟩
  ·rw[aG]at gK;cases gK
  ·rw[aG]at gK;cases gK;rw[e]at o;exact MY o aj
 have ap:=N.files.apart;have HO:∀i,i<h.next->i≠D.d->i≠D.b->(i=0\/i=F.f\/cI F.h8=some i\/∃n,n∈F.cb/\cI n.cQ=some i)->kk A D R F k mp M i=12:=λi af h1 ab al=>by unfold kk;rw[if_neg (by omega),if_neg (by omega),if_neg (by omega),if_neg h1,if_neg ab,if_neg (by omega),if_neg (by omega),if_neg (by omega),if_neg (by omega),if_neg (by omega),if_pos al]
 have xZ:=hw.lt;have aod:∀i,kk A D R F k mp M i≠0->i<=0\/i=D.d\/i=D.b\/i=F.f\/cI F.h8=some i\/(∃x,x∈F.cb/\cI x.cQ=some i)\/h.next<=i/\i<=M:=λi af=>by
  by_cases b6:h.next<=i
  ·by_cases hm:i<=M
   ·simp[b6,hm]
   ·refine absurd ?_ af;unfold kk;rw[if_neg (by omega),if_neg (by omega),if_neg (by omega),if_neg (by omega),if_neg (by omega),if_neg (by omega),if_neg (by omega),if_neg (by omega),if_neg (by omega),if_neg (by omega),if_neg];rintro(e|e|e|⟨x,ag,e⟩)
    ·omega
    ·omega
    ·have:=aJ.2.1 _ e;omega
    ·have:=aJ.2.2 x _ ag e;omega
  ·unfold kk at af;rw[if_neg (by omega),if_neg (by omega),if_neg (by omega)]at af;by_cases ao:i=D.d
   ·simp[ao]
   rw[if_neg ao]at af;by_cases a2:i=D.b
   ·simp[a2]
   rw[if_neg a2,if_neg (by omega),if_neg (by omega),if_neg (by omega),if_neg (by omega),if_neg (by omega)]at af;by_cases a3:i=0\/i=F.f\/cI F.h8=some i\/∃n,n∈F.cb/\cI n.cQ=some i
   ·rcases a3 with a3|a3|a3|a3
    ·simp[a3]
    ·simp[a3]
    ·simp[a3]
    ·exact .inr (.inr (.inr (.inr (.inr (.inl a3)))))
   ·rw[if_neg a3]at af;exact absurd rfl af
 have un:=N.az.next;refine⟨⟨A,D,R,F,k,mp,M,dh,sec⟩,kk A D R F k mp M,rfl,rfl,rfl,aod,⟨⟨?_,⟨.bI,N.mem,gg.nil _ _,rfl,λb aj=>by cases aj⟩,?_,(λx ag=>by cases ag),.nil⟩,aia _ _ _ _ _,⟨N.m',N.EE.1,N.EE.2,zY,agj,λf p=>rfl⟩,λs aA=>rfl,.nil⟩⟩
 ·refine{ps:=⟨hw.az N.az (λe=>h0.1 e.symm),N.m1,?_⟩,jV:=N.vO,hi:=N.zb,fl:=N.files,dX:=⟨⟨.bI,0,0,N.cache,gg.nil _ _,rfl,λb aj=>by cases aj⟩,N.map,(λy aq=>by cases aq),.nil,Nat.zero_le _,Nat.zero_le _⟩,e3:= ?_,f':= ?_,ga:= ?_,gH:= ?_,r0:= ?_,eB:= ?_,lt:= ?_ }
  ·show A.p≠0/\A.b≠0/\A.q≠0;omega
  ·show kk A D R F k mp M A.b=1/\kk A D R F k mp M A.q=2/\kk A D R F k mp M A.p=3;unfold kk;refine⟨if_pos rfl,?_,?_⟩
   ·rw[if_neg (by omega),if_pos rfl]
   ·rw[if_neg (by omega),if_neg (by omega),if_pos rfl]
  ·show kk A D R F k mp M D.d=4/\kk A D R F k mp M D.b=5;unfold kk;constructor
   ·rw[if_neg (by omega),if_neg (by omega),if_neg (by omega),if_pos rfl]
   ·rw[if_neg (by omega),if_neg (by omega),if_neg (by omega),if_neg (λe=>c' e.symm),if_pos rfl]
  ·show kk A D R F k mp M R.a=6/\kk A D R F k mp M R.q=7;unfold kk;constructor
   ·rw[if_neg (by omega),if_neg (by omega),if_neg (by omega),if_neg (by omega),if_neg (by omega),if_pos rfl]
   ·rw[if_neg (by omega),if_neg (by omega),if_neg (by omega),if_neg (by omega),if_neg (by omega),if_neg (by omega),if_pos rfl]
  ·show kk A D R F k mp M k=8/\kk A D R F k mp M mp=9;unfold kk;constructor
   ·rw[if_neg (by omega),if_neg (by omega),if_neg (by omega),if_neg (by omega),if_neg (by omega),if_neg (by omega),if_neg (by omega),if_pos rfl]
   ·rw[if_neg (by omega),if_neg (by omega),if_neg (by omega),if_neg (by omega),if_neg (by omega),if_neg (by omega),if_neg (by omega),if_neg (by omega),if_pos rfl]
  ·exact HO 0 xZ (λe=>h0.1 e.symm) (λe=>h0.2 e.symm) (.inl rfl)
  ·exact⟨HO _ aJ.1 ap.2.2 adT (.inr (.inl rfl)),λb aj=>HO b (aJ.2.1 b aj) (ap.1 b aj) (aq8 b aj) (.inr (.inr (.inl aj))),λx b ag aj=>HO b (aJ.2.2 x b ag aj) (ap.2.1 x b ag aj) (ar1 x b ag aj) (.inr (.inr (.inr ⟨x,ag,aj⟩)))⟩
  ·intro i af;by_cases b6:h.next<=i
   ·have fh:kk A D R F k mp M i≠0:=af;rcases Nat.lt_or_ge i g.next with aN|aN
    ·exact aN
    ·exfalso;apply fh;unfold kk;rw[if_neg (by omega),if_neg (by omega),if_neg (by omega),if_neg (by omega),if_neg (by omega),if_neg (by omega),if_neg (by omega),if_neg (by omega),if_neg (by omega),if_neg (by omega),if_neg];rintro(e|e|e|⟨x,ag,e⟩)
     ·omega
     ·omega
     ·have:=aJ.2.1 i e;omega
     ·have:=aJ.2.2 x i ag e;omega
   ·omega
 ·show kk A D R F k mp M M=13;unfold kk;rw[if_neg (by omega),if_neg (by omega),if_neg (by omega),if_neg (by omega),if_neg (by omega),if_neg (by omega),if_neg (by omega),if_neg (by omega),if_neg (by omega),if_pos rfl]
theorem Wu{o:bT} :∀{k off:Nat} {l:List aa},o.read off k=some l->l.length=k/\∀i,i<k->o.cell (off+i)=l[i]?
 |0,off,l,e=>by simp only[bT.read,Option.some.injEq]at e;subst e;exact⟨rfl,λi af=>absurd af (Nat.not_lt_zero _)⟩
 |k+1,off,l,e=>by
  simp only[bT.read]at e;split at e
  ·rename_i v bQ ai ay;simp only[Option.some.injEq]at e;subst e;have b1:=Wu ay;refine⟨by rw[List.length_cons,b1.1],λi af=> ?_⟩;cases i with
   |zero=>exact ai
   |succ i=>
    have:=b1.2 i (by omega);rw[show off+(i+1)=off+1+i by omega];simpa using this
  ·cases e
def pU(h:ae)(id:Nat) :Option (List aa):=match h.get id with
 | .cells n false z t=>(bT.cells n false z t).read 0 n
 |_=>none
theorem tk{h:ae}{id:Nat}{l:List aa}(e:pU h id=some l) :a8.Obj h id l:=by
 unfold pU at e;split at e
 ·rename_i n z t aN;have h1:=Wu e;refine⟨⟨z,t,by rw[aN,h1.1]⟩,λi=> ?_⟩;unfold bP;rw[aN];by_cases af:i<n
  ·have:=h1.2 i af;rwa[Nat.zero_add]at this
  ·show(bif Nat.blt i n then _ else none)=_;rw[show Nat.blt i n=false by rw[<-Bool.not_eq_true,dM];exact af,List.getElem?_eq_none (l:=l) (i:=i) (by omega)];rfl
 ·cases e
def EV(h:ae)(id:Nat) :Option (Nat×Nat):=match h.get id with
 | .bytes n _ N=>some (n,N)
 |_=>none
theorem R'{h:ae}{id n N:Nat}(e:EV h id=some (n,N)) :∃st,h.get id=.bytes n st N:=by
 unfold EV at e;split at e
 ·rename_i ho st IZ aN;simp only[Option.some.injEq,Prod.mk.injEq]at e;obtain⟨rfl,rfl⟩:=e;exact⟨st,aN⟩
 ·cases e
def s_(v:aa)(n:Int) :Bool:=match v with
 | .int .i64 m=>decide (m=n)
 |_=>false
theorem wm{v:aa}{n:Int}(h:s_ v n=true) :v=.int .i64 n:=by
 unfold s_ at h;split at h
 ·rw[of_decide_eq_true h]
 ·cases h
def xr(v:aa) :Option Int:=match v with
 | .int .i64 m=>some m
 |_=>none
theorem B3{v:aa}{n:Int}(h:xr v=some n) :v=.int .i64 n:=by
 unfold xr at h;split at h
 ·rw[Option.some.inj h]
 ·cases h
def xt(v:aa)(sz:Nat) :Option (Nat×Nat×Nat×Bool):=match v with
 | .slice b off len cap s ex=>if off=0/\s=sz then some (b,len,cap,ex)else none
 |_=>none
theorem B5{v:aa}{sz b len cap:Nat}{ex:Bool}(h:xt v sz=some (b,len,cap,ex)) :v=.slice b 0 len cap sz ex:=by
 unfold xt at h;split at h
 ·split at h
  ·rename_i aH;simp only[Option.some.injEq,Prod.mk.injEq]at h;obtain⟨rfl,rfl,rfl,rfl⟩:=h;rw[aH.1,aH.2]
  ·cases h
 ·cases h
def mO(v:aa) :Option Nat:=match v with
 | .ptr b off=>if off=0 then some b else none
 |_=>none
theorem pk{v:aa}{b:Nat}(h:mO v=some b) :v=.ptr b 0:=by
 unfold mO at h;split at h
 ·split at h
  ·rename_i aH;rw[<-Option.some.inj h,aH]
  ·cases h
 ·cases h
structure y4 where
 D:ij
 dh:Nat
 N:Nat
def y4.sec(l:y4) :Nat->Nat:=λi=>cB l.N (64*i) 64
def BK(h:ae)(d:Nat) :Option y4:=
 (pU h d).bind λl=>match l with
 |[v0,v1,v2,v3]=>(xt v0 1).bind λs=>(xr v1).bind λse=>(xr v2).bind λ_=>(xr v3).bind λ_=>(EV h s.1).bind λl9=>
  if 1<=l9.1/64/\l9.1/64<=16384/\l9.1=64*(l9.1/64)/\s.2.1=l9.1/\s.2.2.1=l9.1/\0<=se/\se<=16384/\d<h.next/\s.1<h.next/\d≠s.1 then some ⟨⟨d,s.1,l9.1/64⟩,se.toNat,l9.2⟩else none
 |_=>none
theorem SJ{h:ae}{d:Nat}{l:y4}(e:BK h d=some l) :fH h l.D l.sec l.dh/\l.D.d=d:=by
 unfold BK at e;obtain⟨cs,h1,e⟩:=Option.bind_eq_some_iff.1 e;split at e
 ·rename_i v0 v1 v2 v3;obtain⟨⟨b,len,cap,ex⟩,ab,e⟩:=Option.bind_eq_some_iff.1 e;obtain⟨se,al,e⟩:=Option.bind_eq_some_iff.1 e;obtain⟨dm,aE,e⟩:=Option.bind_eq_some_iff.1 e;obtain⟨eS,aL,e⟩:=Option.bind_eq_some_iff.1 e;obtain⟨⟨l9,N⟩,bm,e⟩:=Option.bind_eq_some_iff.1 e;have o:=tk h1;rw[B5 ab,B3 al,B3 aE,B3 aL]at o;obtain⟨st,aj⟩:=R' bm;dsimp only at e;split at e
  ·rename_i aH;obtain⟨bo,cp,ed,gh,lh,lj,oH,tV,zi,Js⟩:=aH;simp only[Option.some.injEq]at e;subst e;refine⟨⟨⟨bo,cp⟩,by show se.toNat<=16384;omega,⟨tV,zi⟩,Js,⟨ex,dm,eS,?_⟩,⟨st,N,?_,λi _=>rfl⟩⟩,rfl⟩
   ·show a8.Obj h d [.slice b 0 (64*(l9/64)) (64*(l9/64)) 1 ex,.int .i64 ((se.toNat:Nat) :Int),_,_];rw[<-ed,Int.toNat_of_nonneg lj];have gh:len=l9:=gh;have lh:cap=l9:=lh;rw[gh,lh]at o;exact o
   ·show h.get b=.bytes (64*(l9/64)) st N;rw[<-ed];exact aj
  ·cases e
 ·cases e
def chunks(sz:Nat) :Nat->List aa->List (List aa)
 |0,_=>[]
 |k+1,l=>l.take sz::chunks sz k (l.drop sz)
theorem Sq{sz:Nat} :∀{k:Nat} {l:List aa},k*sz<=l.length->(chunks sz k l).length=k/\(∀r,r∈chunks sz k l->r.length=sz)/\(chunks sz k l).flatten=l.take (k*sz)
 |0,l,_=>⟨rfl,λr h=>(by cases h),by simp[chunks]⟩
 |k+1,l,h=>by
  rw[Nat.succ_mul]at h;have b1:=Sq (sz:=sz) (k:=k) (l:=l.drop sz) (by rw[List.length_drop];omega);refine⟨by simp[chunks,b1.1],λr an=> ?_,?_⟩
  ·rcases List.mem_cons.1 an with rfl|an
   ·rw[List.length_take];omega
   ·exact b1.2.1 r an
  ·show l.take sz++(chunks sz k (l.drop sz)).flatten=_;rw[b1.2.2,Nat.succ_mul,Nat.add_comm,List.take_add]
def Bj(h:ae)(sz:Nat)(v:aa) :Option (List (List aa)):=match v with
 | .bI=>some []
 |v=>(xt v sz).bind λs=>(pU h s.1).bind λl=>if s.1<h.next/\s.2.1<=s.2.2.1/\l.length=s.2.2.1*sz then some (chunks sz s.2.1 l)else none
theorem Ij{h:ae}{sz:Nat}{v:aa}{rows:List (List aa)}(e:Bj h sz v=some rows) :gg h sz v rows:=by
 unfold Bj at e;split at e
 ·simp only[Option.some.injEq]at e;subst e;exact gg.nil h sz
 ·obtain⟨⟨b,len,cap,ex⟩,ab,e⟩:=Option.bind_eq_some_iff.1 e;obtain⟨l,al,e⟩:=Option.bind_eq_some_iff.1 e;dsimp only at e al;split at e
  ·rename_i aH;obtain⟨bo,cp,ed⟩:=aH;simp only[Option.some.injEq]at e;subst e;have hle:len*sz<=l.length:=by rw[ed];exact Nat.mul_le_mul_right _ cp
   obtain⟨bk,b_,b3⟩:=Sq hle;have o:=tk al;refine⟨b_,.inr ⟨b,cap,ex,l.drop (len*sz),?_,bo,by rw[bk];exact cp,?_,?_⟩⟩
   ·rw[bk];exact B5 ab
   ·rw[b3,List.take_append_drop];exact o
   ·rw[bk,List.length_drop,ed,Nat.sub_mul]
  ·cases e
def BZ:List (List aa)->Option (List (Nat×Nat))
 |[]=>some []
 |[.int .i64 a,.int .i64 b]::r=>if 0<=a/\0<=b then(BZ r).bind λl=>some ((a.toNat,b.toNat)::l)else none
 |_=>none
theorem S':∀{rows:List (List aa)} {l:List (Nat×Nat)},BZ rows=some l->rows=l.map ue
 |[],l,e=>by simp only[BZ,Option.some.injEq]at e;subst e;rfl
 |r::rows,l,e=>by
  unfold BZ at e;split at e
  ·rename_i h;cases h
  ·rename_i a b cR heq;injection heq with an xS;subst an xS;split at e
   ·rename_i aH;obtain⟨bQ,h1,e⟩:=Option.bind_eq_some_iff.1 e;simp only[Option.some.injEq]at e;subst e;rw[List.map_cons,<-S' h1];show _=[aa.int .i64 ((a.toNat:Nat) :Int),.int .i64 ((b.toNat:Nat) :Int)]::_;rw[Int.toNat_of_nonneg aH.1,Int.toNat_of_nonneg aH.2]
   ·cases e
  ·cases e
def z_(h:ae) :List (List aa)->Option (List fW)
 |[]=>some []
 |[.str nl tf,.int .i64 s,cQ]::r=>if 0<=s then(Bj h 2 cQ).bind λrows=>(BZ rows).bind λext=>(z_ h r).bind λl=>some (⟨nl,tf,s.toNat,cQ,ext⟩::l)else none
 |_=>none
theorem LP{h:ae} :∀{rows:List (List aa)} {l:List fW},z_ h rows=some l->rows=l.map fW.vs/\∀n,n∈l->gg h 2 n.cQ (n.ext.map ue)
 |[],l,e=>by simp only[z_,Option.some.injEq]at e;subst e;exact⟨rfl,λn aw=>by cases aw⟩
 |r::rows,l,e=>by
  unfold z_ at e;split at e
  ·rename_i h;cases h
  ·rename_i nl tf s cQ cR heq;injection heq with an xS;subst an xS;split at e
   ·rename_i aH;obtain⟨rws,h1,e⟩:=Option.bind_eq_some_iff.1 e;obtain⟨ext,ab,e⟩:=Option.bind_eq_some_iff.1 e;obtain⟨bQ,al,e⟩:=Option.bind_eq_some_iff.1 e;simp only[Option.some.injEq]at e;subst e;have b1:=LP al;refine⟨?_,λn aw=> ?_⟩
    ·rw[List.map_cons,<-b1.1];show _=[aa.str nl tf,.int .i64 ((s.toNat:Nat) :Int),cQ]::_;rw[Int.toNat_of_nonneg aH]
    ·rcases List.mem_cons.1 aw with rfl|aw
     ·have:=Ij h1;rw[S' ab]at this;exact this
     ·exact b1.2 n aw
   ·cases e
  ·cases e
def LQ(n used:Nat)(x:fW) :Bool:=
 dH x.cQ&&decide (x.size<=1048576) &&decide (x.ext.length<=16000) &&x.ext.all (λy=>decide (y.1<=1048576) &&decide (y.2<=1048576)) &&
  (List.range ((x.size+63) /64)).all λp=>match loc x.ext p with
    |some s=>decide (s<n) &&decide (s<used)
    |none=>false
def qk(v:aa) :Nat:=match v with
 | .slice b _ _ _ _ _=>b
 |_=>0
def B0(h:ae)(D:ij)(top:Nat)(f:Nat) :Option kI:=
 (pU h f).bind λl=>match l with
 |[v0,v1,v2,v3]=>(mO v0).bind λd=>(xr v1).bind λused=>(Bj h 3 v2).bind λrows=>(z_ h rows).bind λcb=>
  if d=D.d/\0<=used/\f<h.next/\f<top/\cb.length<=65536/\f≠D.d/\qk v2≠D.d/\qk v2<top/\0<D.d/\0<top/\(cb.all λn=>LQ D.n used.toNat n&&decide (qk n.cQ≠D.d) &&decide (qk n.cQ<top))=true then some ⟨f,v2,used.toNat,cb⟩else none
 |_=>none
theorem tT{v:aa}{b:Nat}(h:cI v=some b) :qk v=b:=by cases v<;>first|(cases h;done) |exact Option.some.inj h
structure aaZ(h:ae)(F:kI)(D:ij)(top:Nat) :Prop where
 is:kL h F D
 below:F.f<top/\(∀b,cI F.h8=some b->b<top)/\∀x b,x∈F.cb->cI x.cQ=some b->b<top
 loc:∀x,x∈F.cb->∀p s,p<(x.size+63) /64->loc x.ext p=some s->s<F.used
theorem Tc{h:ae}{D:ij}{top f:Nat}{F:kI}(e:B0 h D top f=some F) :aaZ h F D top/\F.f=f:=by
 unfold B0 at e;obtain⟨cs,h1,e⟩:=Option.bind_eq_some_iff.1 e;split at e
 ·rename_i v0 v1 v2 v3;obtain⟨d,ab,e⟩:=Option.bind_eq_some_iff.1 e;obtain⟨used,al,e⟩:=Option.bind_eq_some_iff.1 e;obtain⟨rows,aE,e⟩:=Option.bind_eq_some_iff.1 e;obtain⟨cb,aL,e⟩:=Option.bind_eq_some_iff.1 e;split at e
  ·rename_i aH;obtain⟨bo,cp,ed,gh,lh,lj,oH,tV,zi,Js,EX⟩:=aH;simp only[Option.some.injEq]at e;subst e;have o:=tk h1;rw[pk ab,B3 al,bo]at o;have ai:=Ij aE;have af:=LP aL;rw[af.1]at ai;have hD:∀n,n∈cb->LQ D.n used.toNat n=true/\qk n.cQ≠D.d/\qk n.cQ<top:=λn aw=>by
    have:=List.all_eq_true.1 EX n aw;simp only[Bool.and_eq_true,decide_eq_true_eq]at this;exact⟨this.1.1,this.1.2,this.2⟩
   have K':∀n,n∈cb->dH n.cQ=true/\n.size<=1048576/\n.ext.length<=16000/\(∀x,x∈n.ext->x.1<=1048576/\x.2<=1048576)/\∀p,p<(n.size+63) /64->∃s,Go.Proofs.YtkdjcmpgnkecfaaGreatDoor.loc n.ext p=some s/\s<D.n/\s<used.toNat:=λn aw=>by
    have:=(hD n aw).1;unfold LQ at this;simp only[Bool.and_eq_true,decide_eq_true_eq,List.all_eq_true]at this;obtain⟨⟨⟨⟨ao,a2⟩,a3⟩,a4⟩,a5⟩:=this;refine⟨ao,a2,a3,a4,λp aI=> ?_⟩;have:=a5 p (List.mem_range.2 aI);split at this
    ·rename_i s aA;simp only[Bool.and_eq_true,decide_eq_true_eq]at this;exact⟨s,aA,this⟩
    ·cases this
   refine⟨⟨⟨ed,⟨v3,?_⟩,ai,lh,af.2,λn aw=>(K' n aw).1,λn aw=> ?_,⟨λb aj=> ?_,λn b aw aj=> ?_,lj⟩⟩,⟨gh,λb aj=> ?_,λx b ag aj=> ?_⟩,λx ag p s aI aA=> ?_⟩,rfl⟩
   ·show a8.Obj h f [.ptr D.d 0,.int .i64 ((used.toNat:Nat) :Int),v2,v3];rw[Int.toNat_of_nonneg cp];exact o
   ·obtain⟨_,a2,a3,a4,a5⟩:=K' n aw;exact⟨a2,a3,a4,λp aI=>by obtain⟨s,fS,ft,_⟩:=a5 p aI;exact⟨s,fS,ft⟩⟩
   ·rw[<-tT aj];exact oH
   ·rw[<-tT aj];exact(hD n aw).2.1
   ·rw[<-tT aj];exact tV
   ·rw[<-tT aj];exact(hD x ag).2.2
   ·obtain⟨aY,fS,_,gV⟩:=(K' x ag).2.2.2.2 p aI;rw[fS]at aA;rw[<-Option.some.inj aA];exact gV
  ·cases e
 ·cases e
def Iu(l:List aa)(n:Nat) :Bool:=Nat.beq l.length n&&l.all λv=>s_ v 0
theorem aaP{l:List aa}{n:Nat}(h:Iu l n=true) :l=(List.range n).map λ_=>aa.int .i64 ((0:Nat) :Int):=by
 unfold Iu at h;rw[Bool.and_eq_true,Go.a8.beq_true]at h;obtain⟨rfl,ab⟩:=h;refine List.ext_getElem? λi=> ?_
 by_cases af:i<l.length
 ·rw[List.getElem?_map,List.getElem?_range af,List.getElem?_eq_getElem af];rw[wm (List.all_eq_true.1 ab _ (List.getElem_mem af))];rfl
 ·rw[List.getElem?_eq_none (by omega),List.getElem?_eq_none (by simpa using af)]
def Np(h:ae)(p:Nat) :Option gw:=
 (pU h p).bind λl=>match l with
 |[v0,v1,v2]=>(xt v0 1).bind λs=>(xt v1 1).bind λq=>(EV h s.1).bind λl9=>(pU h q.1).bind λDh=>
  if q.2.1<=4096/\q.2.2.1=q.2.1/\s.2.1=64*q.2.1/\s.2.2.1=64*q.2.1/\l9.1=64*q.2.1/\l9.2=0/\s_ v2 q.2.1=true/\p<h.next/\s.1<h.next/\q.1<h.next/\p≠s.1/\p≠q.1/\s.1≠q.1/\Iu Dh q.2.1=true then some ⟨p,s.1,q.1,q.2.1⟩else none
 |_=>none
theorem anb{h:ae}{p:Nat}{A:gw}(e:Np h p=some A) :er h A (λ_=>0) (λ_=>0) A.n/\A.p=p:=by
 unfold Np at e;obtain⟨cs,h1,e⟩:=Option.bind_eq_some_iff.1 e;split at e
 ·rename_i v0 v1 v2;obtain⟨⟨b,gM,bo,bU⟩,ab,e⟩:=Option.bind_eq_some_iff.1 e;obtain⟨⟨q,hR,cp,eY⟩,al,e⟩:=Option.bind_eq_some_iff.1 e;obtain⟨⟨l9,N⟩,aE,e⟩:=Option.bind_eq_some_iff.1 e;obtain⟨Dh,aL,e⟩:=Option.bind_eq_some_iff.1 e;dsimp only at e aE aL;split at e
  ·rename_i aH;obtain⟨d1,d2,d3,d4,d5,d6,d7,d8,d9,d10,d11,d12,d13,d14⟩:=aH;simp only[Option.some.injEq]at e;subst e;have o:=tk h1;rw[B5 ab,B5 al,wm d7,d2,d3,d4]at o;obtain⟨st,aj⟩:=R' aE;rw[d5,d6]at aj;have Db:=tk aL;rw[aaP d14]at Db;exact⟨⟨d1,⟨d8,d9,d10⟩,⟨d11,d12,d13⟩,⟨bU,eY,o⟩,⟨st,0,aj,λf _=>by simp[cB]⟩,Db⟩,rfl⟩
  ·cases e
 ·cases e
def Jc(h:ae)(D:ij)(a:Nat) :Option ra:=
 (pU h a).bind λl=>match l with
 |[v0,v1,v2,v3]=>(mO v0).bind λd=>(xr v1).bind λfirst=>(xt v2 1).bind λq=>(pU h q.1).bind λDh=>
  if d=D.d/\0<=first/\s_ v3 0=true/\q.2.1<=4096/\q.2.2.1=q.2.1/\first.toNat+q.2.1<=D.n/\a<h.next/\q.1<h.next/\a≠q.1/\a≠D.d/\a≠D.b/\q.1≠D.d/\q.1≠D.b/\Iu Dh q.2.1=true then some ⟨a,q.1,first.toNat,q.2.1⟩else none
 |_=>none
theorem abo{h:ae}{D:ij}{a:Nat}{R:ra}(e:Jc h D a=some R) :hp h R D (λ_=>0) 0/\R.a=a:=by
 unfold Jc at e;obtain⟨cs,h1,e⟩:=Option.bind_eq_some_iff.1 e;split at e
 ·rename_i v0 v1 v2 v3;obtain⟨d,ab,e⟩:=Option.bind_eq_some_iff.1 e;obtain⟨first,al,e⟩:=Option.bind_eq_some_iff.1 e;obtain⟨⟨q,hR,cp,eY⟩,aE,e⟩:=Option.bind_eq_some_iff.1 e;obtain⟨Dh,aL,e⟩:=Option.bind_eq_some_iff.1 e;dsimp only at e aL;split at e
  ·rename_i aH;obtain⟨d1,d2,d3,d4,d5,d6,d7,d8,d9,d10,d11,d12,d13,d14⟩:=aH;simp only[Option.some.injEq]at e;subst e;have o:=tk h1;rw[pk ab,B3 al,B5 aE,wm d3,d1,d5]at o;have Db:=tk aL;rw[aaP d14]at Db;refine⟨⟨d4,d6,⟨d7,d8⟩,⟨d9,d10,d11,d12,d13⟩,⟨eY,?_⟩,Db⟩,rfl⟩;show a8.Obj h a [.ptr D.d 0,.int .i64 ((first.toNat:Nat) :Int),_,_];rw[Int.toNat_of_nonneg d2];exact o
  ·cases e
 ·cases e
def Mv(h:ae)(mp:Nat) :Bool:=match h.get mp with
 | .map [] _=>true
 |_=>false
theorem ak3{h:ae}{mp:Nat}(e:Mv h mp=true) :lC h mp []:=by
 unfold Mv at e;split at e
 ·rename_i clock hm;exact⟨[],clock,hm,rfl⟩
 ·cases e
def Jz(h:ae)(k p f:Nat) :Option Nat:=(pU h k).bind λl=>match l with
 |[aK,ck,.map mp,.bI,fq,gf,gS]=>if mO aK=some p/\mO ck=some f/\s_ fq 0=true/\s_ gf 0=true/\s_ gS 0=true/\Mv h mp=true then some mp else none
 |_=>none
theorem acp{h:ae}{k p f mp:Nat}(e:Jz h k p f=some mp) :a8.Obj h k [.ptr p 0,.ptr f 0,.map mp,.bI,.int .i64 0,.int .i64 0,.int .i64 0]/\lC h mp []:=by
 unfold Jz at e;obtain⟨cs,h1,e⟩:=Option.bind_eq_some_iff.1 e;split at e
 ·split at e
  ·rename_i aH;obtain⟨bo,cp,ed,gh,lh,lj⟩:=aH;simp only[Option.some.injEq]at e;subst e;have o:=tk h1;rw[pk bo,pk cp,wm ed,wm gh,wm lh]at o;exact⟨o,ak3 lj⟩
  ·cases e
 ·cases e
structure Bv where
 M:Nat
 k:Nat
 mp:Nat
 A:gw
 R:ra
 dl:y4
 F:kI
def ada(h:ae)(a:Nat) :Option Nat:=(pU h a).bind λl=>match l with
 |v::_=>mO v
 |_=>none
def MB(h:ae)(M:Nat) :Option Bv:=
 (pU h M).bind λl=>match l with
 |[v0,v1,v2,v3,.bI]=>(mO v0).bind λp=>(mO v1).bind λf=>(mO v2).bind λk=>(mO v3).bind λa=>(ada h a).bind λd=>
  (Np h p).bind λA=>(BK h d).bind λdl=>(Jc h dl.D a).bind λR=>(B0 h dl.D R.q f).bind λF=>(Jz h k p f).bind λmp=>
    if R.first=F.used/\dl.dh=F.used/\dl.D.d<R.q/\dl.D.b<R.q/\0<dl.D.d/\0<dl.D.b/\R.q<R.a/\R.a<A.b/\A.b<A.q/\A.q<A.p/\A.p<mp/\mp<k/\k<M/\M<h.next then some ⟨M,k,mp,A,R,dl,F⟩else none
 |_=>none
def Hx(l:Bv)(i:Nat) :Bool:=Nat.beq i 0||(Nat.beq i l.dl.D.d||(Nat.beq i l.dl.D.b||(Nat.beq i l.F.f||(Nat.beq (qk l.F.h8) i||((l.F.cb.any λx=>Nat.beq (qk x.cQ) i) ||(Nat.ble l.R.q i&&Nat.ble i l.M))))))
theorem VM{h:ae}{M:Nat}{l:Bv}(e:MB h M=some l)(hw:lE h) :
  ∃X ρ,X.M=M/\X.D=l.dl.D/\X.F=l.F/\(∀i,ρ i≠0->i<h.next)/\(∀i,ρ i≠0->Hx l i=true)/\Good h X ⟨l.A.n,l.F.used,l.R.c1,fileAt l.F.cb l.dl.sec,λ_ _=>False⟩ ρ (yi l.A.n l.dl.sec) (λ_=>0) (λ_=>0):=by
 unfold MB at e;obtain⟨cs,h1,e⟩:=Option.bind_eq_some_iff.1 e;split at e
 ·rename_i v0 v1 v2 v3;obtain⟨p,ab,e⟩:=Option.bind_eq_some_iff.1 e;obtain⟨f,al,e⟩:=Option.bind_eq_some_iff.1 e;obtain⟨k,aE,e⟩:=Option.bind_eq_some_iff.1 e;obtain⟨a,aL,e⟩:=Option.bind_eq_some_iff.1 e;obtain⟨d,cr,e⟩:=Option.bind_eq_some_iff.1 e;obtain⟨A,cz,e⟩:=Option.bind_eq_some_iff.1 e;obtain⟨dl,c6,e⟩:=Option.bind_eq_some_iff.1 e;obtain⟨R,dF,e⟩:=Option.bind_eq_some_iff.1 e;obtain⟨F,dZ,e⟩:=Option.bind_eq_some_iff.1 e;obtain⟨mp,dv,e⟩:=Option.bind_eq_some_iff.1 e;split at e
  ·rename_i aH;obtain⟨lj,oH,tV,zi,Js,EX,ab_,ab',Jt,aca,acb,acd,ace,acf⟩:=aH;simp only[Option.some.injEq]at e;subst e;obtain⟨ip,S1⟩:=anb cz;obtain⟨id,J2⟩:=SJ c6;obtain⟨ah1,kT⟩:=abo dF;obtain⟨gJ,qo⟩:=Tc dZ;obtain⟨ok,F2⟩:=acp dv;have pW:=tk h1;rw[pk ab,pk al,pk aE,pk aL]at pW;let h0:ae:=⟨R.q,h.dS⟩;have DZ:aM (λj=>j=dl.D.d) h0 h:=⟨by show R.q<=h.next;omega,λi _ _=>rfl⟩
   have N:I0 h0 h dl.D F dl.sec (max F.used F.used) A.n R.c1 A R k mp M:=
    {m1:=ip,zb:=ah1,vO:=by rw[Nat.max_self,<-oH];exact id,files:=gJ.is,map:=F2
     cache:=by rw[S1,qo];exact ok
     mem:=by rw[S1,qo,kT];exact pW
     m':=rfl,EE:=⟨lj,rfl⟩,az:=DZ
     ids:=⟨Nat.le_refl _,ab_,ab',Jt,aca,acb,acd,ace,acf⟩}
   have xZ:lE h0:=⟨λk av=>hw.rd k av,by show 0<R.q;omega⟩;obtain⟨X,ρ,bU,eY,jS,mD,kH⟩:=VV N xZ ⟨by omega,by omega⟩ ⟨tV,zi⟩ gJ.below (Nat.le_of_eq (Nat.max_self _)) gJ.loc;refine⟨X,ρ,bU,eY,jS,λi af=>kH.sys.core.lt i af,λi af=> ?_,kH⟩;unfold Hx;simp only[Bool.or_eq_true,Bool.and_eq_true,Nat.beq_eq,ec,List.any_eq_true];rcases mD i af with h|h|h|h|h|⟨x,ag,h⟩ |h
   ·exact .inl (by omega)
   ·exact .inr (.inl h)
   ·exact .inr (.inr (.inl h))
   ·exact .inr (.inr (.inr (.inl h)))
   ·exact .inr (.inr (.inr (.inr (.inl (tT h)))))
   ·exact .inr (.inr (.inr (.inr (.inr (.inl ⟨x,ag,tT h⟩)))))
   ·exact .inr (.inr (.inr (.inr (.inr (.inr h)))))
  ·cases e
 ·cases e
section
variable{PV:cn} [cN PV]
theorem ab2(a b:Int) :lg J 179 1 [(0,hQ a b)]=some (λid=>aa.slice id 0 1 1 2 true,.cells ([aa.int .i64 a,.int .i64 b] :List aa).length false [] (bu.ofList [aa.int .i64 a,.int .i64 b])):=by kernel_rfl
def uH(y:dj) :List aa:=[.int .i64 y.file,.int .i64 y.bM]
theorem aiu{h:ae}{X:ew}{ρ:Nat->Nat}{σ:b8}(k:Core h X ρ σ) :
  bh (call J PV (.func 96 [] []) [.ptr X.k 0] h) λv g=>Row g 2 h.next v (σ.ring.map uH)/\bf h g:=by
 refine bh.mk (λe=>akC (first:=[]) (cap:=[]) e rfl) ?_;unfold Rv;obtain⟨rv,hits,fills,os,hK,ex,dO⟩:=k.dX.str;have ay:=hK.len (T:=293) (si:=q3) (by kernel_rfl) rfl;rw[List.length_map,List.length_map]at ay;have uq:=k.dX.nj;simp only[A5,ar,ba,Bool.false_eq_true,if_false,cl,wX,Nat.zero_add,wY,Obj.get os (i:=3) rfl,ay]
 refine hX (n:=14) (I:=λi vs g=>∃v,vs=[v,.int .i64 (i:Nat)]/\Row g 2 h.next v ((σ.ring.take i).map uH)/\bf h g/\i<=σ.ring.length) (m:=σ.ring.length)
  (P:=λx vs g=>x=.exit 0/\∃v c,vs=[v,c]/\Row g 2 h.next v (σ.ring.map uH)/\bf h g) (Nat.lt_of_le_of_lt uq (by decide)) ⟨_,rfl,Row.nil _ _ _,aM.refl _ _,Nat.zero_le _⟩ ?_ ?_
 ·rintro i _ h1 af ⟨v,rfl,an,bb,hle⟩;simp only[bz,bp,dk,ar,ba];by_cases c:(i:Int) <(σ.ring.length:Nat)
  ·rw[if_pos (by simpa using c)];have sZ:i<σ.ring.length:=by omega
   have ag:σ.ring[i]? =some σ.ring[i]:=List.getElem?_eq_getElem sZ;have rP:σ.ring.take (i+1)=σ.ring.take i++[σ.ring[i]]:=by rw[List.take_add_one,ag];rfl
   generalize σ.ring[i]=y at ag rP;have aq:y∈σ.ring:=List.mem_of_getElem? ag;have bk:=k.ext bb;have me:((σ.ring.map (λy=>aa.ptr y.id 0)).map one)[i]? =some [aa.ptr y.id 0]:=by simp[ag,one]
   obtain⟨b,cap,Fl,l,ai,aj,ol,oU,_,_,hE⟩:=(hK.ext bb).at me;rw[List.length_map,List.length_map]at ai oU;have iE:=hE 0 (by decide);rw[Nat.mul_one,Nat.add_zero]at iE;have mV:cZ J 293 rv (.int .i64 (i:Nat))=some (.ptr b (0+i)):=by rw[ai];exact Ov oU
   rw[mV];simp only[ar,Nat.zero_add,Ox,iE,List.getElem?_cons_zero,cl,Oo];rw[o8 (bk.dX.fx y aq).1 (by simp[dj.vs])];simp only[ar,dj.vs,List.drop_zero,List.take_succ_cons,List.take_zero];rw[show(aa.agg [.int .i64 y.file,.int .i64 y.bM])=hQ y.file y.bM from rfl];refine cM (ab2 _ _) λg2 cE eN bn=> ?_
   have mj:=bb.next
   obtain⟨w,g3,bJ,eS,bR,gp⟩:=Row.push (E:=J) (T:=179) (si:=DW) (ie:=sf) (by kernel_rfl) rfl (by kernel_rfl) rfl (by decide) (an.ext bn) (xcap:=1) (xex:=true) cE rfl rfl (by
    rw[List.length_map,List.length_take];show roomy _ 16=true;unfold roomy;rw[Bool.and_eq_true,ec,ec]
    omega) (by omega)
   rw[show sf.size=2 from rfl]at bJ eS;rw[bJ];have e0:b0 .i64 ((i:Int) +1)=((i+1:Nat) :Int):=by rw[wrap_i64 (by omega) (by omega)];omega
   simp only[c3,du,e0,ar];refine aV.pure (.inl ⟨rfl,sZ,w,rfl,?_,(bb.trans bn).local bR (λj aO e=>absurd e (by omega)),sZ⟩);rw[rP,List.map_append];exact eS
  ·rw[if_neg (by simpa using c)];refine aV.pure (.inr ⟨by simp,rfl,v,_,rfl,?_,bb⟩);rw[List.take_of_length_le (by omega)]at an;exact an
 ·rintro x vs g ⟨rfl,v,c,rfl,an,u⟩;simp only[bz,bp,hs,if_true];exact aV.pure ⟨an,u⟩
end
section
variable{PV:cn} [cN PV]
section
variable{h g:ae}{X:ew}{c:df}{ρ bD:Nat->Nat}{σ aR:b8}{d e:Nat->Int}
theorem adh(k:Good h X c ρ σ (λ_=>0) (λ_=>0)){a b:List bH}{x:bH}(aA:σ.au=a++x::b){p:Nat}(fL:x.T.ent p≠.zero) :
  bh (call J PV (.func 102 [] []) [.ptr x.s 0,.agg (eC x.T p)] h) λv g=>bX ρ h g/\∃aR aS,aS.ent=az x.T.ent p .zero/\aR.au=a++{x with T:=aS}::b/\Good g X c ρ aR (λ_=>0) (λ_=>0)/\aR.sec=σ.sec/\aR.ring=σ.ring/\σ.free<=aR.free/\aR.used<=σ.used/\
   (∀y q,y∈a++b->cont c aR y q=cont c σ y q)/\(∀q,q≠p->cont c aR {x with T:=aS} q=cont c σ x q):=by
 refine bh.mk (λe=>aiQ (first:=[]) (cap:=[]) e rfl) ?_;unfold PJ;have ag:x∈σ.au:=by rw[aA];simp
 refine cM (apR (cs:=eC x.T p) rfl) λg1 ct dR bb=> ?_
 have cf:bf g1 (g1.aB 7):=aM.aB _ _ _;have aam:=bb.trans cf;have bk:=k.ext aam;have ro:ρ h.next=0:=k.fresh (Nat.le_refl _);have ov:=(bk.sys.au x ag).field.2;rw[dd]at ov;have ky:=k.inv.lt ag fL;have gb:bP g1 h.next 0=some (.int .i64 (p:Nat)):=ct.rd 0;simp only[cl,qX,Nat.zero_add,ar,m4,dd,ov,HW,cW,gb];have n1:=bk.zy;refine b4 (Ym bk.ps (bk.ly ag) (λf aJ=>(bk.inv.node x f ag aJ).1) (bk.inv.tight x ag) n1 (bk.DP ag) fL) ?_;rintro _ g4 ⟨rfl,cA,cK,cH,aS,gY,tn,t4,bO,rF,v7⟩;rw[k.ef.n]at gY;have ik:=k.inv.jy ag fL;have hm:=k2 ik;have Ev:∀f,b2 f bj.zero=false:=λf=>rfl
 have Ew:∀f,dg f bj.zero=false:=λf=>rfl
 have fK:∀f,IsNode aS f->¬IsNode x.T f->refs σ f=0/\(0:Int)=0:=λf h1 ab=>by have h0:=k.inv.uf (λf=>Int.le_refl 0) ((gY.ok.lvl _ _ f h1.choose_spec.choose_spec).2.2) (gY.new f h1 ab);exact⟨h0.1,rfl⟩
 have i4:=k.inv.ent aA gY ky (λf=>(b2 f (x.T.ent p)).toNat) (λi=>(dg i (x.T.ent p)).toNat) (λf=>by rw[Ev];simp) (λi=>by rw[Ew];simp) fK (λh=>absurd rfl h) (λh=>by cases h) (λh=>by cases h) (λh=>by cases h) (λh=>by cases h) (λh=>by cases h);have n2:=k.inv.Fh aA gY fK;have va:hh g4 X.A x.t (nodeAt aS 0 0) aS.ee:=t4.obj;have m2:=bk.sys.table aA tn va bO;have Kn:Good g4 X c ρ {σ with mem:=cA,held:=cK,free:=cH,au:=a++{x with T:=aS}::b} (λf=>(b2 f (x.T.ent p)).toNat) (λi=>(dg i (x.T.ent p)).toNat):=⟨m2,i4,k.ef,k.sec,k.iN⟩;have Lx:=(k.sys.au x ag).role;have fq:bX ρ (g1.aB 7) g4:=bX.of bO λi _ e=>by
  rcases e with e|rfl
  ·have:=k.sys.core.mv e;omega
  ·omega
 have mj:(g1.aB 7).next=g1.next+7:=rfl
 have zT:=bO.next;have dG:=fq.c0 (ct.ext cf (by omega)) (by omega) ro;have cS:bP g4 h.next 1=some (.bool (x.T.ent p).here):=dG.rd 1;have hI:bP g4 h.next 5=some (.int .i64 (x.T.ent p).n):=dG.rd 5;have vf:bf g4 (g4.aB 11):=aM.aB _ _ _;have g5:=Kn.ext vf;have oj:=g5.sys.field.1;have eu:=g5.sys.field.2.2.2;have apD:=(g5.sys.au {x with T:=aS} (fe.2 (.inl rfl))).field.1;have Oa:bP (g4.aB 11) x.s 0=some (.ptr X.M 0):=apD;rw[dd]at oj eu Oa;have fA:(((x.T.ent p).n.toNat:Nat) :Int)=(x.T.ent p).n:=by have:=hm.1;omega
 have gf:bX ρ h (g4.aB 11):=((bX.ext (ρ:=ρ) aam).trans fq (λ_ _=>rfl)).trans (bX.ext (ρ:=ρ) vf) (λ_ _=>rfl);simp only[eh,qY,lZ,l0,Nat.zero_add,ar,km,cS,ba];by_cases aD:(x.T.ent p).here=true
 ·rw[if_pos aD];have kh:=k.inv.here x p ag aD;simp only[cl,qW,k7,ar,mA,ha,cW,dd,Oa,oj,hI];rw[<-fA];have kW:∀f,((b2 f (x.T.ent p)).toNat:Int)<=1:=λf=>by have:=Bool.toNat_le (b2 f (x.T.ent p));omega
  obtain⟨g6,kc,gS,eL,c'⟩:=L' (d:=λf=>((b2 f (x.T.ent p)).toNat:Int)) g5 (n:=(x.T.ent p).n.toNat) kh (λf=>by omega) (λf=>by have:=kW f;omega) (by rw[iL k.inv ag aD];simp);rw[kc];simp only[c3,eh];refine aV.pure ⟨gf.trans (bX.own gS) (λ_ _=>rfl),_,aS,gY.ent,rfl,⟨eL.sys,Aa eL.inv (λf=>by rw[Ab aD hm.1];omega) (λi=>by rw[CX ik aD];rfl),eL.ef,eL.sec,eL.iN⟩,rfl,rfl,?_,Nat.le_refl _,λy q aq=>(lG (λ_=>rfl) (λ_=>rfl)).trans (n2.1 y q aq),λq aF=>(lG (σ:={σ with mem:=cA,held:=cK,free:=cH,au:=a++{x with T:=aS}::b}) (λ_=>rfl) (λ_=>rfl)).trans (n2.2 q aF)⟩;show σ.free<=if cK _=1 then cH+1 else cH
  split<;>omega
 ·rw[if_neg aD];have bg:(x.T.ent p).out=true:=by
   cases bg:(x.T.ent p).out with
   |true=>rfl
   |false=>exact absurd (Fi (λ_=>ik) bg (by simpa using aD)) fL
  have hP:=k.inv.out x p ag bg;have ju:∀f,b2 f (x.T.ent p)=false:=λf=>by unfold b2;rw[show(x.T.ent p).here=false by simpa using aD];rfl
  have dq:∀i,dg i (x.T.ent p)=decide (i=(x.T.ent p).n.toNat):=λi=>by unfold dg;rw[bg,Bool.true_and,Bool.eq_iff_iff];simp;have:=hm.1;omega
  have xU:=k.inv.Nf ag bg (Int.le_refl 0);have b6:=k.NW (λf=>by show(0:Int)<=16;omega) hP;simp only[cl,qW,tv,Nat.zero_add,ar,mA,m3,cW,dd,Oa,eu,hI];rw[<-fA];refine b4 (Vg g5 (i:=(x.T.ent p).n.toNat) hP (by show σ.bY _≠0;omega) (by show σ.bY _<_;omega)) ?_;rintro v g6 ⟨gS,eL⟩;refine aV.pure ⟨gf.trans (bX.own gS) (λ_ _=>rfl),_,aS,gY.ent,rfl,⟨eL.sys,Aa eL.inv (λf=>by rw[ju];rfl) (λi=>by rw[dq];omega),eL.ef,eL.sec,eL.iN⟩,rfl,rfl,rF,?_,λy q aq=>(lG (λ_=>rfl) (λ_=>rfl)).trans (n2.1 y q aq),λq aF=>(lG (σ:={σ with mem:=cA,held:=cK,free:=cH,au:=a++{x with T:=aS}::b}) (λ_=>rfl) (λ_=>rfl)).trans (n2.2 q aF)⟩;show(if σ.bY _=1 then σ.used-1 else σ.used)<=σ.used;split<;>omega
end
end
section
variable{PV:cn} [cN PV]
theorem anc{E:Env}{t e:TypeId}{i ie:bK}(aW:E.ty t=some i)(aC:i.desc=.pointer e)(he:E.ty e=some ie)(aA:Nat.beq ie.size 0=false){h:ae}{a b:Nat}{l bQ:List aa}(k3:a8.Obj h a l)(ob:a8.Obj h b bQ) :
  ax E h .eql t (.ptr a 0) (.ptr b 0)=some (.bool (decide (a=b))):=by
 obtain⟨z,t1,kT⟩:=k3.live;obtain⟨aaO,t2,oM⟩:=ob.live;have aj:Nat.beq a b=decide (a=b):=by
  by_cases h:a=b
  ·subst h;simp[rY]
  ·rw[decide_eq_false h,Go.a8.beq_false];exact h
 simp[ax,uc,gE,aW,aC,he,aA,kT,oM,bT.wK,aj]
theorem aqs{h:ae}{a b:Nat}{l bQ:List aa}(k3:a8.Obj h a l)(ob:a8.Obj h b bQ) :ax J h .eql 48 (.ptr a 0) (.ptr b 0)=some (.bool (decide (a=b))):=
 anc (i:=p7) (ie:=DV) (by kernel_rfl) rfl (by kernel_rfl) rfl k3 ob
def pY(l:List Nat) :List (List aa):=(l.map λy=>aa.ptr y 0).map one
theorem wH(l:List Nat) :(pY l).length=l.length:=by simp[pY]
theorem ang{l:List Nat}{i y:Nat}(h:l[i]? =some y) :(pY l)[i]? =some [aa.ptr y 0]:=by simp[pY,h,one]
theorem Ss{h:ae}{eV s y:Nat}{ls Mo:List aa}(ob:a8.Obj h eV [.ptr s 0])(os:a8.Obj h s ls)(hV:a8.Obj h y Mo) :call J PV (.func 105 [] [.ptr eV 0]) [.ptr y 0] h=some (.bool (decide (y=s)),h):=by refine aiT (x:=.ret) (vs:=[.bool (decide (y=s))]) (first:=[]) (cap:=[.ptr eV 0]) ?_ rfl;simp only[PM,tA,Obj.get ob (i:=0) rfl,ar,aqs hV os]
theorem arS{h:ae}{v:aa}{a b:List Nat}{s eV:Nat}(r:gg h 1 v (pY (a++s::b)))(ob:a8.Obj h eV [.ptr s 0])(aF:∀y,y∈a++s::b->∃l,a8.Obj h y l)(pA:∀y,y∈a->y≠s)(aw:(a++s::b).length<=4096) :
  bh (call J PV (.func 177 [] []) [v,.func 105 [] [.ptr eV 0]] h) λw g=>w=.int .i64 (a.length:Nat)/\g=h:=by
 refine bh.mk (λe=>ajl (first:=[]) (cap:=[]) e rfl) ?_;unfold Qg;have ay:=r.len (T:=75) (si:=q5) (by kernel_rfl) rfl;rw[wH]at ay;have v':(a++s::b).length=a.length+b.length+1:=by simp;omega
 simp only[ay,ar];refine hX (n:=14) (I:=λi vs g=>vs=[.int .i64 0,.int .i64 (i:Nat)]/\g=h) (m:=a.length) (P:=λx vs g=>x=.ret/\(∃c,vs=[.int .i64 (a.length:Nat),c])/\g=h) (Nat.lt_of_le_of_lt (show a.length<=4096 by omega) (by decide)) ⟨rfl,rfl⟩ ?_ ?_
 ·rintro i _ _ af ⟨rfl,rfl⟩;have bo:(i:Int) <((a++s::b).length:Nat):=by omega
  simp only[bz,bp,dk,decide_eq_true bo,ar,ba,if_true];obtain⟨y,aq⟩ :∃y,(a++s::b)[i]? =some y:=⟨_,List.getElem?_eq_getElem (by omega)⟩;obtain⟨id,cap,ex,l,ai,ab,o,al,_,_,hE⟩:=r.at (ang aq);rw[wH]at ai al;have iE:=hE 0 (by decide);rw[Nat.mul_one,Nat.add_zero]at iE;rw[ai];obtain⟨Mo,hV⟩:=aF y (List.mem_of_getElem? aq);obtain⟨ls,os⟩:=aF s (by simp);simp only[DL al,ar,Nat.zero_add,tA,iE,List.getElem?_cons_zero,Ss ob os hV,c3,ba];by_cases f_:y=s
  ·have:i=a.length:=by
    by_cases K8:i<a.length
    ·rw[List.getElem?_append_left K8]at aq;exact absurd f_ (pA y (List.mem_of_getElem? aq))
    ·omega
   subst this;rw[if_pos (by simpa using f_)];exact aV.pure (.inr ⟨by simp,rfl,⟨_,rfl⟩,rfl⟩)
  ·have:i<a.length:=by
    by_cases K8:i<a.length
    ·exact K8
    ·have:i=a.length:=by omega
     subst this;simp at aq;exact absurd aq.symm f_
   rw[if_neg (by simpa using f_)];have aG:b0 .i64 ((i:Int) +1)=((i+1:Nat) :Int):=by rw[wrap_i64 (by omega) (by omega)];omega
   simp only[du,aG,ar];exact aV.pure (.inl ⟨rfl,this,rfl,rfl⟩)
 ·rintro x _ g ⟨rfl,⟨c,rfl⟩,rfl⟩;simp only[bz,bp,pj];exact aV.pure ⟨rfl,rfl⟩
theorem ac9{h:ae}{v:aa}{a b:List Nat}{s eV:Nat}(r:gg h 1 v (pY (a++s::b)))(hex:oO v=true)(ob:a8.Obj h eV [.ptr s 0])(KL:eV<h.next)(FN:cI v≠some eV)(aF:∀y,y∈a++s::b->(∃l,a8.Obj h y l)/\y<h.next/\cI v≠some y)
  (pA:∀y,y∈a++b->y≠s) (aw:(a++s::b).length<=4096) :
  bh (call J PV (.func 104 [] []) [v,.func 105 [] [.ptr eV 0]] h) λw g=>gg g 1 w (pY (a++b))/\oO w=true/\aM (λi=>cI v=some i) h g/\g.next=h.next/\cI w=cI v/\w.cells=[w]/\dH w=true:=by
 refine bh.mk (λe=>aiS (first:=[]) (cap:=[]) e rfl) ?_;unfold PL;have v':(a++s::b).length=a.length+b.length+1:=by simp;omega
 refine b4 (arS r ob (λy aq=>(aF y aq).1) (λy aq=>pA y (by simp[aq])) aw) ?_;rintro _ g ⟨rfl,e⟩;have de:=e.symm;subst de;have fm:¬((a.length:Nat) :Int)= -1:=by omega
 have fU:b0 .i64 ((a.length:Int) +1)=((a.length+1:Nat) :Int):=by rw[wrap_i64 (by omega) (by omega)];omega
 simp only[dn,decide_eq_false fm,ar,ba,Bool.false_eq_true,if_false,du,fU];rcases r.2 with⟨_,h0⟩ |⟨id,cap,ex,fC,rfl,ab,al,o,aL⟩
 ·simp[pY]at h0
 rw[wH]at al aL hex;rw[show(pY (a++s::b)).flatten=(a++s::b).map λy=>aa.ptr y 0 from Ft _]at o;rw[wH]at FN aF;rw[wH];have Ce:ex=false:=by simpa [oO]using hex
 subst Ce;rw[v']at al aL aw;rw[v'];have afj:eV≠id:=λe=>FN (by rw[e];rfl)
 have qB:∀y,y∈a++s::b->(∃l,a8.Obj h y l)/\y<h.next/\y≠id:=λy aq=>⟨(aF y aq).1,(aF y aq).2.1,λe=>(aF y aq).2.2 (by rw[e];rfl)⟩
 let kC:List aa:=a.map λy=>aa.ptr y 0
 let gG:List aa:=b.map λy=>aa.ptr y 0
 have yf:kC.length=a.length:=by simp[kC]
 have tc:gG.length=b.length:=by simp[gG]
 have o:a8.Obj h id (kC++(aa.ptr s 0::gG)++fC):=by simpa [kC,gG]using o
 refine hX (n:=14) (I:=λk vs g=>vs=[.int .i64 ((a.length+k:Nat) :Int),.int .i64 ((a.length+1+k:Nat) :Int)]/\a8.Obj g id (kC++gG.take k++(aa.ptr s 0::gG).drop k++fC)/\aM (λi=>i=id) h g/\g.next=h.next)
  (m:=b.length) (P:=λx vs g=>x=.exit 0/\(∃c,vs=[.int .i64 ((a.length+b.length:Nat) :Int),c])/\(∃z,a8.Obj g id (kC++gG++z::fC))/\aM (λi=>i=id) h g/\g.next=h.next) (Nat.lt_of_le_of_lt (show b.length<=4096 by omega) (by decide)) ⟨by simp,by simpa using o,aM.refl _ _,rfl⟩ ?_ ?_
 ·rintro k _ g av ⟨rfl,tl,ia,rZ⟩;simp only[bz,bp,aqj,dk,ar,ba];by_cases oI:k<b.length
  ·rw[if_pos (by simp;omega)];have ry:a.length+1+k<a.length+b.length+1:=by omega
   obtain⟨y,aq⟩ :∃y,b[k]? =some y:=⟨_,List.getElem?_eq_getElem oI⟩;have Lq:gG[k]? =some (aa.ptr y 0):=by simp[gG,aq]
   have uA:y∈a++s::b:=by simp[List.mem_of_getElem? aq]
   have Ca:(aa.ptr s 0::gG).drop k=(aa.ptr s 0::gG)[k]'(by simp[tc];omega)::(aa.ptr s 0::gG).drop (k+1):=List.drop_eq_getElem_cons (by simp[tc];omega);have afB:(aa.ptr s 0::gG).drop (k+1)=aa.ptr y 0::gG.drop (k+1):=by rw[List.drop_succ_cons,List.drop_eq_getElem_cons (by rw[tc];exact oI)];congr 1;rw[List.getElem?_eq_getElem (by rw[tc];exact oI)]at Lq;exact Option.some.inj Lq
   generalize aP:(aa.ptr s 0::gG)[k]'(by simp[tc];omega)=z at Ca;have lt:(gG.take k).length=k:=by simp[tc];omega
   have aW:gG.take (k+1)=gG.take k++[aa.ptr y 0]:=by rw[List.take_add_one,Lq];rfl
   have rd:bP g id (a.length+1+k)=some (aa.ptr y 0):=by rw[tl.rd,Ca,afB];rw[List.append_assoc,List.append_assoc,List.getElem?_append_right (by rw[yf];omega),List.getElem?_append_right (by rw[yf,lt];omega),yf,lt,show a.length+1+k-a.length-k=1 by omega];rfl
   obtain⟨⟨Mo,hV⟩,akQ,akR⟩:=qB y uA;obtain⟨⟨ls,os⟩,nD,qL⟩:=qB s (by simp);have f_:y≠s:=pA y (by simp[List.mem_of_getElem? aq]);have aH:=Ss (ob.az ia KL afj) (os.az ia nD qL) (hV.az ia akQ akR);simp only[DL ry,ar,Nat.zero_add,tA,rd,aH,c3,fD,decide_eq_false f_,Bool.not_false,ba,if_true,DL (show a.length+k<a.length+b.length+1 by omega)];have agh:(kC++gG.take k++(aa.ptr s 0::gG).drop k++fC).length=a.length+b.length+1+fC.length:=by simp[yf,tc];omega
   refine fO (P:=λx vs cw=>x=.normal/\vs=[.int .i64 ((a.length+(k+1) :Nat) :Int)]/\a8.Obj cw id (kC++gG.take (k+1)++(aa.ptr s 0::gG).drop (k+1)++fC)/\aM (λi=>i=id) h cw/\cw.next=h.next) ?_ ?_
   ·refine cX (aqB (k:=a.length+k) (v:=.ptr y 0) tl (by rw[agh];omega) rfl rfl) λg1 ⟨ct,bb,dR⟩=> ?_
    have aG:b0 .i64 (((a.length+k:Nat) :Int) +1)=((a.length+(k+1) :Nat) :Int):=by rw[wrap_i64 (by omega) (by omega)];omega
    simp only[du,aG,ar];refine aV.pure ⟨rfl,rfl,?_,ia.trans bb,dR.trans rZ⟩;have:(kC++gG.take k++(aa.ptr s 0::gG).drop k++fC).set (a.length+k) (aa.ptr y 0)=kC++gG.take (k+1)++(aa.ptr s 0::gG).drop (k+1)++fC:=by
     rw[Ca,aW];have aT:a.length+k=(kC++gG.take k).length:=by rw[List.length_append,yf,lt]
     rw[List.append_assoc,aT,List.set_append_right _ _ (Nat.le_refl _),Nat.sub_self];simp
    rw[this]at ct;exact ct
   ·rintro _ _ g1 ⟨rfl,rfl,ct,bb,dR⟩;have aG:b0 .i64 (((a.length+1+k:Nat) :Int) +1)=((a.length+1+(k+1) :Nat) :Int):=by rw[wrap_i64 (by omega) (by omega)];omega
    simp only[bz,bp,jd,du,aG,ar];exact aV.pure (.inl ⟨rfl,oI,rfl,ct,bb,dR⟩)
  ·rw[if_neg (by simp;omega)];have:k=b.length:=by omega
   subst this;refine aV.pure (.inr ⟨by simp,rfl,⟨_,rfl⟩,?_,ia,rZ⟩);have aC:∃z,(aa.ptr s 0::gG).drop b.length=[z]:=by
    have:((aa.ptr s 0::gG).drop b.length).length=1:=by simp[tc]
    exact List.length_eq_one_iff.1 this
   obtain⟨z,aP⟩:=aC;refine⟨z,?_⟩;rw[aP,List.take_of_length_le (by omega)]at tl;simpa using tl
 ·rintro x _ g ⟨rfl,⟨c,rfl⟩,⟨z,tl⟩,ia,rZ⟩;have J1:J.ty 75=some q5:=by kernel_rfl
  have vP:J.ty 48=some p7:=by kernel_rfl
  have s1:=AN J1 rfl vP g (id:=id) (off:=0) (len:=a.length+b.length+1) (cap:=cap) (ex:=false) (RW (len:=a.length+b.length+1) (cap:=cap) (ex:=false) (l:=a.length+b.length) (by omega));have aP:p7.size=1:=rfl;rw[aP]at s1;simp only[bz,bp,hs,if_true,XR,s1,ar];obtain⟨cw,Jr,yl,D7,nc⟩:=Sr (T:=75) J1 rfl vP rfl rfl (z:=.nilPtr) rfl rfl (id:=id) (off:=0+(a.length+b.length) *1) (n:=a.length+b.length+1-(a.length+b.length)) (cap:=cap-(a.length+b.length)) (ex:=false) tl (by simp[yf,tc];omega);rw[Jr];have s2:=AN J1 rfl vP cw (id:=id) (off:=0) (len:=a.length+b.length+1) (cap:=cap) (ex:=false) (RV (len:=a.length+b.length+1) (cap:=cap) (ex:=false) (r:=a.length+b.length) (by omega));rw[aP]at s2;simp only[ar,XQ,s2];have aG:a.length+b.length+1-(a.length+b.length)=1:=by omega
  rw[aG,Nat.zero_add,Nat.mul_one]at yl;have aT:(kC++gG++z::fC).take (a.length+b.length)++List.replicate 1 aa.nilPtr++(kC++gG++z::fC).drop (a.length+b.length+1)=kC++gG++aa.nilPtr::fC:=by
   have bJ:a.length+b.length=(kC++gG).length:=by simp[yf,tc]
   have t1:(kC++gG++z::fC).take (a.length+b.length)=kC++gG:=by rw[bJ,List.take_left]
   have t2:(kC++gG++z::fC).drop (a.length+b.length+1)=fC:=by rw[bJ,List.drop_append,List.drop_of_length_le (by omega),List.nil_append,show(kC++gG).length+1-(kC++gG).length=1 by omega];rfl
   rw[t1,t2];simp
  rw[aT]at yl;have w:=ia.trans D7;refine aV.pure ⟨⟨λr an=> ?_,.inr ⟨id,cap,false,.nilPtr::fC,?_,?_,?_,?_,?_⟩⟩,rfl,?_,nc.trans rZ,rfl,rfl,rfl⟩
  ·obtain⟨y,_,rfl⟩:=List.mem_map.1 an;rfl
  ·rw[wH];show aa.slice id (0+0*1) (a.length+b.length-0) (cap-0) 1 false=_;simp
  ·exact Nat.lt_of_lt_of_le ab w.next
  ·rw[wH];simp;omega
  ·rw[show(pY (a++b)).flatten=(a++b).map λy=>aa.ptr y 0 from Ft _];simpa [kC,gG]using yl
  ·rw[wH];simp;omega
  ·exact w.mono λi _ e=>by rw[e];rfl
end
section
variable{PV:cn} [cN PV]
theorem X1(ent:Nat->bj)(lo:Nat) :∀n,(dI ent lo n).Nodup
 |0=>List.nodup_nil
 |n+1=>by
  have b1:=X1 ent lo n;unfold dI;by_cases h:ent (lo+n)=.zero
  ·rw[if_pos h,List.append_nil];exact b1
  ·rw[if_neg h];refine List.nodup_append.2 ⟨b1,List.nodup_cons.2 ⟨by simp,List.nodup_nil⟩,λx ag y aq=> ?_⟩;rw[List.mem_singleton]at aq;have:=(yh.1 ag).2.1;omega
theorem aoi{T:dt}{h:ae}{lo:Nat}{v:aa}(aI:∀p,T.ent p≠.zero->p<4096)(r:Row h 6 lo v ((dI T.ent 0 4096).map (eC T))) :
  ∃L:List Nat,L.length<=4096/\L.Nodup/\(∀p,p∈L↔T.ent p≠.zero)/\Row h 6 lo v (L.map (eC T)):=
 ⟨_,N0 _,X1 _ _ _,λp=>MC (aI p),r⟩
structure rb(c:df)(σ:b8)(a:List bH)(x:bH)(b:List bH)(Q:Nat->Prop)(aR:b8)(aS:dt) :Prop where
 au:aR.au=a++{x with T:=aS}::b
 ent:∀p,Q p->aS.ent p=.zero
 c0:∀p,¬Q p->aS.ent p=x.T.ent p
 sec:aR.sec=σ.sec
 ring:aR.ring=σ.ring
 free:σ.free<=aR.free
 used:aR.used<=σ.used
 Au:∀y q,y∈a++b->cont c aR y q=cont c σ y q
 own:∀q,¬Q q->cont c aR {x with T:=aS} q=cont c σ x q
section
variable{h g:ae}{X:ew}{c:df}{ρ bD:Nat->Nat}{σ aR:b8}{d e:Nat->Int}{a b:List bH}{x:bH}{Q I1:Nat->Prop}{aS:dt}
theorem rb.refl(aA:σ.au=a++x::b)(aF:∀p,¬Q p) :rb c σ a x b Q σ x.T:=⟨aA,λp aI=>absurd aI (aF p),λ_ _=>rfl,rfl,rfl,Nat.le_refl _,Nat.le_refl _,λ_ _ _=>rfl,λ_ _=>rfl⟩
theorem rb.congr(k:rb c σ a x b Q aR aS)(h:∀p,I1 p↔Q p) :rb c σ a x b I1 aR aS:=by
 have:I1=Q:=funext λp=>propext (h p)
 rw[this];exact k
theorem rb.step(k:rb c σ a x b Q aR aS){b5:b8}{y9:dt}{p:Nat}(he:y9.ent=az aS.ent p .zero)(aA:b5.au=a++{x with T:=y9}::b)(h1:b5.sec=aR.sec)(ab:b5.ring=aR.ring)(al:aR.free<=b5.free)(aE:b5.used<=aR.used)
  (aL:∀y q,y∈a++b->cont c b5 y q=cont c aR y q) (bm:∀q,q≠p->cont c b5 {x with T:=y9} q=cont c aR {x with T:=aS} q) :rb c σ a x b (λq=>Q q\/q=p) b5 y9 where
 au:=aA
 ent:=λq aF=>by
  rw[he];by_cases e:q=p
  ·subst e;rw[e4]
  ·rw[eE _ _ e];exact k.ent q (aF.resolve_right e)
 c0:=λq aF=>by rw[he,eE _ _ (λe=>aF (.inr e))];exact k.c0 q λe=>aF (.inl e)
 sec:=h1.trans k.sec
 ring:=ab.trans k.ring
 free:=Nat.le_trans k.free al
 used:=Nat.le_trans aE k.used
 Au:=λy q aq=>(aL y q aq).trans (k.Au y q aq)
 own:=λq aF=>(bm q λe=>aF (.inr e)).trans (k.own q λe=>aF (.inl e))
theorem Sys.apt(k:Sys h X ρ σ)(aA:σ.au=a++x::b){mem held:Nat->Nat}{free:Nat}(p:fI g X.A mem held free)(u:aM (λi=>gq X.A i\/i=x.t\/i=x.s\/i=X.M\/ρ i=14) h g)
  {eg:aa} (pW:a8.Obj g X.M [.ptr X.A.p 0,.ptr X.F.f 0,.ptr X.k 0,.ptr X.R.a 0,eg]) (hK:gg g 1 eg (((a++b).map λx=>aa.ptr x.s 0).map one)) (ex:oO eg=true) (dO:∀b,cI eg=some b->ρ b=14) :
  Sys g X ρ {σ with mem:=mem,held:=held,free:=free,au:=a++b}:=by
 have ag:x∈σ.au:=by rw[aA];simp
 have rx:=(k.au x ag).role;have j3:=k.j3;have dq:∀i,(gq X.A i\/i=x.t\/i=x.s\/i=X.M\/ρ i=14)->ρ i<=3/\1<=ρ i\/(13<=ρ i/\ρ i<=16):=by
  rintro i (af|rfl|rfl|rfl|af)
  ·have:=k.core.mv af;omega
  ·omega
  ·omega
  ·omega
  ·omega
 have ay:=k.core.lt;have e3:=k.core.e3;have f':=k.core.f';have ga:=k.core.ga;have eB:=k.core.eB
 have nB:Core g X ρ {σ with mem:=mem,held:=held,free:=free,au:=a++b}:=
  {ps:=p
   jV:=k.core.jV.az u ⟨λe=>by have:=dq _ e;omega,λe=>by have:=dq _ e;omega⟩
   hi:=k.core.hi.az u ⟨λe=>by have:=dq _ e;omega,λe=>by have:=dq _ e;omega⟩
   fl:=k.core.fl.az u ⟨λe=>by have:=dq _ e;omega,λb aj e=>by have:=dq _ e;have:=eB.2.1 b aj;omega,λn b aw aj e=>by have:=dq _ e;have:=eB.2.2 n b aw aj;omega⟩
   dX:=k.core.dX.c0 u (λi af _=>by have:=dq i af;omega) (λ_ _=>rfl) ay k.core.gH
   e3:=e3,f':=f',ga:=ga,gH:=k.core.gH,r0:=k.core.r0,eB:=eB
   lt:=λi af=>Nat.lt_of_lt_of_le (ay i af) u.next}
 have nI:=(jA (R:=λx y:bH=>x.s≠y.s/\x.t≠y.t) (λa b aw=>⟨aw.1.symm,aw.2.symm⟩)).1 (aA▸k.iP);refine⟨nB,⟨eg,pW,hK,ex,dO⟩,j3,λy aq=> ?_,nI.2⟩;have aq:y∈a++b:=aq;have od:y∈σ.au:=by rw[aA];exact fe.2 (.inr aq)
 have rV:=k.au y od;have iO:=rV.role;have c':=nI.1 y aq;obtain⟨hT,ol,iY,lU⟩:=rV.str;have G2:∀i,15<=ρ i->i≠x.t->i≠x.s->¬(gq X.A i\/i=x.t\/i=x.s\/i=X.M\/ρ i=14):=by
  rintro i h1 ab al (af|af|af|rfl|af)
  ·have:=k.core.mv af;omega
  ·exact ab af
  ·exact al af
  ·omega
  ·omega
 refine⟨⟨hT,ol.az u (ay _ (by omega)) (G2 _ (by omega) (λe=>by rw[e]at iO;omega) (λe=>c'.1 e.symm)),iY.az u (λb cap ex e=>G2 b (by have:=lU b (by rw[e];rfl);omega) (λde=>by have:=lU b (by rw[e];rfl);rw[de]at this;omega) (λde=>by have:=lU b (by rw[e];rfl);rw[de]at this;omega)),lU⟩,Obj.az rV.ly u (ay _ (by omega)) (G2 _ (by omega) (λe=>c'.2 e.symm) (λe=>by rw[e]at iO;omega)),iO⟩
theorem asd:dY J 161 []=some (.agg [.nilPtr,.nilPtr,.bI]):=by kernel_rfl
theorem WY(l:List bH) :(l.map λx=>aa.ptr x.s 0).map one=pY (l.map (·.s)):=by simp[pY,Function.comp_def]
theorem St(k:Good h X c ρ σ (λ_=>0) (λ_=>0))(aA:σ.au=a++x::b) :
  bh (call J PV (.func 41 [] []) [.ptr x.s 0] h) λv g=>v=.int .i64 0/\bX ρ h g/\a8.Obj g x.s [.nilPtr,.nilPtr,.bI]/\∃aR,Good g X c ρ aR (λ_=>0) (λ_=>0)/\aR.au=a++b/\aR.sec=σ.sec/\aR.ring=σ.ring/\σ.free<aR.free/\aR.used<=σ.used/\
   ∀y q,y∈a++b->cont c aR y q=cont c σ y q:=by
 refine bh.mk (λe=>akg (first:=[]) (cap:=[]) e rfl) ?_;unfold Q_;have ag:x∈σ.au:=by rw[aA];simp
 refine cM (apY (cs:=[.ptr x.s 0]) rfl) λg1 ct dR bb=> ?_
 have bk:=k.ext bb;have ro:ρ h.next=0:=k.fresh (Nat.le_refl _);simp only[tA,Obj.get ct (i:=0) rfl,ar,HD (bk.sys.au x ag),c3,dP];rw[show(decide ((0:Int)≠0))=false by decide];simp only[ba,Bool.false_eq_true,if_false,cl,qX,Nat.zero_add,ar,m4,(bk.sys.au x ag).field.2];refine b4 (EJ bk.ps (bk.ly ag)) ?_;rintro v9 g2 ⟨eK,bn⟩;obtain⟨L,dB,db,ei,eK⟩:=aoi (λp aI=>k.inv.lt ag aI) eK;have hlen:=eK.len (T:=175) (E:=J) (si:=sc) (by kernel_rfl) rfl;rw[List.length_map]at hlen;rw[hlen];simp only[ar];have jC:=bb.trans bn;have b_:=k.ext jC;have qz:=bn.next;have cE:=ct.ext bn (by omega);have fr:∀i,h.next<=i->ρ i=0:=λi af=>k.fresh af
 refine hX (n:=14) (I:=λi vs g=>vs=[.int .i64 (i:Nat)]/\bX ρ g2 g/\i<=L.length/\∃aR aS,Good g X c ρ aR (λ_=>0) (λ_=>0)/\rb c σ a x b (λp=>p∈L.take i) aR aS) (m:=L.length)
  (P:=λy vs g=>y=.exit 0/\(∃c,vs=[c])/\bX ρ g2 g/\∃aR aS,Good g X c ρ aR (λ_=>0) (λ_=>0)/\rb c σ a x b (λp=>p∈L) aR aS) (Nat.lt_of_le_of_lt dB (by decide)) ⟨rfl,aM.refl _ _,Nat.zero_le _,σ,x.T,b_,rb.refl aA (by simp)⟩ ?_ ?_
 ·rintro i _ g af ⟨rfl,w,_,aX,mH,hn,kb⟩;simp only[bz,bp,dk,ar,ba];by_cases ci:i<L.length
  ·rw[if_pos (by simp;omega)];obtain⟨p,aI⟩ :∃p,L[i]? =some p:=⟨_,List.getElem?_eq_getElem ci⟩;have rQ:L.take (i+1)=L.take i++[p]:=by rw[List.take_add_one,aI];rfl
   have Uo:p∉L.take i:=λfZ=>by have h1:=db;rw[<-List.take_append_drop i L]at h1;refine(List.nodup_append.1 h1).2.2 p fZ p ?_ rfl;rw[List.mem_iff_getElem?];exact⟨0,by rw[List.getElem?_drop,Nat.add_zero];exact aI⟩
   have fL:mH.ent p≠.zero:=by rw[kb.c0 p Uo];exact(ei p).1 (List.mem_of_getElem? aI)
   have CE:Row g 6 g1.next v9 (L.map (eC x.T)):=eK.az w (λj aO _ e=>e (fr j (by omega)));obtain⟨dK,fV,Le,gK,mq,mh,rL,sU⟩:=CE.at (i:=i) (x:=eC x.T p) (by simp[aI]);rw[List.length_map]at fV mh;rw[fV];simp only[Ou mh,ar,Nat.zero_add];rw[sb mq (by omega),sU];simp only[ar];refine cM r_ λg6 eO n6 cJ=> ?_
   refine cX (q2 (k:=0) (cs:=eC x.T p) eO rfl (by simp[eC,bj.vs]) rfl) λg7 ⟨fj,fk,n7⟩=> ?_
   have fj:=ff fj rfl;have yN:bf g g7:=cJ.local fk (λj aO e=>by omega);have amm:=(w.c0 cE (by omega) ro).ext yN (by have:=w.next;omega);simp only[tA,Obj.get amm (i:=0) rfl,ar];rw[sb fj (by simp[eC,bj.vs])];simp only[ar];have uy:(aa.agg (List.take 6 (List.drop 0 (eC x.T p))))=.agg (eC mH p):=by show aa.agg (eC x.T p)=.agg (eC mH p);unfold eC;rw[kb.c0 p Uo]
   rw[uy];refine b4 (adh (x:={x with T:=mH}) (hn.ext yN) kb.au fL) ?_;rintro cx g8 ⟨hL,b5,y9,he,wi,aiw,h1,ab,al,aE,aL,bm⟩;have aG:b0 .i64 ((i:Int) +1)=((i+1:Nat) :Int):=by rw[wrap_i64 (by omega) (by omega)];omega
   simp only[du,aG,ar];refine aV.pure (.inl ⟨rfl,ci,rfl,(w.trans (bX.ext (ρ:=ρ) yN) (λ_ _=>rfl)).trans hL (λ_ _=>rfl),ci,b5,y9,aiw,(kb.step he wi h1 ab al aE aL bm).congr λq=> ?_⟩);rw[rQ];simp
  ·rw[if_neg (by simp;omega)];refine aV.pure (.inr ⟨by simp,rfl,⟨_,rfl⟩,w,aX,mH,hn,kb.congr λq=> ?_⟩);rw[List.take_of_length_le (by omega)]
 ·rintro y _ g3 ⟨rfl,⟨h3,rfl⟩,eJ,aX,mH,b3,kb⟩;have aP:∀p,mH.ent p=.zero:=λp=>by
   by_cases aI:p∈L
   ·exact kb.ent p aI
   ·rw[kb.c0 p aI];by_cases h0:x.T.ent p=.zero
    ·exact h0
    ·exact absurd ((ei p).2 h0) aI
  have Gp:({x with T:=mH} :bH)∈aX.au:=by rw[kb.au];simp
  have cO:=eJ.c0 cE (by omega) ro;have s0:=eJ.next;have N':=b3.sys.au _ Gp;have aoO:bP g3 x.s 1=some (.ptr x.t 0):=N'.field.2;simp only[bz,bp,hs,if_true,tA,Obj.get cO (i:=0) rfl,ar,cl,qX,Nat.zero_add,m4,aoO];obtain⟨f,jw,iD,s3,as1,sY,i1⟩:=b3.inv.aqS kb.au aP;have Ga:nodeAt mH 0 0=f:=by show(mH.bd 0 (pre 0 0)).getD 0=f;rw[yp (by decide)];rw[show mH.bd 0 0=some f from jw];rfl
  have ahi:nf g3 X.A aX.mem aX.held x.t mH.ee mH:=b3.ly Gp;have kY:¬gq X.A x.t/\x.t≠0:=b3.DP (x:={x with T:=mH}) Gp;refine b4 (ap1 b3.ps ahi aP (by rw[Ga];exact sY) b3.zy kY) ?_;rintro v25 g4 ⟨tn,bO⟩;rw[Ga]at tn;have bO:aM (λi=>gq X.A i\/i=x.t) g3 g4:=bO;have mf:=b3.sys.core.lt;have rx:ρ x.s=15/\ρ x.t=16:=N'.role;have j3:=b3.sys.j3;have C8:∀i,(ρ i=0\/4<=ρ i)->i≠x.t->¬(gq X.A i\/i=x.t):=by
   rintro i h1 ab (af|af)
   ·have:=b3.sys.core.mv af;omega
   ·exact ab af
  have dG:=cO.az bO (by omega) (C8 _ (.inl ro) (λe=>by rw[e]at ro;omega));obtain⟨hT,amJ,_,_⟩:=N'.str;have WI:a8.Obj g4 x.s [.ptr X.M 0,.ptr x.t 0,hT]:=Obj.az amJ bO (mf _ (by show ρ x.s≠0;omega)) (C8 _ (.inr (by show 4<=ρ x.s;omega)) (λe=>by have de:x.s=x.t:=e;rw[de]at rx;omega));obtain⟨eg,pW,hK,ex,dO⟩:=b3.sys.mem;have Hg:=pW.az bO (mf _ (by omega)) (C8 _ (.inr (by omega)) (λe=>by rw[e]at j3;omega));have O5:=hK.az bO (λdK gK=>C8 _ (.inr (by have:=dO dK gK;omega)) (λe=>by have:=dO dK gK;rw[e]at this;omega));simp only[tA,Obj.get dG (i:=0) rfl,ar,cl,qW,mA,Obj.get WI (i:=0) rfl,AZ,Nat.zero_add,DO,Obj.get Hg (i:=4) rfl];rw[WY,kb.au]at O5;have arh:gg g4 1 eg (pY (a.map (·.s)++x.s::b.map (·.s))):=by
   have:(a++({x with T:=mH} :bH)::b).map (·.s)=a.map (·.s)++x.s::b.map (·.s):=by simp
   rw[this]at O5;exact O5
  have atC:=b3.AQ;have rB:=b3.n;have age:(a.map (·.s)++x.s::b.map (·.s)).length=aX.au.length:=by rw[kb.au];simp
  have nI:=(jA (R:=λx y:bH=>x.s≠y.s/\x.t≠y.t) (λa b aw=>⟨aw.1.symm,aw.2.symm⟩)).1 (kb.au▸b3.sys.iP);have agq:∀y:bH,y∈a++b->y∈aX.au:=λy aq=>by rw[kb.au];exact fe.2 (.inr aq)
  have uv:∀y,y∈aX.au->(∃l,a8.Obj g4 y.s l)/\y.s<g4.next/\cI eg≠some y.s:=λy aq=>by obtain⟨lw,amS,_,_⟩:=(b3.sys.au y aq).str;have iO:=(b3.sys.au y aq).role;have b6:=mf y.s (by omega);exact⟨⟨_,amS.az bO b6 (C8 _ (.inr (by omega)) (λe=>by rw[e]at iO;omega))⟩,Nat.lt_of_lt_of_le b6 bO.next,λe=>by have:=dO _ e;omega⟩
  refine b4 (ac9 arh ex dG (by have:=bO.next;omega) (λe=>by have:=dO _ e;omega) (λy aq=> ?_) (λy aq=> ?_) (by rw[age];omega)) ?_
  ·rcases fe.1 aq with rfl|aq
   ·exact uv {x with T:=mH} Gp
   ·rw[<-List.map_append]at aq;obtain⟨z,nx,rfl⟩:=List.mem_map.1 aq;exact uv z (agq z nx)
  ·rw[<-List.map_append]at aq;obtain⟨z,nx,rfl⟩:=List.mem_map.1 aq;exact λe=>(nI.1 z nx).1 e.symm
  ·rintro wV g5 ⟨Ed,BX,cD,n5,oQ,afm,Ge⟩;have M4:=Hg.az cD (by have:=bO.next;have:=mf X.M (by omega);omega) (λe=>by have:=dO _ e;omega);have eH:=dG.az cD (by have:=bO.next;omega) (λe=>by have:=dO _ e;omega);have amK:=WI.az cD (by have:=bO.next;have:=mf x.s (by omega);omega) (λe=>by have:=dO _ e;omega);refine cX (YL (k:=4) (v:=wV) M4 (by simp) afm Ge) λg6 ⟨M5,cJ,n6⟩=> ?_
   have M5:a8.Obj g6 X.M [.ptr X.A.p 0,.ptr X.F.f 0,.ptr X.k 0,.ptr X.R.a 0,wV]:=M5;have eO:=eH.az cJ (by have:=bO.next;omega) (λe=>by rw[<-e]at j3;omega);have amL:=amK.az cJ (by have:=bO.next;have:=mf x.s (by omega);omega) (λe=>by rw[<-e]at j3;omega);simp only[tA,Obj.get eO (i:=0) rfl,ar,asd,cl];refine cX (aqw (k:=0) (cs:=[.nilPtr,.nilPtr,.bI]) amL rfl (by simp) rfl) λg7 ⟨fj,fk,n7⟩=> ?_
   have fj:=ff fj rfl;have amv:=M5.az fk (by have:=bO.next;have:=mf X.M (by omega);omega) (λe=>by rw[e]at j3;omega);have KK:∀dK,cI wV=some dK->ρ dK=14:=λdK gK=>dO dK (oQ▸gK)
   have O6:=(Ed.az cJ (λdK gK e=>by have:=KK dK gK;rw[e]at this;omega)).az fk (λdK gK e=>by have:=KK dK gK;rw[e]at this;omega);have aar:aM (λi=>gq X.A i\/i=x.t\/i=x.s\/i=X.M\/ρ i=14) g3 g7:=(((bO.mono λi _ e=>e.elim .inl (λe=>.inr (.inl e))).trans (cD.mono λi _ e=>.inr (.inr (.inr (.inr (dO i e)))))).trans (cJ.mono λi _ e=>.inr (.inr (.inr (.inl e))))).trans (fk.mono λi _ e=>.inr (.inr (.inl e)));have am3:=(((tn.c0 cD ?_).c0 cJ ?_).c0 fk ?_)
   ·have aoP:=b3.sys.apt (x:={x with T:=mH}) kb.au am3 aar amv (by rw[WY,List.map_append];exact O6) BX KK;have abj:=(jA (λ_ _=>nN.symm)).1 (kb.au▸b3.inv.ph);have Uf:∀y,y∈a++b->¬IsNode y.T f:=λy aq=>abj.1 y aq f ((s3 f).2 rfl)
    have sS:=i1.data f iD Uf
    have i2:=i1.held (f:=f) iD 0 (aX.free+1) (λ_=>0) Uf (by
     simp only[decide_true,Bool.toNat_true]at sS;have h1:((aX.held f:Nat) :Int)=1:=by rw[sY];rfl
     have ab:(({aX with au:=a++b} :b8).held f:Int)=1:=h1;rw[ab]at sS;show((0:Nat) :Int)=_
     omega) (λg aN=>by simp[aN]) (by
     show aX.free+1+(decide (aX.held f=0)).toNat=aX.free+(decide ((0:Nat)=0)).toNat
     rw[sY];rfl)
    refine aV.pure ⟨rfl,((bX.ext (ρ:=ρ) jC).trans eJ (λ_ _=>rfl)).trans (bX.of aar λi _ e=> ?_) (λ_ _=>rfl),fj,{aX with held:=az aX.held f 0,free:=aX.free+1,au:=a++b},⟨aoP,i2,k.ef,b3.sec,b3.iN⟩,rfl,kb.sec,kb.ring,by have:=kb.free;show σ.free<aX.free+1;omega,kb.used,λy q aq=>(lG (σ:=aX) (λ_=>rfl) (λ_=>rfl)).trans (kb.Au y q aq)⟩;rcases e with e|rfl|rfl|rfl|e
    ·have:=b3.sys.core.mv e;omega
    all_goals omega
   ·have h:=λi (af:gq X.A i)=>b3.sys.core.mv af
    have h6:=b3.sys.core.e3;have h0:=b3.sys.core.r0;exact⟨λe=>by have:=dO _ e;omega,λe=>by have:=dO _ e;omega,λe=>by have:=dO _ e;omega,λe=>by have:=dO _ e;omega⟩
   ·have h6:=b3.sys.core.e3;have h0:=b3.sys.core.r0;exact⟨λe=>by rw[e]at h6;omega,λe=>by rw[e]at h6;omega,λe=>by rw[e]at h6;omega,λe=>by rw[e]at h0;omega⟩
   ·have h6:=b3.sys.core.e3;have h0:=b3.sys.core.r0;exact⟨λe=>by rw[e]at h6;omega,λe=>by rw[e]at h6;omega,λe=>by rw[e]at h6;omega,λe=>by rw[e]at h0;omega⟩
end
end
section
variable{PV:cn} [cN PV]
section
variable{h g:ae}{X:ew}{c:df}{ρ bD:Nat->Nat}{σ aR:b8}{d e:Nat->Int}{a b:List bH}{x:bH}
theorem Inv.cH{l:Nat->Nat->Prop}(i:Inv c σ d e)(aH:∀x p,x∈σ.au->x.T.ent p≠.zero->cv x.L p≠none\/l x.s p) :Inv ⟨c.n,c.first,c.c1,c.iU,l⟩ σ d e:=
 ⟨i.jl,i.tight,i.ph,i.node,i.data,i.free,i.here,i.out,aH,i.slot,i.used,i.write,i.clean,i.ring,i.keys,i.hJ⟩
theorem Bx.cH{l:Nat->Nat->Prop}(s:Bx X c) :Bx X ⟨c.n,c.first,c.c1,c.iU,l⟩:=⟨s.n,s.first,s.c1,s.dh,s.loc,s.vU⟩
end
end
section
variable{PV:cn} [cN PV]
def bj.u3(s:bj) :bj:={s with write:=false,copy:=true}
theorem XP{s:bj}(h:s.may=true) :s.u3.may=true:=by
 unfold bj.may bj.u3 at*
 simp only[Bool.and_eq_true]at*
 exact⟨h.1,rfl⟩
section
variable{h g:ae}{X:ew}{c:df}{ρ bD:Nat->Nat}{σ aR:b8}{d e:Nat->Int}{a b:List bH}{x:bH}
theorem aoV(k:Good h X c ρ σ (λ_=>0) (λ_=>0))(e1:∀s p,¬c.loose s p)(aA:σ.au=a++x::b){p:Nat}(fL:x.T.ent p≠.zero) :
  bh (call J PV (.func 109 [] []) [.ptr x.t 0,.int .i64 p,(x.T.ent p).u3.eo] h) λv g=>bX ρ h g/\∃aR aS,aS.ent=az x.T.ent p (x.T.ent p).u3/\Good g X c ρ aR (λ_=>0) (λ_=>0)/\aR.au=a++{x with T:=aS}::b/\
   aR.free=σ.free/\aR.ring=σ.ring/\aR.sec=σ.sec/\aR.used=σ.used/\aR.bY=σ.bY/\aS.bd=x.T.bd/\(∀f,(∀y,y∈σ.au->¬IsNode y.T f)->σ.held f≠0->aR.held f=σ.held f/\aR.mem f=σ.mem f)/\(∀y q,y∈a++b->cont c aR y q=cont c σ y q)/\∀q,cont c aR {x with T:=aS} q=cont c σ x q:=by
 have ag:x∈σ.au:=by rw[aA];simp
 have ik:=k.inv.jy ag fL;have KN:=(k.inv.mL x p ag fL).resolve_right (e1 _ _);have ky:=k.inv.lt ag fL;have db:=(k.inv.jl x ag).own p fL
 refine bh.mono (NT k aA ky (XP ik) (.inr db) (.inr db) (λ_=>0) (λ_=>0) (λf=>by show(0:Int)=0+((b2 f (x.T.ent p)).toNat:Int) -((b2 f (x.T.ent p)).toNat:Int);omega) (λf=>by show(0:Int)=0+((dg f (x.T.ent p)).toNat:Int) -((dg f (x.T.ent p)).toNat:Int);omega)
  KN (λaD=> ?_) (λbg=>k.inv.out x p ag bg) (λ_ hw=>by cases hw) (λaD aJ=> ?_) (λaH=>by simp[h7,bj.u3]at aH)) ?_
 ·have aD:(x.T.ent p).here=true:=aD;exact⟨k.inv.here x p ag aD,λy aq=>k.inv.pv ag aD aq,by show σ.held (x.T.ent p).n.toNat≠0;have:=k.inv.zK ag aD (Int.le_refl 0);omega⟩
 ·have aD:(x.T.ent p).here=true:=aD;have:=iL k.inv ag aD;have pw:b2 (x.T.ent p).n.toNat (x.T.ent p)=false:=aJ;rw[this]at pw;cases pw
 ·rintro v g ⟨w,cA,cK,cH,aS,ma,hn,_,_,Ud,nt,nu,ei,v_⟩;refine⟨w,_,aS,ma,hn,rfl,(Ud db).1,rfl,rfl,rfl,rfl,(Ud db).2,λf aJ h0=>⟨(v_ f (aJ x ag) h0).2,(v_ f (aJ x ag) h0).1⟩,nt,λq=> ?_⟩;by_cases aF:q=p
  ·subst aF;unfold cont;show(match cv x.L q with|none=>none|some r=>some (if(aS.ent q).here=true then cA (aS.ent q).n.toNat else if(aS.ent q).out=true then σ.sec (c.first+(aS.ent q).n.toNat)else base c r q))=_;rw[ma,e4];cases cv x.L q with
   |none=>rfl
   |some r=>
    show some (if(x.T.ent q).here=true then cA (x.T.ent q).n.toNat else if(x.T.ent q).out=true then σ.sec (c.first+(x.T.ent q).n.toNat)else base c r q)=some (if(x.T.ent q).here=true then σ.mem (x.T.ent q).n.toNat else if(x.T.ent q).out=true then σ.sec (c.first+(x.T.ent q).n.toNat)else base c r q);by_cases aD:(x.T.ent q).here=true
    ·have hm:=ei aD;rw[if_pos aD,if_pos aD,show cA (x.T.ent q).n.toNat=σ.mem (x.T.ent q).n.toNat from hm]
    ·rw[if_neg aD,if_neg aD]
  ·exact nu q aF
end
end
section
variable{PV:cn} [cN PV]
def m9(s:Nat)(F:(Nat->Option Nat)->Nat->Option Nat)(v:List (Nat×List aU×(Nat->Option Nat))) :List (Nat×List aU×(Nat->Option Nat)):=v.map λq=>if q.1=s then(q.1,q.2.1,F q.2.2)else q
section
variable{h g:ae}{X:ew}{c:df}{ρ bD:Nat->Nat}{σ aR:b8}{d e:Nat->Int}{a b:List bH}{x:bH}
theorem Good.iP(k:Good h X c ρ σ d e){x y:bH}(ag:x∈σ.au)(aq:y∈σ.au)(aA:x.s=y.s) :x=y:=by
 obtain⟨a,b,e⟩:=List.append_of_mem ag;have nI:=(jA (R:=λx y:bH=>x.s≠y.s/\x.t≠y.t) (λa b aw=>⟨aw.1.symm,aw.2.symm⟩)).1 (e▸k.sys.iP);rw[e]at aq;rcases fe.1 aq with rfl|aq
 ·rfl
 ·exact absurd aA (nI.1 y aq).1
end
end
theorem JI(a b:Nat) :∀n,cq (λq=>decide (a<=q/\q<b)) n<=b-a
 |0=>Nat.zero_le _
 |n+1=>by
  have b1:=JI a b n;show cq (λq=>decide (a<=q/\q<b)) n+(decide (a<=n/\n<b)).toNat<=_;by_cases h:a<=n/\n<b
  ·rw[decide_eq_true h];have ab:cq (λq=>decide (a<=q/\q<b)) n<=n-a:=by
    have al:cq (λq=>decide (a<=q/\q<b)) n=cq (λq=>decide (a<=q/\q<n)) n:=xj λi af=>by
     by_cases c:a<=i
     ·rw[decide_eq_true (show a<=i/\i<b by omega),decide_eq_true (show a<=i/\i<n by omega)]
     ·rw[decide_eq_false (by omega),decide_eq_false (by omega)]
    rw[al];exact JI a n n
   rw[Bool.toNat_true];omega
  ·rw[decide_eq_false h];exact b1
theorem BI{f:Nat->Bool}{n:Nat} :∀(l:List (Nat×Nat)) (f:Nat->Bool),(∀q,q<n->f q=true->∃oD,oD∈l/\oD.1<=q/\q<oD.2)->cq f n<=(l.map λoD=>oD.2-oD.1).sum
 |[],f,h=>by
  have:cq f n=0:=kS.2 λi af=>by
   cases aJ:f i with
   |false=>rfl
   |true=>obtain⟨oD,hO,_⟩:=h i af aJ;cases hO
  rw[this];exact Nat.zero_le _
 |(a,b)::l,f,h=>by
  have h1:=JI a b n
  have ab:=BI (f:=f) l (λq=>f q&& !decide (a<=q/\q<b)) (λq aF aJ=>by
   simp only[Bool.and_eq_true,Bool.not_eq_true',decide_eq_false_iff_not]at aJ;obtain⟨oD,hO,al⟩:=h q aF aJ.1;rcases List.mem_cons.1 hO with rfl|hO
   ·exact absurd al aJ.2
   ·exact⟨oD,hO,al⟩)
  have al:=E6 (λq=>decide (a<=q/\q<b)) (λq=>f q&& !decide (a<=q/\q<b)) (λi af=>by rw[af];simp) n;have aE:cq f n<=cq (λi=>decide (a<=i/\i<b) ||(f i&& !decide (a<=i/\i<b))) n:=E7 λi _ af=>by rw[af];cases decide (a<=i/\i<b)<;>rfl
  simp only[List.map_cons,List.sum_cons];omega
def mu(L:List aU) :Nat:=(L.map λr=>r.af.toNat-r.lo.toNat).sum
def mo(D:Nat)(r:aU) :Nat:=(r.af.toNat-1) /D+1-r.lo.toNat/D
def om(L:List aU) :Nat:=1+((L.map (mo 512)).sum+(L.map (mo 64)).sum+(L.map (mo 8)).sum)
theorem NA{L:List aU}(dB:nd L){p:Nat}(h:cv L p≠none) :∃r,r∈L/\r.lo.toNat<=p/\p<r.af.toNat/\r.af<=4096:=by
 cases an:cv L p with
 |none=>exact absurd an h
 |some r=>
  have h1:=AF an;have ab:=nE (dB.may r h1.1);exact⟨r,h1.1,by omega,by omega,ab.2.2.1⟩
theorem acF{T:dt}{L:List aU}(dB:nd L)(aH:∀p,T.ent p≠.zero->cv L p≠none){P:bj->Bool}(h0:P .zero=false) :T.h4 P<=mu L:=by
 have:=BI (f:=λ_=>true) (n:=4096) (L.map λr=>(r.lo.toNat,r.af.toNat)) (λp=>P (T.ent p)) (λp _ aI=>by
  have c':T.ent p≠.zero:=λe=>by have nv:P (T.ent p)=true:=aI;rw[e,h0]at nv;cases nv
  obtain⟨r,h1,ab,al,_⟩:=NA dB (aH p c')
  exact⟨_,List.mem_map.2 ⟨r,h1,rfl⟩,ab,al⟩)
 rw[List.map_map]at this;exact this
theorem Mn{dec:Nat->Nat->bj}{n:Nat}{T:dt}(h:hB dec n T)(aW:sx T){L:List aU}(dB:nd L)(aH:∀p,T.ent p≠.zero->cv L p≠none){l:Nat}(ay:1<=l)(mf:l<=3) :
  cq (λq=>(T.bd l q).isSome) (8^l)<=(L.map (mo (8^(4-l)))).sum:=by
 have:=BI (f:=λ_=>true) (n:=8^l) (L.map λr=>(r.lo.toNat/8^(4-l),(r.af.toNat-1) /8^(4-l) +1)) (λq=>(T.bd l q).isSome) (λq _ aF=>by
  have qB:T.bd l q≠none:=by intro e;have qB:(T.bd l q).isSome=true:=aF;rw[e]at qB;cases qB
  obtain⟨p,rfl,aI⟩:=(G3 h aW (3-l) l q (by omega) ay).1 qB;obtain⟨r,h1,ab,al,_⟩:=NA dB (aH p aI)
  exact⟨_,List.mem_map.2 ⟨r,h1,rfl⟩,Nat.div_le_div_right ab,Nat.lt_succ_of_le (Nat.div_le_div_right (by omega))⟩)
 rw[List.map_map]at this;exact this
theorem acH{dec:Nat->Nat->bj}{n:Nat}{T:dt}(h:hB dec n T)(aW:sx T){L:List aU}(dB:nd L)(aH:∀p,T.ent p≠.zero->cv L p≠none) :T.ee<=om L:=by
 have h0:cq (λq=>(T.bd 0 q).isSome) (8^0)<=1:=oJ _ _;have h1:=Mn h aW dB aH (l:=1) (by omega) (by omega);have ab:=Mn h aW dB aH (l:=2) (by omega) (by omega);have al:=Mn h aW dB aH (l:=3) (by omega) (by omega);unfold dt.ee;simp only[dx];unfold om;have sL:cq (λq=>(T.bd 1 q).isSome) (8^1)<=(L.map (mo 512)).sum:=h1;have xw:cq (λq=>(T.bd 2 q).isSome) (8^2)<=(L.map (mo 64)).sum:=ab;have ry:cq (λq=>(T.bd 3 q).isSome) (8^3)<=(L.map (mo 8)).sum:=al;clear h1 ab al;generalize cq (λq=>(T.bd 0 q).isSome) (8^0)=a0 at*
 generalize cq (λq=>(T.bd 1 q).isSome) (8^1)=ao at*
 generalize cq (λq=>(T.bd 2 q).isSome) (8^2)=a2 at*
 generalize cq (λq=>(T.bd 3 q).isSome) (8^3)=a3 at*
 omega
def mz{α:Type}(f:α->Nat)(l:List α) :Nat:=(l.map f).sum
theorem Nw{c:df}{σ:b8}{d e:Nat->Int}(h:Inv c σ d e)(e1:∀s p,¬c.loose s p){P:bj->Bool}(h0:P .zero=false) :da σ.au P<=mz (λx:bH=>mu x.L) σ.au:=by
 have:∀l:List bH,(∀x,x∈l->x∈σ.au)->da l P<=mz (λx:bH=>mu x.L) l:=by
  intro l;induction l with
  |nil=>intro _;exact Nat.le_refl _
  |cons x l b1=>
   intro hm;have h1:=b1 λy aq=>hm y (List.mem_cons_of_mem _ aq)
   have ab:=acF (h.hJ x (hm x (by simp))) (λp aI=>(h.mL x p (hm x (by simp)) aI).resolve_right (e1 _ _)) h0;rw[nG];show _<=mu x.L+mz _ l;omega
 exact this _ λ_ h=>h
theorem VZ{c:df}{σ:b8}{d e:Nat->Int}(h:Inv c σ d e)(e1:∀s p,¬c.loose s p) :j2 σ.au<=mz (λx:bH=>om x.L) σ.au:=by
 have:∀l:List bH,(∀x,x∈l->x∈σ.au)->j2 l<=mz (λx:bH=>om x.L) l:=by
  intro l;induction l with
  |nil=>intro _;exact Nat.le_refl _
  |cons x l b1=>
   intro hm;have h1:=b1 λy aq=>hm y (List.mem_cons_of_mem _ aq)
   have ab:=acH (h.jl x (hm x (by simp))) (h.tight x (hm x (by simp))) (h.hJ x (hm x (by simp))) (λp aI=>(h.mL x p (hm x (by simp)) aI).resolve_right (e1 _ _));show x.T.ee+j2 l<=om x.L+mz _ l;omega
 exact this _ λ_ h=>h
theorem Xb(σ:b8)(n:Nat) :cq (λf=>decide (refs σ f≠0)) n<=da σ.au (λs=>s.here) +σ.ring.length:=by
 have h1:cq (λf=>decide (refs σ f≠0)) n<=dx (refs σ) n:=by
  induction n with
  |zero=>exact Nat.le_refl _
  |succ n b1=>
   show cq (λf=>decide (refs σ f≠0)) n+(decide (refs σ n≠0)).toNat<=dx (refs σ) n+refs σ n;by_cases h:refs σ n≠0
   ·rw[decide_eq_true h,Bool.toNat_true];omega
   ·rw[decide_eq_false h,Bool.toNat_false];omega
 have ab:dx (refs σ) n=dx (λf=>da σ.au (b2 f)) n+dx (λf=>eW (λx:dj=>x.fr==f) σ.ring) n:=AW _ _ n;have al:∀l:List bH,dx (λf=>da l (b2 f)) n<=da l (λs=>s.here):=by
  intro l;induction l with
  |nil=>rw[yB λi _=>uZ _];exact Nat.zero_le _
  |cons x l b1=>
   have:dx (λf=>da (x::l) (b2 f)) n=dx (λf=>x.T.h4 (b2 f)) n+dx (λf=>da l (b2 f)) n:=by rw[<-AW];exact p2 λi _=>nG _ _ _
   rw[this,nG];have aE:dx (λf=>x.T.h4 (b2 f)) n<=x.T.h4 (λs=>s.here):=by
    have aG:∀f,x.T.h4 (b2 f)=dx (λp=>(b2 f (x.T.ent p)).toNat) 4096:=λf=>(ou _ _).symm
    have aT:dx (λf=>x.T.h4 (b2 f)) n=dx (λf=>dx (λp=>(b2 f (x.T.ent p)).toNat) 4096) n:=p2 λi _=>aG i
    rw[aT,DD];have bJ:x.T.h4 (λs=>s.here)=dx (λp=>((x.T.ent p).here).toNat) 4096:=(ou _ _).symm;rw[bJ];refine HS λp _=> ?_
    show dx (λf=>(b2 f (x.T.ent p)).toNat) n<=_;rw[ou];by_cases aD:(x.T.ent p).here=true
    ·rw[aD];have hu:∀m,cq (λf=>b2 f (x.T.ent p)) m<=1:=by
      intro m
      have aL:=BI (f:=λ_=>true) (n:=m) [((x.T.ent p).n.toNat,(x.T.ent p).n.toNat+1)] (λf=>b2 f (x.T.ent p)) (λf _ aJ=>⟨_,List.mem_singleton_self _,by
       have pw:b2 f (x.T.ent p)=true:=aJ;unfold b2 at pw;simp only[Bool.and_eq_true,beq_iff_eq]at pw;show(x.T.ent p).n.toNat<=f/\f<(x.T.ent p).n.toNat+1
       omega⟩)
      simpa using aL
     simpa using hu n
    ·have:cq (λf=>b2 f (x.T.ent p)) n=0:=kS.2 λf _=>by
      unfold b2;rw[show(x.T.ent p).here=false by simpa using aD];rfl
     rw[this];exact Nat.zero_le _
   omega
 have aE:∀l:List dj,dx (λf=>eW (λx:dj=>x.fr==f) l) n<=l.length:=by
  intro l;induction l with
  |nil=>rw[yB λi _=>xi _];exact Nat.le_refl _
  |cons y l b1=>
   have:dx (λf=>eW (λx:dj=>x.fr==f) (y::l)) n=cq (λf=>y.fr==f) n+dx (λf=>eW (λx:dj=>x.fr==f) l) n:=by rw[<-ou,<-AW];exact p2 λi _=>rl _ _ _
   rw[this,List.length_cons]
   have aL:=BI (f:=λ_=>true) (n:=n) [(y.fr,y.fr+1)] (λf=>y.fr==f) (λf _ aJ=>⟨_,List.mem_singleton_self _,by
    have pw:(y.fr==f)=true:=aJ;rw[beq_iff_eq]at pw;show y.fr<=f/\f<y.fr+1
    omega⟩)
   have bm:(List.map (λoD:Nat×Nat=>oD.2-oD.1) [(y.fr,y.fr+1)]).sum=1:=by simp
   omega
 have aL:=al σ.au;have bm:=aE σ.ring;omega
theorem aez{c:df}{σ:b8}{e:Nat->Int}(h:Inv c σ (λ_=>0) e)(e1:∀s p,¬c.loose s p) :c.n<=σ.free+mz (λx:bH=>om x.L+mu x.L) σ.au+σ.ring.length:=by
 have h1:=h.room;have ab:=VZ h e1;have al:=Nw h e1 (P:=λs=>s.here) rfl;have aE:=Xb σ c.n;have aL:∀l:List bH,mz (λx:bH=>om x.L+mu x.L) l=mz (λx:bH=>om x.L) l+mz (λx:bH=>mu x.L) l:=by
  intro l;induction l with
  |nil=>rfl
  |cons x l b1=>
   show(om x.L+mu x.L) +mz _ l=(om x.L+mz _ l) +(mu x.L+mz _ l);rw[b1];omega
 rw[aL];omega
section
variable{PV:cn} [cN PV]
theorem abk{E:Env}{T e:TypeId}{si ie:bK}(aW:E.ty T=some si)(aC:si.desc=.slice e)(he:E.ty e=some ie)(hu:jh ie.desc=false)(h1:1<=ie.size){h:ae}{b len:Nat}{old:List aa}(o:a8.Obj h b old)(hlen:old.length=len*ie.size)
  {xid xoff n xcap:Nat} {xex:Bool} {new:List aa} (ag:j4 h xid xoff ((n+1) *ie.size)=some new) (jx:new.length=(n+1) *ie.size) (aA:new.all dH=true) (an:roomy (len+(n+1)) ie.bytes=true) :
  ∃g,h2 E h T T (.slice b 0 len len ie.size true) (.slice xid xoff (n+1) xcap ie.size xex)=some (.slice h.next 0 (len+(n+1)) (len+(n+1)) ie.size false,g)/\(a8.Obj g h.next (old++new)/\bf h g/\g.next=h.next+1):=by
 obtain⟨z,t,aj⟩:=o.live;let ob:bT:=.cells ((len+(n+1)) *ie.size) false z (bu.mr new (len*ie.size) t);refine⟨h.new ob,?_,⟨⟨z,bu.mr new (len*ie.size) t,?_⟩,λi=> ?_⟩,?_,rfl⟩
 ·have hle:Nat.ble (len+(n+1)) len=false:=by rw[<-Bool.not_eq_true,ec];omega
  have rA:Nat.beq ie.size ie.size=true:=beq_true.2 rfl;have kW:Nat.ble 1 ie.size=true:=ec.2 h1;have eR:Nat.ble (len*ie.size) old.length=true:=ec.2 (by omega);have aN:nX h b true (λst=>.cells ((len+(n+1)) *ie.size) st z (bu.mr new (len*ie.size) t))=some (h.new ob):=rfl;simp only[h2,aW,aC,he,lx,hu]
  show(bif Nat.beq ie.size ie.size&&Nat.ble 1 ie.size then match j4 h xid xoff ((n+1) *ie.size)with
   |none=>none
   |some new=>bif Nat.beq ie.size ie.size&&new.all dH then
    bif Nat.ble (len+(n+1)) len then match j9 h b (0+len*ie.size) new with
     |some h=>some (aa.slice b 0 (len+(n+1)) len ie.size true,h)
     |none=>none
    else bif roomy (len+(n+1)) ie.bytes then
     match h.get b,Nat.beq 0 0 with
     | .cells size _ zero t,true=>bif Nat.ble (len*ie.size) size then
      match nX h b true (λst=>.cells ((len+(n+1)) *ie.size) st zero (bu.mr new (len*ie.size) t))with
      |some g=>some (aa.slice h.next 0 (len+(n+1)) (len+(n+1)) ie.size false,g)
      |none=>none
      else none
     |o,_=>match o.read 0 (len*ie.size)with
      |none=>none
      |some old=>match nX h b true (λst=>.cells ((len+(n+1)) *ie.size) st [] (bu.ofList (old++new)))with
       |some g=>some (aa.slice h.next 0 (len+(n+1)) (len+(n+1)) ie.size false,g)
       |none=>none
    else none else none else none)=_
  rw[ag];simp only[rA,kW,aA,hle,an,Bool.and_true,cond_true,cond_false,aj]
  show(bif Nat.ble (len*ie.size) old.length then match nX h b true (λst=>.cells ((len+(n+1)) *ie.size) st z (bu.mr new (len*ie.size) t))with
   |some g=>some (aa.slice h.next 0 (len+(n+1)) (len+(n+1)) ie.size false,g)
   |none=>none
   else none)=_
  rw[eR,aN];rfl
 ·rw[ks,List.length_append,hlen,jx,<-Nat.add_mul]
 ·have h0:=o.rd i;unfold bP at h0|-;rw[ks];rw[aj]at h0;simp only[ob,bT.cell]at h0|-;rw[xv,<-hlen,jx];have CL:(len+(n+1)) *ie.size=old.length+(n+1) *ie.size:=by rw[Nat.add_mul,hlen]
  by_cases af:i<old.length
  ·rw[if_neg (by omega),dM.2 (by omega),List.getElem?_append_left af];rw[dM.2 af]at h0;exact h0
  ·rw[List.getElem?_append_right (by omega)];by_cases rK:i<old.length+(n+1) *ie.size
   ·rw[if_pos ⟨by omega,rK⟩,dM.2 (by omega)];rw[List.getElem?_eq_getElem (by omega)];rfl
   ·rw[show Nat.blt i ((len+(n+1)) *ie.size)=false by rw[<-Bool.not_eq_true,dM];omega,List.getElem?_eq_none (by omega)];rfl
 ·exact aM.new _ _ _
theorem aoI{E:Env}{t e:TypeId}{i:bK}(aW:E.ty t=some i)(aC:i.desc=.slice e)(h:ae) :ax E h .eql t .bI .bI=some (.bool true):=by simp[ax,uc,gE,aW,aC]
theorem aoH{E:Env}{t e:TypeId}{i:bK}(aW:E.ty t=some i)(aC:i.desc=.slice e)(h:ae)(a b c d de:Nat)(f:Bool) :ax E h .eql t (.slice a b c d de f) .bI=some (.bool false):=by simp[ax,uc,gE,aW,aC]
theorem ab0:lg J 126 0 []=some (λid=>aa.slice id 0 0 0 6 true,.cells ([] :List aa).length false [] (bu.ofList [])):=by kernel_rfl
theorem arb(L:List aU) :((L.map aU.vs).flatten).all dH=true:=by rw[List.all_eq_true];intro v ai;obtain⟨r,an,ai⟩:=List.mem_flatten.1 ai;obtain⟨y,_,rfl⟩:=List.mem_map.1 an;exact List.all_eq_true.1 (aU.arc y) v ai
theorem acD{h:ae}{v:aa}{L:List aU}(r:kq h v L)(ay:L.length<=8192) :
  bh (call J PV (.func 107 [] []) [v] h) λw g=>bf h g/\kq g w L/\(w.cells=[w]/\dH w=true)/\∀b,cI w=some b->h.next<=b/\b<g.next:=by
 refine bh.mk (λe=>aiV (first:=[]) (cap:=[]) e rfl) ?_;unfold PO;have Fe:J.ty 126=some p5:=by kernel_rfl
 have SP:J.ty 47=some p6:=by kernel_rfl
 rcases r with⟨rfl,rfl⟩ |⟨b,cap,ex,rfl,aH,aj,o⟩
 ·simp only[aoI Fe rfl,ar,ba,if_true];exact aV.pure ⟨aM.refl _ _,.inl ⟨rfl,rfl⟩,⟨rfl,rfl⟩,λb aj=>by cases aj⟩
 ·simp only[aoH Fe rfl,ar,ba,Bool.false_eq_true,if_false];refine cM ab0 λg1 ct dR bb=> ?_
  have ob:=o.ext bb aj;have lu:((L.map aU.vs).flatten).length=L.length*6:=by have:=sH (rows:=L.map aU.vs) (sz:=6) (λr an=>by obtain⟨y,_,rfl⟩:=List.mem_map.1 an;rfl);rw[this,List.length_map]
  cases dB:L with
  |nil=>
   rw[dB]at ob;rw[EN Fe rfl SP (.inr ⟨_,_,_,_,_,_,rfl⟩) rfl];simp only[c3];refine aV.pure ⟨bb,.inr ⟨h.next,0,true,rfl,Nat.le_refl _,by omega,ct⟩,⟨rfl,rfl⟩,λb aj=> ?_⟩;obtain rfl:h.next=b:=Option.some.inj aj;exact⟨Nat.le_refl _,by omega⟩
  |cons r0 hM=>
   have aw:L.length=hM.length+1:=by rw[dB];rfl
   have eR:p6.size=6:=rfl;have ag:j4 g1 b 0 ((hM.length+1) *p6.size)=some (L.map aU.vs).flatten:=by have:=ob.here;rw[lu,aw]at this;exact this
   obtain⟨g,kT,k3,D6,tf⟩:=abk (T:=126) Fe rfl SP rfl (by decide) ct (len:=0) rfl (xcap:=cap) (xex:=ex) ag (by rw[lu,aw,eR]) (arb L) (by
    unfold roomy;rw[Bool.and_eq_true,ec,ec];show(2*(0+(hM.length+1)) +200) *48<=140737488355328/\1<=48
    omega)
   rw[eR]at kT;rw[show(r0::hM).length=hM.length+1 from rfl,kT];simp only[c3];rw[dB]at k3;refine aV.pure ⟨bb.trans D6,.inr ⟨g1.next,0+(hM.length+1),false,?_,?_,by omega,k3⟩,⟨rfl,rfl⟩,λb aj=> ?_⟩
   ·show aa.slice _ 0 (0+(hM.length+1)) _ 6 false=aa.slice _ 0 (hM.length+1) _ 6 false;rw[Nat.zero_add]
   ·show hM.length+1<=_;omega
   ·obtain rfl:g1.next=b:=Option.some.inj aj;exact⟨by omega,by omega⟩
end
section
variable{PV:cn} [cN PV]
theorem X3(ent:Nat->bj)(lo:Nat) :∀n,(dI ent lo n).Pairwise (· < ·)
 |0=>List.Pairwise.nil
 |n+1=>by
  have b1:=X3 ent lo n;unfold dI;by_cases h:ent (lo+n)=.zero
  ·rw[if_pos h,List.append_nil];exact b1
  ·rw[if_neg h];refine List.pairwise_append.2 ⟨b1,List.pairwise_singleton _ _,λx ag y aq=> ?_⟩;rw[List.mem_singleton]at aq;have:=(yh.1 ag).2.1;omega
theorem aeC{ent:Nat->bj}{cu n:Nat}(h:fu cu (dI ent 0 n)=[])(aI:∀p,ent p≠.zero->p<n) :∀r,cu<=r->ent r=.zero:=λr an=>by
 by_cases h0:ent r=.zero
 ·exact h0
 ·exfalso;have hm:r∈dI ent 0 n:=yh.2 ⟨Nat.zero_le _,by have:=aI r h0;omega,h0⟩;have:r∈fu cu (dI ent 0 n):=List.mem_filter.2 ⟨hm,by simpa using an⟩;rw[h]at this;cases this
theorem aeG{ent:Nat->bj}{cu n p:Nat}{l:List Nat}(h:fu cu (dI ent 0 n)=p::l) :cu<=p/\ent p≠.zero/\∀r,cu<=r->r<p->ent r=.zero:=by
 have hm:p∈fu cu (dI ent 0 n):=by rw[h];simp
 have h1:=List.mem_filter.1 hm;have ab:=yh.1 h1.1;refine⟨by simpa using h1.2,ab.2.2,λr an Lw=> ?_⟩;by_cases h0:ent r=.zero
 ·exact h0
 ·exfalso;have F3:r∈fu cu (dI ent 0 n):=List.mem_filter.2 ⟨yh.2 ⟨Nat.zero_le _,by omega,h0⟩,by simpa using an⟩;have aA:(fu cu (dI ent 0 n)).Pairwise (· < ·):=(X3 ent 0 n).filter _;rw[h]at aA F3;rcases List.mem_cons.1 F3 with rfl|F3
  ·omega
  ·have:=(List.pairwise_cons.1 aA).1 r F3;omega
def zg(c:df)(L:List aU) :Nat->Option Nat:=λr=>(cv L r).map λq=>base c q r
def pQ(c:df)(L:List aU)(f:Nat->Option Nat)(cu:Nat) :Nat->Option Nat:=λr=>if r<cu then f r else zg c L r
theorem zm{c:df}{σ:b8}{x:bH}{r:Nat}(aP:x.T.ent r=.zero) :cont c σ x r=zg c x.L r:=by
 unfold cont zg;rw[aP];cases cv x.L r with
 |none=>rfl
 |some q=>
  show some (if bj.zero.here=true then _ else if bj.zero.out=true then _ else base c q r)=some (base c q r);rw[if_neg (by decide),if_neg (by decide)]
theorem yT{c:df}{σ:b8}{q:Nat×List aU×(Nat->Option Nat)}(h:q∈view c σ) :∃y,y∈σ.au/\y.s=q.1/\y.L=q.2.1/\cont c σ y=q.2.2:=by obtain⟨y,aq,rfl⟩:=List.mem_map.1 h;exact⟨y,aq,rfl,rfl,rfl⟩
theorem p9{c:df}{σ:b8} :σ.au.map (·.L)=(view c σ).map (·.2.1):=by simp[view,Function.comp_def]
theorem ara{s:Nat}{F:(Nat->Option Nat)->Nat->Option Nat}{v:List (Nat×List aU×(Nat->Option Nat))}{L:List aU}{f:Nat->Option Nat}(h:∀q,q∈v->q.1≠s) :m9 s F (v++[(s,L,f)])=v++[(s,L,F f)]:=by
 unfold m9;rw[List.map_append];congr 1
 ·have:List.map (λq:Nat×List aU×(Nat->Option Nat)=>if q.1=s then(q.1,q.2.1,F q.2.2)else q) v=List.map id v:=List.map_congr_left λq aF=>if_neg (h q aF)
  rw[this,List.map_id]
 ·simp
section
variable{h g:ae}{X:ew}{c:df}{ρ bD:Nat->Nat}{σ aR:b8}{d e:Nat->Int}{a b:List bH}{x cG:bH}
theorem aq'(k:Good h X c ρ σ d e){F:(Nat->Option Nat)->Nat->Option Nat}(aA:σ.au=a++x::b)(kj:aR.au=a++cG::b)(h1:cG.s=x.s)(ab:cG.L=x.L)(bg:∀y q,y∈a++b->cont c aR y q=cont c σ y q)(ju:cont c aR cG=F (cont c σ x)) :
  view c aR=m9 x.s F (view c σ):=by
 have nI:=(jA (R:=λx y:bH=>x.s≠y.s/\x.t≠y.t) (λa b aw=>⟨aw.1.symm,aw.2.symm⟩)).1 (aA▸k.sys.iP);unfold view m9;rw[aA,kj,List.map_map,List.map_append,List.map_append,List.map_cons,List.map_cons];have hO:∀y,y∈a++b->(y.s,y.L,cont c aR y)=(if y.s=x.s then(y.s,y.L,F (cont c σ y))else(y.s,y.L,cont c σ y)):=λy aq=>by rw[if_neg (λe=>(nI.1 y aq).1 e.symm),show cont c aR y=cont c σ y from funext λq=>bg y q aq]
 congr 1
 ·exact List.map_congr_left λy aq=>hO y (List.mem_append_left _ aq)
 ·congr 1
  ·simp only[Function.comp,if_true,h1,ab,ju]
  ·exact List.map_congr_left λy aq=>hO y (List.mem_append_right _ aq)
def dC(a b:bj) :Prop:=a.here=b.here/\a.out=b.out/\a.n=b.n
theorem dC.refl(a:bj) :dC a a:=⟨rfl,rfl,rfl⟩
theorem dC.trans{a b c:bj}(h:dC a b)(k:dC b c) :dC a c:=⟨h.1.trans k.1,h.2.1.trans k.2.1,h.2.2.trans k.2.2⟩
def Roomy(c:df)(σ:b8)(x:bH) :Prop:=∀jo,Inv c jo (λ_=>0) (λ_=>0)->(jo.au.map (·.L)=σ.au.map (·.L)\/jo.au.map (·.L)=σ.au.map (·.L)++[x.L])->4<=jo.free
structure IW(σ:b8)(x:bH)(aY cu:Nat)(aX:b8) :Prop where
 ring:aX.ring=σ.ring
 old:∀y,y∈aX.au->y.s≠aY->∃w,w∈σ.au/\w.s=y.s/\∀p,dC (y.T.ent p) (w.T.ent p)/\((w.T.ent p).write=false->(y.T.ent p).write=false)
 new:∀z,z∈aX.au->z.s=aY->∀p,p<cu->dC (z.T.ent p) (x.T.ent p)
 wr:∀y,y∈aX.au->(y.s=x.s\/y.s=aY)->∀p,p<cu->(y.T.ent p).write=false
structure mG(c:df)(σ:b8)(x:bH)(aY:Nat)(cu:Nat)(aX:b8) :Prop where
 view:view c aX=Go.Proofs.YtkdjcmpgnkecfaaGreatDoor.view c σ++[(aY,x.L,pQ c x.L (cont c σ x) cu)]
 bare:∀y,y∈aX.au->y.s=aY->∀r,cu<=r->y.T.ent r=.zero
 kU:Roomy c σ x->IW σ x aY cu aX
variable{aY cu:Nat}{aX b5:b8}
theorem mG.own(k:mG c σ x aY cu aX)(ag:x∈σ.au) :∃y,y∈aX.au/\y.s=x.s/\y.L=x.L/\cont c aX y=cont c σ x:=
 yT (by rw[k.view];exact List.mem_append_left _ (List.mem_map.2 ⟨x,ag,rfl⟩))
theorem mG.new(k:mG c σ x aY cu aX) :∃y,y∈aX.au/\y.s=aY/\y.L=x.L/\cont c aX y=pQ c x.L (cont c σ x) cu:=
 yT (q:=(aY,x.L,pQ c x.L (cont c σ x) cu)) (by rw[k.view];simp)
theorem mG.rows(k:mG c σ x aY cu aX) :aX.au.map (·.L)=σ.au.map (·.L)++[x.L]:=by rw[p9 (c:=c),k.view,List.map_append,<-p9];rfl
theorem mG.made(k:mG c σ x aY cu aX){b:Bool}(hn:Good g X c ρ aX (λ_=>0) (λ_=>0))(aJ:aX.free<4)(m:Made c aX b5 b) :mG c σ x aY cu b5 where
 view:=m.view.trans k.view
 bare:=λy aq aA r an=>by obtain⟨z,aP,e,f⟩:=m.sub.zero aq;exact f r (k.bare z aP (e.trans aA) r an)
 kU:=λmx=>absurd (mx aX hn.inv (.inr k.rows)) (by omega)
def aa4(X:ew)(c:df)(rows:List (List aU)->Prop) :Prop:=∃g0 Ex jo,Good g0 X c Ex jo (λ_=>0) (λ_=>0)/\jo.free<4/\pa c jo/\rows (jo.au.map (·.L))
theorem afF(k:Good h X c ρ σ (λ_=>0) (λ_=>0)){x:bH}(ag:x∈σ.au){p:Nat}(fL:x.T.ent p≠.zero) :
  ((x.T.ent p).here=true->∃g,call J PV (.func 110 [] []) [.ptr X.A.p 0,.int .i64 (x.T.ent p).n] h=some (.int .i64 0,g)/\c2 ρ h g/\Good g X c ρ {σ with held:=az σ.held (x.T.ent p).n.toNat (σ.held (x.T.ent p).n.toNat+1)} (λf=>(b2 f (x.T.ent p)).toNat) (λi=>(dg i (x.T.ent p)).toNat))/\
  ((x.T.ent p).here=false->bh (call J PV (.func 111 [] []) [.ptr X.R.a 0,.int .i64 (x.T.ent p).n] h) λv g=>c2 ρ h g/\Good g X c ρ {σ with bY:=az σ.bY (x.T.ent p).n.toNat (σ.bY (x.T.ent p).n.toNat+1)} (λf=>(b2 f (x.T.ent p)).toNat) (λi=>(dg i (x.T.ent p)).toNat)):=by
 have ik:=k.inv.jy ag fL;have hm:=k2 ik;have fA:(((x.T.ent p).n.toNat:Nat) :Int)=(x.T.ent p).n:=by have:=hm.1;omega
 constructor
 ·intro aD;have kh:=k.inv.here x p ag aD;have e7:∀y,y∈σ.au->¬IsNode y.T (x.T.ent p).n.toNat:=λy aq=>k.inv.pv ag aD aq
  have sY:=k.inv.zK ag aD (Int.le_refl 0);have b6:=k.Cb (λf=>by show(0:Int)<=16;omega) kh;have sS:=k.inv.data _ kh e7;obtain⟨g,aG,g',bb⟩:=Lp k.sys.core.ps.p (f:=(x.T.ent p).n.toNat) (by rw[k.ef.n];exact kh) (by omega) (by omega);rw[fA]at aG;have e3:=k.sys.core.e3;have w:c2 ρ h g:=c2.of bb λi _ e=>by subst e;omega
  have nB:=k.sys.core.m1 g' (bb.mono λi _ e=>.inr (.inl e));refine⟨g,aG,w,⟨k.sys.own nB rfl w (λ_ _=>rfl),?_,k.ef,k.sec,k.iN⟩⟩
  have i1:=k.inv.held kh (σ.held (x.T.ent p).n.toNat+1) σ.free (λf=>(b2 f (x.T.ent p)).toNat) e7 (by rw[iL k.inv ag aD];simp only[Bool.toNat_true];omega) (λg aN=>by rw[Ab aD hm.1,decide_eq_false aN];rfl) (by
   rw[decide_eq_false (show¬σ.held (x.T.ent p).n.toNat=0 by omega),decide_eq_false (show¬σ.held (x.T.ent p).n.toNat+1=0 by omega)])
  exact Aa i1 (λf=>rfl) (λi=>by rw[CX ik aD];rfl)
 ·intro aD;have bg:(x.T.ent p).out=true:=by
   cases bg:(x.T.ent p).out with
   |true=>rfl
   |false=>exact absurd (Fi (λ_=>ik) bg aD) fL
  have hP:=k.inv.out x p ag bg;have ju:∀f,b2 f (x.T.ent p)=false:=λf=>by unfold b2;rw[aD];rfl
  have dq:∀i,dg i (x.T.ent p)=decide (i=(x.T.ent p).n.toNat):=λi=>by unfold dg;rw[bg,Bool.true_and,Bool.eq_iff_iff];simp;have:=hm.1;omega
  have xU:=k.inv.Nf ag bg (Int.le_refl 0);have b6:=k.NW (λf=>by show(0:Int)<=16;omega) hP;have sS:=k.inv.slot _ hP;rw[<-fA];refine bh.mono (aoU k.sys.core.hi (i:=(x.T.ent p).n.toNat) (by rw[k.ef.c1];exact hP) (by omega) (by omega)) ?_;rintro _ g ⟨rfl,ao,bb⟩;rw[Int.toNat_natCast];have ga:=k.sys.core.ga;have w:c2 ρ h g:=c2.of bb λi _ e=>by subst e;omega
  have nB:=k.sys.core.zb ao (bb.mono λi _ e=>.inl e);refine⟨w,⟨k.sys.own nB rfl w (λ_ _=>rfl),?_,k.ef,k.sec,k.iN⟩⟩;have hu:σ.used+(decide (σ.bY (x.T.ent p).n.toNat≠0)).toNat=σ.used+(decide (σ.bY (x.T.ent p).n.toNat+1≠0)).toNat:=by rw[decide_eq_true (show σ.bY (x.T.ent p).n.toNat≠0 by omega),decide_eq_true (show σ.bY (x.T.ent p).n.toNat+1≠0 by omega)]
  have i1:=k.inv.bY hP (σ.bY (x.T.ent p).n.toNat+1) σ.used (λi=>(dg i (x.T.ent p)).toNat) (by rw[dq];simp only[decide_true,Bool.toNat_true];omega) (λj aO=>by rw[dq,decide_eq_false aO];rfl) hu;exact Aa i1 (λf=>by rw[ju];rfl) (λi=>rfl)
end
end
section
variable{PV:cn} [cN PV]
def G4(n:fW) :Nat:=(n.size+63) /64
def rq(cb:List fW) :Nat:=(cb.map G4).sum
theorem Oc{l:List Nat} :∀{i j:Nat},i<=j->(l.take i).sum<=(l.take j).sum:=by
 induction l with
 |nil=>intro i j _;simp
 |cons x l b1=>
  intro i j h;cases i with
  |zero=>simp
  |succ i=>
   cases j with
   |zero=>omega
   |succ j=>
    simp only[List.take_succ_cons,List.sum_cons];have:=b1 (i:=i) (j:=j) (by omega);omega
theorem Od{l:List Nat}{i x:Nat}(h:l[i]? =some x) :(l.take (i+1)).sum=(l.take i).sum+x:=by rw[List.take_add_one,h];simp
theorem apL(l:List Nat)(i:Nat) :(l.take i).sum<=l.sum:=by have:=Oc (l:=l) (i:=i) (j:=i+l.length) (by omega);rwa[List.take_of_length_le (l:=l) (i:=i+l.length) (by omega)]at this
theorem ad3{cb:List fW}{sec:Nat->Nat}{f p:Int}{m:Nat}(h:fileAt cb sec f p=some m) :0<=f/\0<=p/\∃n,cb[f.toNat]? =some n/\p.toNat<G4 n:=by
 unfold fileAt at h;by_cases bo:f<0
 ·rw[if_pos bo]at h;cases h
 rw[if_neg bo]at h;cases aw:cb[f.toNat]? with
 |none=>rw[aw]at h;cases h
 |some n=>
  rw[aw]at h;simp only at h;by_cases cp:p<0\/(((n.size+63) /64:Nat) :Int)<=p
  ·rw[if_pos cp]at h;cases h
  ·refine⟨by omega,by omega,n,rfl,?_⟩;show p.toNat<(n.size+63) /64;omega
theorem aob{c:df}{σ:b8}{d e:Nat->Int}(h:Inv c σ d e){cb:List fW}{sec:Nat->Nat}(aJ:c.iU=fileAt cb sec) :σ.ring.length<=rq cb:=by
 let ps:=cb.map G4;let code:dj->Nat:=λy=>(ps.take y.file.toNat).sum+y.bM.toNat
 have fZ:∀y,y∈σ.ring->0<=y.file/\0<=y.bM/\∃k,ps[y.file.toNat]? =some k/\y.bM.toNat<k:=λy aq=>by have:=(h.ring y aq).2;rw[aJ]at this;obtain⟨h1,ab,n,al,aE⟩:=ad3 this;exact⟨h1,ab,G4 n,by simp[ps,al],aE⟩
 have:=zp (n:=rq cb) (l:=σ.ring.map code) (List.pairwise_map.2 (List.Pairwise.imp_of_mem (λ{a b} bc aj av e=>by
  obtain⟨ao,a2,atL,a3,a4⟩:=fZ a bc;obtain⟨fS,ft,atM,gV,jq⟩:=fZ b aj;have Xy:=Od a3;have HE:=Od gV;have e:(ps.take a.file.toNat).sum+a.bM.toNat=(ps.take b.file.toNat).sum+b.bM.toNat:=e;have xH:a.file.toNat=b.file.toNat:=by
   by_cases bo:a.file.toNat<b.file.toNat
   ·have:=Oc (l:=ps) (i:=a.file.toNat+1) (j:=b.file.toNat) (by omega);omega
   ·by_cases cp:b.file.toNat<a.file.toNat
    ·have:=Oc (l:=ps) (i:=b.file.toNat+1) (j:=a.file.toNat) (by omega);omega
    ·omega
  rw[xH]at e
  exact av ⟨by omega,by omega⟩) h.keys)) (λx ag=>by
  obtain⟨y,aq,rfl⟩:=List.mem_map.1 ag;obtain⟨aaN,aum,k,ar7,aun⟩:=fZ y aq;have s1:=Od ar7;have s2:=apL ps (y.file.toNat+1);show(ps.take y.file.toNat).sum+y.bM.toNat<ps.sum
  omega)
 simpa using this
def u2(rows:List (List aU)) :Nat:=mz (λL=>om L+mu L) rows
structure Quiet(c:df)(rows:List (List aU)) :Prop where
 room:∀σ,Inv c σ (λ_=>0) (λ_=>0)->σ.au.map (·.L)=rows->4<=σ.free
theorem quiet_of{c:df}{rows:List (List aU)}{cb:List fW}{sec:Nat->Nat}(e1:∀s p,¬c.loose s p)(aJ:c.iU=fileAt cb sec)(aw:u2 rows+rq cb+4<=c.n) :Quiet c rows:=⟨λσ h an=>by
 have h1:=aez h e1;have ab:=aob h aJ;have al:mz (λx:bH=>om x.L+mu x.L) σ.au=u2 rows:=by unfold u2;rw[<-an];simp[mz,Function.comp_def]
 omega⟩
theorem YO{c:df}{dec:so}{s p i:Nat}{σ aR:b8}(t:lD c dec s p i σ aR) :view c aR=view c σ:=by
 induction t with
 |nil=>rfl
 |idle _ _ _ i b1=>exact i.view.trans b1
 |make _ _ _ _ _ _ _ _ m b1=>exact m.view.trans b1
 |BL _ _ _ _ _ _ _ _ d b1=>exact d.view.trans b1
theorem O3{c:df}{σ:b8} :σ.au.map (·.s)=(view c σ).map (·.1):=by simp[view,Function.comp_def]
theorem V0{l:List bH}(h:(l.map (·.s)).Nodup){x y:bH}(ag:x∈l)(aq:y∈l)(e:x.s=y.s) :x=y:=by
 induction l with
 |nil=>cases ag
 |cons z l b1=>
  rw[List.map_cons,List.nodup_cons]at h;rcases List.mem_cons.1 ag with aG|h1<;>rcases List.mem_cons.1 aq with aT|ab
  ·rw[aG,aT]
  ·exact absurd (List.mem_map.2 ⟨y,ab,by rw[<-e,aG]⟩) h.1
  ·exact absurd (List.mem_map.2 ⟨x,h1,by rw[e,aT]⟩) h.1
  ·exact b1 h.2 h1 ab
theorem SG{use:Int}{r:aU}{s:bj}{n sh st:Int}{m:Int}(ab:dD use r true s n≠2)(ea:st=3\/st=4\/st=5\/st=6\/st=7) :
  dD use r true (je r st m) sh=1\/(st=3/\dD use r true (je r st m) sh=6):=by
 have ku:kO r.perm use=true:=by
  cases bc:kO r.perm use with
  |true=>rfl
  |false=>
   exfalso;apply ab;unfold dD jt;rw[if_pos (.inr bc)]
 unfold dD jt;rw[if_neg (by rintro(h|h);cases h;rw[ku]at h;cases h)];rcases ea with rfl|ea
 ·have:je r 3 m=⟨true,false,false,false,m⟩:=by unfold je;rw[if_pos rfl]
  rw[this];simp only[Bool.false_eq_true,if_false];rw[if_neg (by decide)];by_cases hu:use=2
  ·right;rw[if_neg (by rintro(h|h);exact h hu;cases h),if_neg (by rintro⟨h,_⟩;cases h)];exact⟨trivial,rfl⟩
  ·left;rw[if_pos (.inl hu)]
 ·have:je r st m=⟨true,n0 r.perm 2, !n0 r.perm 2,false,m⟩:=by
   unfold je;rw[if_neg (by omega),if_pos ea]
  rw[this];simp only[Bool.false_eq_true,if_false];rw[if_neg (by decide)];left;by_cases hu:use=2
  ·have aj:n0 r.perm 2=true:=by
    unfold kO at ku;rw[if_neg (by omega),if_pos hu]at ku;exact ku
   rw[if_pos (.inr aj)]
  ·rw[if_pos (.inl hu)]
theorem YN{c:df}{use:Int}{s p i:Nat}{σ aR:b8}(t:lD c (dD use) s p i σ aR)(aF:Quiet c (σ.au.map (·.L)))(hu:(σ.au.map (·.s)).Nodup) :
  i=0\/∃x,x∈aR.au/\x.s=s/\((i=1/\(c_ (dD use) aR x p=1\/c_ (dD use) aR x p=6))\/(i=2/\c_ (dD use) aR x p=1)):=by
 induction t with
 |nil=>exact .inl rfl
 |idle t jw K7 id b1=>
  rcases b1 aF hu with h|⟨x,ag,aA,h⟩
  ·exact .inl h
  ·refine .inr ⟨x,by rw[id.au];exact ag,aA,?_⟩;rename_i aX b5;have:c_ (dD use) b5 x p=c_ (dD use) aX x p:=by unfold c_ my;rw[id.held,id.bY]
   rw[this];exact h
 |make t _ _ _ _ _ aJ af _ b1=>
  have:=aF.room _ af (by rw[p9 (c:=c),YO t,<-p9]);omega
 |BL t af ag gm an h1 ab aJ oL b1=>
  rename_i i aX b5 x r;right;have pG:(aX.au.map (·.s)).Nodup:=by rw[O3 (c:=c),YO t,<-O3];exact hu
  obtain⟨a,b,aS,n,st,iW,wi,he,aw,ea⟩:=oL.ent;have aC:c_ (dD use) aX x p=dD use r true (x.T.ent p) (my aX (x.T.ent p)):=by unfold c_;rw[an];rfl
  have lP:({x with T:=aS} :bH)∈b5.au:=by rw[wi];simp
  have hD:c_ (dD use) aX x p=1\/c_ (dD use) aX x p=2\/c_ (dD use) aX x p=3\/c_ (dD use) aX x p=4\/c_ (dD use) aX x p=5\/c_ (dD use) aX x p=6\/c_ (dD use) aX x p=7:=(vM use).all _ _ _ _;have Gf:st=3\/st=4\/st=5\/st=6\/st=7:=by omega
  have kx:=SG (m:=(n:Int)) (sh:=my b5 (aS.ent p)) (by rw[<-aC];exact ab) Gf;have KP:c_ (dD use) b5 {x with T:=aS} p=dD use r true (je r st n) (my b5 (aS.ent p)):=by unfold c_;show dD use ((cv x.L p).getD aU.zero) (cv x.L p).isSome (aS.ent p) _=_;rw[an,he,e4];rfl
  refine⟨_,lP,gm,?_⟩;rw[KP];rcases b1 aF hu with rfl|⟨y,aq,f_,rS⟩
  ·exact .inl ⟨rfl,kx.imp id And.right⟩
  ·have z7:y=x:=V0 pG aq ag (f_.trans gm.symm);subst z7;rcases rS with⟨rfl,h|h⟩ |⟨_,h⟩
   ·exact absurd h h1
   ·refine .inr ⟨rfl,?_⟩;rcases kx with al|⟨al,_⟩
    ·exact al
    ·exfalso;omega
   ·exact absurd h h1
theorem aqE{c:df}{dec:so}{s p i:Nat}{σ aR:b8}(t:lD c dec s p i σ aR) :i=0->aR.free=σ.free/\aR.au=σ.au/\aR.held=σ.held/\aR.used=σ.used:=by
 induction t with
 |nil=>exact λ_=>⟨rfl,rfl,rfl,rfl⟩
 |idle _ _ _ i b1=>exact λh=>by have:=b1 h;exact⟨i.free.trans this.1,i.au.trans this.2.1,i.held.trans this.2.2.1,i.used.trans this.2.2.2⟩
 |make=>exact λh=>absurd h (by omega)
 |BL=>exact λh=>absurd h (by omega)
def mE(L:List aU)(p:Nat)(use:Int) :Prop:=∃r,cv L p=some r/\kO r.perm use=true
theorem ac6{use:Int}{r:aU}{s:bj}{n:Int} :dD use r true s n=2↔kO r.perm use=false:=by
 constructor
 ·intro h;cases bc:kO r.perm use with
  |false=>rfl
  |true=>
   exfalso;revert h;unfold dD jt;rw[if_neg (by rintro(h|h);cases h;rw[bc]at h;cases h)];split
   ·decide
   split
   ·split<;>decide
   split
   ·decide
   split<;>decide
 ·intro h;unfold dD jt;rw[if_pos (.inr h)]
theorem JR{use:Int}{σ:b8}{x:bH}{p:Nat} :c_ (dD use) σ x p=2↔¬mE x.L p use:=by
 unfold c_ mE;cases an:cv x.L p with
 |none=>
  constructor
  ·rintro _ ⟨r,h,_⟩;cases h
  ·intro _;exact(vM use).no _ _ _
 |some r=>
  show dD use r true _ _=2↔_;rw[ac6];constructor
  ·rintro h ⟨cR,e,bC⟩;rw[<-Option.some.inj e,h]at bC;cases bC
  ·intro h;cases bc:kO r.perm use with
   |false=>rfl
   |true=>exact absurd ⟨r,rfl,bc⟩ h
section
variable{h g:ae}{X:ew}{c:df}{ρ bD:Nat->Nat}{σ aR:b8}
theorem Good.ids(k:Good h X c ρ σ (λ_=>0) (λ_=>0)) :(σ.au.map (·.s)).Nodup:=List.pairwise_map.2 (k.sys.iP.imp λh=>h.1)
def iu(p m:Nat)(f:Nat->Option Nat) :Nat->Option Nat:=λr=>if r=p then some m else f r
theorem aay(k:Good h X c ρ σ (λ_=>0) (λ_=>0)){x:bH}(ag:x∈σ.au){p i:Nat}{use:Int}{aX b5:b8}{bU:bH}{dy:Nat->Nat}(us:Used h X c ρ σ x p (dD use) g i aX bU dy)(aC:c_ (dD use) aX bU p=1){m fB:Nat}(hm:cont c aX bU p=some m)(K_:(b5.au.map (·.s)).Nodup)(ep:b5.au=aX.au)
  (nt:∀y q,y∈aX.au->(y≠bU\/q≠p)->cont c b5 y q=cont c aX y q) (nu:cont c b5 bU p=some fB) :
  mE x.L p use/\cont c σ x p=some m/\view c b5=m9 x.s (iu p fB) (view c σ)/\bU∈b5.au/\bU.s=x.s/\(bU.T.ent p).here=true:=by
 have ku:mE x.L p use:=by
  rw[<-us.L];by_cases h:mE bU.L p use
  ·exact h
  ·have:=(JR (σ:=aX)).2 h;omega
 have uk:cont c σ x p=some m:=by
  have h1:(bU.s,bU.L,cont c aX bU)∈view c σ:=by rw[<-us.view];exact List.mem_map.2 ⟨bU,us.mem,rfl⟩
  obtain⟨y,aq,e⟩:=List.mem_map.1 h1;simp only[Prod.mk.injEq]at e;have:y=x:=k.iP aq ag (e.1.trans us.s);subst this;rw[e.2.2];exact hm
 have Bn:bU∈b5.au:=by rw[ep];exact us.mem
 have aD:(bU.T.ent p).here=true:=by
  unfold c_ at aC;cases an:cv bU.L p with
  |none=>rw[an]at aC;have:=(vM use).no (Option.getD none aU.zero) (bU.T.ent p) (my aX (bU.T.ent p));rw[show dD use (Option.getD none aU.zero) (Option.isSome (none:Option aU)) _ _=2 from this]at aC;cases aC
  |some r=>rw[an]at aC;exact(vM use).d1 _ _ _ aC
 refine⟨ku,uk,?_,Bn,us.s,aD⟩;have ail:(aX.au.map (·.s)).Nodup:=by rw[<-ep];exact K_
 have ai:view c b5=m9 bU.s (iu p fB) (view c aX):=by
  unfold view m9;rw[ep,List.map_map];refine List.map_congr_left λy aq=> ?_
  simp only[Function.comp];by_cases e:y=bU
  ·subst e;rw[if_pos rfl];congr 2;funext q;unfold iu;by_cases aF:q=p
   ·rw[if_pos aF,aF];exact nu
   ·rw[if_neg aF];exact nt y q aq (.inr aF)
  ·rw[if_neg λde=>e (V0 ail aq us.mem de)];rw[show cont c b5 y=cont c aX y from funext λq=>nt y q aq (.inl e)]
 rw[ai,us.s,us.view]
theorem aaA(k:Good h X c ρ σ (λ_=>0) (λ_=>0))(aF:Quiet c (σ.au.map (·.L))){x:bH}(ag:x∈σ.au){addr:Nat}(bc:addr<9223372036854775808)(use:Int){b:Nat}(aj:b<256) :
  bh (call J PV (.func 33 [] []) [.ptr x.s 0,.int .i64 addr,.int .i64 use,.int .u8 b] h) λv g=>bX ρ h g/\∃b5 ev,(∀i,i<h.next->ev i=ρ i)/\Good g X c ev b5 (λ_=>0) (λ_=>0)/\
   ((¬mE x.L (addr/64) use/\v=.tuple [.int .u8 0,.int .i64 19]/\b5.free=σ.free/\view c b5=view c σ)\/
    (mE x.L (addr/64) use/\∃m fB,cont c σ x (addr/64)=some m/\fB=(if use=2 then e8 m (addr%64) 1 b else m)/\v=.tuple [.int .u8 (cB fB (addr%64) 1:Nat),.int .i64 0]/\
      view c b5=m9 x.s (iu (addr/64) fB) (view c σ)/\∃eY,eY∈b5.au/\eY.s=x.s/\(eY.T.ent (addr/64)).here=true)):=by
 refine bh.mono (aaz k ag bc use aj) ?_;rintro v g ⟨w,i,aX,bU,dy,us,aH⟩;refine⟨w,?_⟩;have dB:mE bU.L (addr/64) use↔mE x.L (addr/64) use:=by rw[us.L]
 rcases aH with⟨rfl,aC,bk⟩ |⟨rfl,ku,aC,bk⟩ |⟨aC,m,b5,hm,b_,ep,fw,F_,oZ,nt,nu,rfl⟩
 ·refine⟨aX,dy,us.ro,bk,.inl ⟨λh=>(JR.1 aC) (dB.2 h),rfl,?_,us.view⟩⟩;have:=YN us.dS aF k.ids;rcases this with h0|⟨y,aq,f_,h⟩
  ·exact(aqE us.dS h0).1
  ·exfalso;have:y=bU:=bk.iP aq us.mem (f_.trans us.s.symm);subst this;omega
 ·exfalso;rcases YN us.dS aF k.ids with h0|⟨y,aq,f_,h⟩
  ·rcases aC with h1|⟨h1,_⟩
   ·omega
   ·have:=aF.room aX bk.inv (by rw[p9 (c:=c),us.view,<-p9]);omega
  ·rcases aC with h1|⟨h1,_⟩
   ·omega
   ·have:=aF.room aX bk.inv (by rw[p9 (c:=c),us.view,<-p9]);omega
 ·obtain⟨ku,uk,ai,Bn,gm,aD⟩:=aay k ag us aC hm b_.ids ep nt nu;exact⟨b5,dy,us.ro,b_,.inr ⟨ku,m,_,uk,rfl,rfl,ai,bU,Bn,gm,aD⟩⟩
end
end
def Pr(h:ae) :Bool:=(List.range 10).all λk=>match bP h 0 k with
 |some v=>s_ v (Er.getD k 0)
 |none=>false
theorem Ps{h:ae}(e:Pr h=true)(aw:0<h.next) :lE h:=by
 refine⟨λk av=> ?_,aw⟩;have:=List.all_eq_true.1 e k (List.mem_range.2 av);split at this
 ·rename_i v ai;rw[ai,wm this]
 ·cases this
def yg(r:Option (aa×ae)) :Option (Nat×aa×ae×Bv):=r.bind λq=>match q.1 with
 | .tuple [a,b]=>(mO a).bind λM=>(MB q.2 M).bind λl=>if Pr q.2=true/\0<q.2.next then some (M,b,q.2,l)else none
 |_=>none
structure RD(r:Option (aa×ae))(uN MN:Nat)(g:ae)(X:ew)(c:df)(ρ:Nat->Nat)(σ:b8)(b:aa)(cb:List fW) :Prop where
 cQ:r=some (.tuple [.ptr X.M 0,b],g)
 nm:Good g X c ρ σ (λ_=>0) (λ_=>0)
 n:c.n=uN
 c1:c.c1=MN
 vU:∃sec,c.iU=fileAt cb sec
 loose:∀s p,¬c.loose s p
 au:σ.au=[]
 ring:σ.ring=[]
 free:σ.free=uN
 used:σ.used=0
theorem Ms{α:Type}{GF:List fW->α}{r:Option (aa×ae)}{n s:Nat}{K:α}(h:(yg r).map (λq=>(q.2.2.2.A.n,q.2.2.2.R.c1,GF q.2.2.2.F.cb))=some (n,s,K)) :∃g X c ρ σ b cb,RD r n s g X c ρ σ b cb/\GF cb=K:=by
 obtain⟨q,e,h⟩:=Option.map_eq_some_iff.1 h;simp only[Prod.mk.injEq]at h;obtain⟨rfl,rfl,rfl⟩:=h;unfold yg at e;obtain⟨⟨v,g⟩,h1,e⟩:=Option.bind_eq_some_iff.1 e;dsimp only at e;split at e
 ·rename_i a b;obtain⟨M,ab,e⟩:=Option.bind_eq_some_iff.1 e;obtain⟨l,al,e⟩:=Option.bind_eq_some_iff.1 e;split at e
  ·rename_i aH;simp only[Option.some.injEq]at e;subst e;obtain⟨X,ρ,bU,eY,jS,mD,_,kH⟩:=VM al (Ps aH.1 aH.2);refine⟨g,X,_,ρ,_,b,l.F.cb,⟨?_,kH,rfl,rfl,⟨_,rfl⟩,λ_ _ h=>h,rfl,rfl,rfl,rfl⟩,rfl⟩;rw[h1,pk ab,bU]
  ·cases e
 ·cases e
def Dr(P:cn)(n s:Int) :Option (aa×ae):=(fns (env []) P 300).call (.func 29 [] []) [.int .i64 n,.int .i64 s] dB
theorem Hz{P:cn}{n s:Int}{r:aa×ae}(e:Dr P n s=some r) :call J P (.func 29 [] []) [.int .i64 n,.int .i64 s] dB=some r:=pe.2 ⟨300,e⟩
theorem ak0:(yg (Dr qh 64 8)).map (λq=>(q.2.2.2.A.n,q.2.2.2.R.c1,rq q.2.2.2.F.cb))=some (64,8,7):=by kernel_rfl
section
set_option maxRecDepth 100000
variable{PV:cn} [cN PV]
def Q7(a0 ao a2:aa)(C:bW)(h:ae) :Option a1:=ca (dz J 47) h λv1 h1=>U (dY J 47 [(0,a0),(1,ao),(2,a2),(3,(.int .i64 2)),(4,(.int .i64 (-1)))]) λv2=>U (bN J h1 47 v1 v2) λab=>U (ak J ab 47 v1) λv3=>some (.ret,[v3],ab)
theorem akd{a0 ao a2:aa} :LT PV 35 [a0,ao,a2] (Q7 a0 ao a2):=
 cc (f:=Tryz.f35) (hF (hF .leaf)) (by kernel_rfl) (b' rfl (by kernel_rfl)) λ_ _=>by kernel_rfl
end
end Go.Proofs.YtkdjcmpgnkecfaaGreatDoor
end
