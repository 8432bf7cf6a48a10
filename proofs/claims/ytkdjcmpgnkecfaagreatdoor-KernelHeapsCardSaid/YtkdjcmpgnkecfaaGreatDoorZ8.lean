/-
  Texts W36 W37 W38 W39 W41 W42 W57 W43 W44 W48 W49 W51 B1 W53 W58 Q1 Q2 Q3 M0 Q4 W55 W56 M1 Q5 M3 Q6 Q7 T2, joined; own names made short.
-/
import Derived.Test.YtkdjcmpgnkecfaaGreatDoorZ7
import Derived.Carry
import Derived.ChangeSlices
set_option linter.unusedVariables false
set_option linter.unusedSimpArgs false
set_option linter.unusedSectionVars false
set_option exponentiation.threshold 600
noncomputable section
namespace Go.Proofs.YtkdjcmpgnkecfaaGreatDoor
open Go.a6
section
variable{PV:cw} [db PV]
def dx(use:Int) :rk:=λr b s n=>hQ r b s use n
theorem wZ(use:Int) :K' (dx use)where
 no:=λr s n=>by unfold dx hQ;rw[if_pos (.inl rfl)]
 d1:=λr s n h=>by
  unfold dx hQ at h;cases aC:s.here with
  |true=>rfl
  |false=>rw[aC]at h;split at h<;>(try split at h)<;>(try split at h)<;>(try split at h)<;>simp_all
 d3:=λr s n h=>by
  unfold dx hQ at h;split at h
  ·cases h
  split at h
  ·cases h
  rename_i aY;split at h
  ·rename_i aC;split at h
   ·rename_i aj;exact⟨by simpa using aY,aC,aj⟩
   ·cases h
  split at h
  ·cases h
  split at h<;>cases h
 d4:=λr s n h=>by
  unfold dx hQ at h;split at h
  ·cases h
  split at h
  ·cases h
  rename_i aY;split at h
  ·rename_i aC;split at h
   ·cases h
   ·rename_i aj;exact⟨by simpa using aY,aC,aj⟩
  split at h
  ·cases h
  split at h<;>cases h
 d5:=λr s n h=>by
  unfold dx hQ at h;split at h
  ·cases h
  split at h
  ·assumption
  split at h
  ·split at h<;>cases h
  split at h
  ·cases h
  split at h<;>cases h
 d6:=λr s n h=>by
  unfold dx hQ at h;split at h
  ·cases h
  split at h
  ·cases h
  split at h
  ·split at h<;>cases h
  rename_i aC;simpa using aC
 d7:=λr s n h=>by
  unfold dx hQ at h;split at h
  ·cases h
  split at h
  ·cases h
  split at h
  ·split at h<;>cases h
  rename_i aC;split at h
  ·cases h
  split at h
  ·rename_i aA;exact⟨by simpa using aC,aA.2⟩
  ·cases h
 all:=λr b s n=>by
  unfold dx hQ;split
  ·simp
  split
  ·simp
  split
  ·split<;>simp
  split
  ·simp
  split<;>simp
theorem Xt{r:aH}{s:ba}{n:Int}{b:Bool}(h:dx 2 r b s n=1) :s.write=true/\s.here=true:=by
 unfold dx hQ at h;split at h
 ·cases h
 split at h
 ·cases h
 split at h
 ·split at h<;>cases h
 rename_i aC;split at h
 ·rename_i aA;rcases aA with aA|aA
  ·exact absurd rfl aA
  ·exact⟨aA,by simpa using aC⟩
 split at h<;>cases h
section
variable{h g:ag}{X:dQ}{c:cN}{ρ a8:Nat->Nat}{σ aG:b0}{d e:Nat->Int}
theorem akn(g:ag){eY:Nat}{use:Int}(bP:a6.Obj g eY [.int .i64 use])(af:eY<g.next)(r:aH)(there:Bool)(s:ba)(sh:Int) :bN (call ai PV (.func 88 [] [.ptr eY 0]) [.agg r.vs,.bool there,s.dz,.int .i64 sh] g) λv bH=>v=.int .i64 (dx use r there s sh)/\aX g bH:=by
 refine cF aeA rfl ?_;refine b1 (o_ (cs:=r.vs) rfl) λg1 bU dF aW=> ?_
 refine b1 (sP (cs:=s.vs) rfl) λg2 cc dS a_=> ?_
 have eA:=bU.ext a_ (by omega);have xY:=(bP.ext aW af).ext a_ (by omega);rw[i' eA (by simp[aH.vs])];simp only[ak];rw[A2 cc (by simp[ba.vs])];simp only[ak,b6,Obj.get xY (i:=0) rfl];rw[show List.take 6 (List.drop 0 r.vs)=r.vs from rfl,show J.agg (List.take 5 (List.drop 0 s.vs))=s.dz from rfl];refine bS (Xu g2 r there s use sh) ?_;rintro _ g3 ⟨rfl,bw⟩;exact aJ.pure ⟨rfl,(aW.trans a_).trans bw⟩
theorem ag7(k:Good h X c ρ σ (λ_=>0) (λ_=>0)){x:bD}(ab:x∈σ.ax){p:Nat}(aC:(x.T.ent p).here=true)(f_:hE (x.T.ent p)=false)(Hr:refs σ (x.T.ent p).n.toNat=1){o b:Nat}(aY:o<64)(af:b<256) :
  bN (call ai PV (.func 90 [] []) [.ptr x.s 0,.int .i64 (x.T.ent p).n,.int .i64 o,.int .u8 b] h) λv g=>bG ρ h g/\Good g X c ρ {σ with mem:=aq σ.mem (x.T.ent p).n.toNat (dq (σ.mem (x.T.ent p).n.toNat) o 1 b)} (λ_=>0) (λ_=>0)/\
   (∀y q,y∈σ.ax->(y≠x\/q≠p)->cont c {σ with mem:=aq σ.mem (x.T.ent p).n.toNat (dq (σ.mem (x.T.ent p).n.toNat) o 1 b)} y q=cont c σ y q):=by
 refine cF aeC rfl ?_;have hU:=l1 (k.inv.kX ab (gE aC));have kV:=k.inv.here x p ab aC;have zw:=k.inv.Cx ab aC (Int.le_refl 0);have eK:(((x.T.ent p).n.toNat:Nat) :Int)=(x.T.ent p).n:=by have:=hU.1;omega
 obtain⟨a,ea,au⟩:=List.append_of_mem ab;have dy:=k.inv.store au (p:=p) (dq (σ.mem (x.T.ent p).n.toNat) o 1 b) aC f_ Hr
 have ZM:fS ai h 5 67 (.int .u8 b)=some (.int .u64 b):=by
  have e:fS ai h 5 67 (.int .u8 b)=some (.int .u64 (bF .u64 b)):=by kernel_rfl
  rw[e,wrap_u64 (by omega) (by omega)]
 simp only[b2,q1,lF,ak,lH,gK,(k.sys.ax x ab).field.1,k.sys.field.1,ZM];have j_:=k.ps.j_;obtain⟨g,aw,gG,aW⟩:=RW k.ps.w k.ps.p j_.2.1 (k:=1) (.inl rfl) (f:=(x.T.ent p).n.toNat) (by rw[k.dn.n];exact kV) (by omega) (at':=o) (by show o+1<=64;omega) (bits:=b) (by omega);rw[eK]at aw;rw[show(J.int .i64 1)=.int .i64 ((1:Nat) :Int)from rfl,aw]
 have xw:bT b 0 (bM 1)=b:=by show b/2^(8*0) %2^(8*1)=b;simp;omega
 rw[xw]at gG;have eL:=k.sys.core.eL;have w:ct ρ h g:=ct.of aW λi _ e=>by subst e;omega
 have qL:=k.sys.core.mJ gG (aW.mono λi _ e=>.inl e);simp only[c1];refine aJ.pure ⟨bG.own w,⟨k.sys.own qL rfl w (λ_ _=>rfl),dy.1,k.dn,k.sec,k.ho⟩,λy q an cE=> ?_⟩;by_cases C6:y∈a++ea
 ·exact dy.2.1 y q C6
 ·rw[au]at an;rcases gu.1 an with rfl|an
  ·exact dy.2.2.1 q (cE.resolve_left λh=>h rfl)
  ·exact absurd an C6
theorem ag4(k:Good h X c ρ σ (λ_=>0) (λ_=>0)){x:bD}(ab:x∈σ.ax){p:Nat}(aC:(x.T.ent p).here=true)(hw:(x.T.ent p).write=true){o b:Nat}(aY:o<64)(af:b<256) :
  bN (call ai PV (.func 90 [] []) [.ptr x.s 0,.int .i64 (x.T.ent p).n,.int .i64 o,.int .u8 b] h) λv g=>bG ρ h g/\Good g X c ρ {σ with mem:=aq σ.mem (x.T.ent p).n.toNat (dq (σ.mem (x.T.ent p).n.toNat) o 1 b)} (λ_=>0) (λ_=>0)/\
   (∀y q,y∈σ.ax->(y≠x\/q≠p)->cont c {σ with mem:=aq σ.mem (x.T.ent p).n.toNat (dq (σ.mem (x.T.ent p).n.toNat) o 1 b)} y q=cont c σ y q):=
 ag7 k ab aC (by simp[hE,hw]) (k.inv.write x p ab aC hw) aY af
end
end
section
variable{PV:cw} [db PV]
section
variable{h g:ag}{X:dQ}{c:cN}{ρ a8:Nat->Nat}{σ aG:b0}{d e:Nat->Int}
theorem L'{x:bD}{p:Nat}{r:aH}(ah:bO x.L p=some r)(aC:(x.T.ent p).here=true) :cont c σ x p=some (σ.mem (x.T.ent p).n.toNat):=by unfold cont;rw[ah];simp only[aC,if_true]
structure Used(h:ag)(X:dQ)(c:cN)(ρ:Nat->Nat)(σ:b0)(x:bD)(p:Nat)(dec:rk)(g:ag)(i:Nat)(aT:b0)(bB:bD)(c3:Nat->Nat) :Prop where
 ro:∀i,i<h.next->c3 i=ρ i
 c7:kK c dec x.s p i σ aT
 le:i<=200
 mem:bB∈aT.ax
 s:bB.s=x.s
 L:bB.L=x.L
 view:view c aT=view c σ
theorem akq(k:Good h X c ρ σ (λ_=>0) (λ_=>0)){x:bD}(ab:x∈σ.ax){addr:Nat}(aU:addr<9223372036854775808)(use:Int){b:Nat}(af:b<256) :
  bN (call ai PV (.func 33 [] []) [.ptr x.s 0,.int .i64 addr,.int .i64 use,.int .u8 b] h) λv g=>bG ρ h g/\∃i aT bB c3,Used h X c ρ σ x (addr/64) (dx use) g i aT bB c3/\
   ((v=.tuple [.int .u8 0,.int .i64 19]/\cY (dx use) aT bB (addr/64)=2/\Good g X c c3 aT (λ_=>0) (λ_=>0))\/
    (v=.tuple [.int .u8 0,.int .i64 18]/\nD (dx use) x.L (addr/64)/\(i=200\/aT.free<4/\pt c aT/\cY (dx use) aT bB (addr/64)≠1/\cY (dx use) aT bB (addr/64)≠2/\cY (dx use) aT bB (addr/64)≠7)/\Good g X c c3 aT (λ_=>0) (λ_=>0))\/
    (cY (dx use) aT bB (addr/64)=1/\∃m b_,cont c aT bB (addr/64)=some m/\Good g X c c3 b_ (λ_=>0) (λ_=>0)/\b_.ax=aT.ax/\b_.free=aT.free/\b_.ring=aT.ring/\b_.used=aT.used/\
      (∀y q,y∈aT.ax->(y≠bB\/q≠addr/64)->cont c b_ y q=cont c aT y q)/\cont c b_ bB (addr/64)=some (if use=2 then dq m (addr%64) 1 b else m)/\
      v=.tuple [.int .u8 (bT (if use=2 then dq m (addr%64) 1 b else m) (addr%64) 1:Nat),.int .i64 0])):=by
 refine cF aei rfl ?_;refine b1 (AY (cs:=[.int .i64 use]) rfl) λg1 bU dF aW=> ?_
 have a':=k.ext aW;have gJ:ρ h.next=0:=k.fresh (Nat.le_refl _);have dI:¬(addr:Int) <0:=by omega
 have aw:bF .i64 ((addr:Int).tdiv 64)=((addr/64:Nat) :Int):=by rw[show(addr:Int).tdiv 64=((addr/64:Nat) :Int)from rfl,wrap_i64 (by omega) (by omega)]
 have aL:(addr:Int).tmod 64=((addr%64:Nat) :Int):=rfl;simp only[JC (a'.sys.ax x ab),c1,dc,ak,a1];rw[if_neg (by decide)];simp only[cQ,ak,a1];rw[if_neg (by simp)];simp only[yP .i64 (show(64:Int)≠0 by decide),aw,ak,b6,Obj.get bU (i:=0) rfl];refine bS (W7 (wZ use) a' ab (p:=addr/64) (λg2 aj al r there s sh=>akn g2 (aj _ _ bU (by omega) gJ) (by omega) r there s sh)) ?_;rintro v g2 ⟨dV,i,aT,c3,bB,gh,bR,hH,Ay,g_,jt,pW,uc,aA⟩;have w:bG ρ h g2:=(bG.ext (ρ:=ρ) aW).trans dV (λ_ _=>rfl);have us:Used h X c ρ σ x (addr/64) (dx use) g2 i aT bB c3:=⟨λj az=>gh j (by omega),hH,Ay,g_,jt,pW,uc⟩;have cc:=dV.ca bU (by omega) gJ;have tI:=dV.next;rcases aA with⟨rfl,ao⟩ |⟨rfl,ao,m9⟩ |⟨rfl,ao⟩
 ·simp only[hg,ak,dc,a1];rw[if_pos (by decide)];exact aJ.pure ⟨w,i,aT,bB,c3,us,.inl ⟨rfl,ao,bR⟩⟩
 ·simp only[hg,ak,dc,a1];rw[if_neg (by decide)]
  obtain⟨r,ah⟩ :∃r,bO bB.L (addr/64:Nat)=some r:=by rw[pW];exact Option.ne_none_iff_exists'.1 m9
  have pF:dx use r true (bB.T.ent (addr/64)) (mO aT (bB.T.ent (addr/64)))=1:=by have:=ao;unfold cY at this;rw[ah]at this;exact this
  have aC:=(wZ use).d1 _ _ _ pF;have hU:=l1 (bR.inv.kX g_ (gE aC));have eK:(((bB.T.ent (addr/64)).n.toNat:Nat) :Int)=(bB.T.ent (addr/64)).n:=by have:=hU.1;omega
  have kV:=bR.inv.here bB _ g_ aC;have zw:=bR.inv.Cx g_ aC (Int.le_refl 0);have ml:=L' (c:=c) (σ:=aT) ah aC;simp only[b6,Obj.get cc (i:=0) rfl,ak,c2,a1]
  have fin:∀(g3:ag) (b_:b0),bG ρ h g3->Good g3 X c c3 b_ (λ_=>0) (λ_=>0)->b_.ax=aT.ax->b_.free=aT.free->b_.ring=aT.ring->b_.used=aT.used->(∀y q,y∈aT.ax->(y≠bB\/q≠addr/64)->cont c b_ y q=cont c aT y q)->b_.held=aT.held->
    b_.mem (bB.T.ent (addr/64)).n.toNat=(if use=2 then dq (aT.mem (bB.T.ent (addr/64)).n.toNat) (addr%64) 1 b else aT.mem (bB.T.ent (addr/64)).n.toNat)->
    aJ (cd (kY (.ptr x.s 0)) λKG=>cd (gN ai 161 KG 0) λakt=>cd (dJ ai g3 42 akt) λKH=>cd (kY KH) λUJ=>cd (gN ai 156 UJ 0) λaku=>cd (dJ ai g3 152 aku) λv20=>cd (cV ai g3 .rem 3 (.int .i64 addr) (.int .i64 64)) λv21=>eM (call ai PV (.func 91 [] []) [v20,.int .i64 (bB.T.ent (addr/64)).n,v21,(.int .i64 1)] g3) λv22 cp=>cd (j2 v22 0) λv23=>cd (j2 v22 1) λv24=>cd (fS ai cp 67 5 v23) λv25=>some (.ret,[v25,(.int .i64 0)],cp))
    λ_ vs g=>bG ρ h g/\∃i aT bB c3,Used h X c ρ σ x (addr/64) (dx use) g i aT bB c3/\
   ((iY vs=.tuple [.int .u8 0,.int .i64 19]/\cY (dx use) aT bB (addr/64)=2/\Good g X c c3 aT (λ_=>0) (λ_=>0))\/
    (iY vs=.tuple [.int .u8 0,.int .i64 18]/\nD (dx use) x.L (addr/64)/\(i=200\/aT.free<4/\pt c aT/\cY (dx use) aT bB (addr/64)≠1/\cY (dx use) aT bB (addr/64)≠2/\cY (dx use) aT bB (addr/64)≠7)/\Good g X c c3 aT (λ_=>0) (λ_=>0))\/
    (cY (dx use) aT bB (addr/64)=1/\∃m b_,cont c aT bB (addr/64)=some m/\Good g X c c3 b_ (λ_=>0) (λ_=>0)/\b_.ax=aT.ax/\b_.free=aT.free/\b_.ring=aT.ring/\b_.used=aT.used/\
      (∀y q,y∈aT.ax->(y≠bB\/q≠addr/64)->cont c b_ y q=cont c aT y q)/\cont c b_ bB (addr/64)=some (if use=2 then dq m (addr%64) 1 b else m)/\
      iY vs=.tuple [.int .u8 (bT (if use=2 then dq m (addr%64) 1 b else m) (addr%64) 1:Nat),.int .i64 0])):=by
   intro g3 b_ ny bY bo eh XL XM e6 jC oH;have Bp:bB∈b_.ax:=by rw[bo];exact g_
   have Cl:=(bY.sys.ax bB Bp).field;rw[jt]at Cl;simp only[b2,q1,lF,ak,lH,gK,Cl.1,bY.sys.field.1,ti .i64 (show(64:Int)≠0 by decide),aL];obtain⟨g4,nL,bA⟩:=Ph bY.ps.w bY.ps.p ⟨bY.ps.j_.1,bY.ps.j_.2.1,bY.ps.j_.2.2⟩ (k:=1) (.inl rfl) (f:=(bB.T.ent (addr/64)).n.toNat) (by rw[bY.dn.n];exact kV) (by rw[jC];omega) (at':=addr%64) (by show addr%64+1<=64;omega);rw[eK]at nL;rw[show(J.int .i64 1)=.int .i64 ((1:Nat) :Int)from rfl,nL];have bK:bT (b_.mem (bB.T.ent (addr/64)).n.toNat) (addr%64) (bM 1) <256:=ky _ _ _;simp only[c1,hg,ak,Md];rw[wrap_u8 (by omega) (by omega)];refine aJ.pure ⟨ny.trans (bG.ext (ρ:=ρ) bA) (λ_ _=>rfl),i,aT,bB,c3,⟨us.ro,us.c7,us.le,us.mem,us.s,us.L,us.view⟩,.inr (.inr ⟨ao,_,b_,ml,bY.ext bA,bo,eh,XL,XM,e6,?_,?_⟩)⟩
   ·rw[L' (c:=c) (σ:=b_) ah aC,oH]
   ·rw[oH];rfl
  by_cases rF:use=2
  ·rw[if_pos (by simpa using rF)];have C3:=Xt (by rw[rF]at pF;exact pF);simp only[ti .i64 (show(64:Int)≠0 by decide),aL,ak];have qI:=ag4 bR g_ aC C3.1 (o:=addr%64) (b:=b) (by omega) af;rw[jt]at qI
   refine fV (P:=λy vs g=>y=.normal/\vs=[]/\bG c3 g2 g/\Good g X c c3 {aT with mem:=aq aT.mem (bB.T.ent (addr/64)).n.toNat (dq (aT.mem (bB.T.ent (addr/64)).n.toNat) (addr%64) 1 b)} (λ_=>0) (λ_=>0)/\
    (∀y q,y∈aT.ax->(y≠bB\/q≠addr/64)->cont c {aT with mem:=aq aT.mem (bB.T.ent (addr/64)).n.toNat (dq (aT.mem (bB.T.ent (addr/64)).n.toNat) (addr%64) 1 b)} y q=cont c aT y q)) (bS qI λv g4 ay=>aJ.pure ⟨rfl,rfl,ay.1,ay.2.1,ay.2.2⟩) ?_
   rintro _ _ g4 ⟨rfl,rfl,iJ,c8,ZD⟩;simp only[bd,hf];exact fin g4 _ (w.trans iJ us.ro) c8 rfl rfl rfl rfl ZD rfl (by rw[if_pos rF];exact e3 _ _ _)
  ·rw[if_neg (by simpa using rF)];simp only[cO,bd,hf];exact fin g2 aT w bR rfl rfl rfl rfl (λ_ _ _ _=>rfl) rfl (by rw[if_neg rF])
 ·simp only[hg,ak,dc,a1];rw[if_pos (by decide)];exact aJ.pure ⟨w,i,aT,bB,c3,us,.inr (.inl ⟨rfl,ao.1,ao.2,bR⟩)⟩
end
end
section
variable{PV:cw} [db PV]
theorem VY(M t:Nat) :dW ai 161 [(0,.ptr M 0),(1,.ptr t 0)]=some (.agg [.ptr M 0,.ptr t 0,.bh]):=by kernel_rfl
theorem Wo(a:Nat) :gY ai 75 1 [(0,.ptr a 0)]=some (λid=>J.slice id 0 1 1 1 true,.cells ([J.ptr a 0] :List J).length false [] (bj.ofList [.ptr a 0])):=by kernel_rfl
section
variable{h g:ag}{X:dQ}{c:cN}{ρ a8:Nat->Nat}{σ aG:b0}{d e:Nat->Int}
theorem Core.role(k:Core h X ρ σ)(ah:∀i,ρ i≠0->a8 i=ρ i)(ar:∀i,a8 i≠0->i<h.next) :Core h X a8 σ where
 ps:=k.ps
 ji:=k.ji
 gM:=k.gM
 gm:=k.gm
 dd:=by obtain⟨rv,hits,fills,o,v,ex,dL⟩:=k.dd.str;exact⟨⟨rv,hits,fills,o,v,ex,λb af=>by rw[ah b (by rw[dL b af];decide)];exact dL b af⟩,k.dd.map,λy an=>⟨(k.dd.cy y an).1,by have:=(k.dd.cy y an).2;rw[ah _ (by omega)];exact this⟩,k.dd.keys,k.dd.oK,k.dd.cL⟩
 eL:=by have:=k.eL;rw[ah _ (by omega),ah _ (by omega),ah _ (by omega)];exact this
 fa:=by have:=k.fa;rw[ah _ (by omega),ah _ (by omega)];exact this
 fG:=by have:=k.fG;rw[ah _ (by omega),ah _ (by omega)];exact this
 fF:=by have:=k.fF;rw[ah _ (by omega),ah _ (by omega)];exact this
 r0:=by have:=k.r0;rw[ah _ (by omega)];exact this
 d':=⟨by have:=k.d'.1;rw[ah _ (by omega)];exact this,λb af=>by have:=k.d'.2.1 b af;rw[ah _ (by omega)];exact this,λn b al af=>by have:=k.d'.2.2 n b al af;rw[ah _ (by omega)];exact this⟩
 lt:=ar
theorem pr.Q5{x:bD}(k:pr h X ρ x)(ah:∀i,ρ i≠0->a8 i=ρ i) :pr h X a8 x where
 str:=let⟨e0,o,r,dL⟩:=k.str;⟨e0,o,r,λb af=>by rw[ah b (by rw[dL b af];decide)];exact dL b af⟩
 lD:=k.lD
 role:=by have:=k.role;rw[ah _ (by omega),ah _ (by omega)];exact this
theorem akD{c:cN}{σ aG:b0}{x:bD}(h:aG.ax=σ.ax++[x])(k:∀y p,y∈σ.ax->cont c aG y p=cont c σ y p) :view c aG=view c σ++[(x.s,x.L,cont c aG x)]:=by unfold view;rw[h,List.map_append];congr 1;exact List.map_congr_left λy an=>by rw[show cont c aG y=cont c σ y from funext λp=>k y p an]
theorem aiD(k:Good h X c ρ σ (λ_=>0) (λ_=>0))(hz:0<σ.free\/hS σ<16000) :
  bN (call ai PV (.func 30 [] []) [.ptr X.M 0] h) λv g=>bG ρ h g/\((∃aT,Good g X c ρ aT (λ_=>0) (λ_=>0)/\view c aT=view c σ/\(0<σ.free->aT=σ)/\σ.free<=aT.free/\
   v=.tuple [.nilPtr,.int .i64 18]/\aT.free=0/\pt c aT)\/∃aT f s t a8,(∀i,i<h.next->a8 i=ρ i)/\view c aT=view c σ/\(0<σ.free->aT=σ)/\σ.free<=aT.free/\0<aT.free/\f<c.n/\v=.tuple [.ptr s 0,.int .i64 0]/\h.next<=s/\
    Good g X c a8 {aT with mem:=aq aT.mem f 0,held:=aq aT.held f 1,free:=aT.free-1,ax:=aT.ax++[⟨s,t,eP f,[]⟩]} (λ_=>0) (λ_=>0)/\
    view c {aT with mem:=aq aT.mem f 0,held:=aq aT.held f 1,free:=aT.free-1,ax:=aT.ax++[⟨s,t,eP f,[]⟩]}=view c σ++[(s,[],λ_=>none)]):=by
 refine cF ad_ rfl ?_;simp only[Kh,ak,a1,Bool.false_eq_true,if_false]
 refine gW (n:=14) (I:=λi vs g=>vs=[.nilPtr,.int .i64 0]/\bG ρ h g/\∃aT,Good g X c ρ aT (λ_=>0) (λ_=>0)/\view c aT=view c σ/\(0<σ.free->aT=σ)/\σ.free<=aT.free/\(hS aT+i<=hS σ\/0<aT.free)) (m:=if 0<σ.free then 0 else hS σ+1)
  (P:=λx vs g=>bG ρ h g/\∃aT,Good g X c ρ aT (λ_=>0) (λ_=>0)/\view c aT=view c σ/\(0<σ.free->aT=σ)/\σ.free<=aT.free/\((x=.exit 0/\(∃a b,vs=[a,b])/\0<aT.free)\/(x=.ret/\vs=[.nilPtr,.int .i64 18]/\aT.free=0/\pt c aT))) (by split<;>omega) ⟨rfl,bG.ext (aF.refl _ _),σ,k,rfl,λ_=>rfl,Nat.le_refl _,.inl (by omega)⟩ ?_ ?_
 ·rintro i _ h1 U ⟨rfl,aW,aT,a',v1,s1,f1,hm⟩;simp only[bn,bd,b2,lF,ak,gK,a'.sys.field.1,Gx a'.sys.core.ps.p,c1,c2,a1];by_cases bc:(aT.free:Int)=0
  ·rw[if_pos (by simpa using bc)];have iQ:¬0<σ.free:=by omega
   rw[if_neg iQ]at U;rw[if_neg iQ];refine bS (Ps a') ?_;rintro _ g2 ⟨dV,b,b_,rfl,bR,md,af⟩;simp only[fA,ak,a1];cases b with
   |true=>
    rw[if_neg (by decide)];have hT:=md.go rfl;refine aJ.pure (.inl ⟨rfl,by omega,rfl,aW.trans dV (λ_ _=>rfl),b_,bR,md.view.trans v1,λh=>absurd h iQ,by have:=md.free;omega,?_⟩);omega
   |false=>
    rw[if_pos (by decide)];obtain⟨vx,AQ⟩:=af rfl;exact aJ.pure (.inr ⟨by simp,aW.trans dV (λ_ _=>rfl),b_,bR,md.view.trans v1,λh=>absurd h iQ,by have:=md.free;omega,.inr ⟨rfl,rfl,by rw[vx.free];omega,AQ⟩⟩)
  ·rw[if_neg (by simpa using bc)];exact aJ.pure (.inr ⟨by simp,aW,aT,a',v1,s1,f1,.inl ⟨rfl,⟨_,_,rfl⟩,by omega⟩⟩)
 ·rintro x vs g1 ⟨bV,aT,a',v1,s1,f1,⟨rfl,⟨a,b,rfl⟩,lY⟩ |⟨rfl,rfl,h0,AQ⟩⟩
  ·simp only[bn,bd,fZ,if_true,b2,lF,ak,gK,a'.sys.field.1];refine bS (ajW a'.ps a'.me lY) ?_;rintro _ g2 ⟨f,t,aB,aC,rfl,abw,abx,fz,t2,a_⟩;rw[a'.dn.n]at aB;have dV:ct ρ g1 g2:=ct.of a_ λi _ e=>by have:=a'.sys.core.oi e;omega
   have bW:=a'.sys.core.mJ fz.p a_;have s2:=a'.sys.own bW rfl dV (λ_ _=>rfl);simp only[hg,ak,dc,a1];rw[if_neg (by decide)];simp only[VY,ak];refine b1 (aja (cs:=[.ptr X.M 0,.ptr t 0,.bh]) rfl) λg3 b8 eH bw=> ?_
   have du:=s2.ext bw;obtain⟨ec,og,hL,ex,dL⟩:=du.mem;simp only[b2,Es,Nat.zero_add,ak,Ke,Obj.get og (i:=4) rfl];refine b1 (Wo _) λg4 c5 gb bA=> ?_
   have mr:=bV.next;have jm:=a'.AN;have rX:=a'.n;have np:=a'.sys.np;have ar:=du.core.lt;have oc:=ar X.M (by omega);have agf:=og.ext bA oc
   obtain⟨w,g5,e6,KQ,Gg,bZ,⟨kM,pE,Zo,Zp⟩,wF,ws⟩:=(hL.ext bA).push (T:=75) (si:=A_) (ie:=EL) (by kernel_rfl) rfl (by kernel_rfl) rfl (by decide) ex (xcap:=1) (xex:=true) c5 rfl rfl (by
    rw[List.length_map,List.length_map];show roomy (aT.ax.length+1) 8=true;unfold roomy;rw[Bool.and_eq_true,dr,dr]
    omega)
   rw[show EL.size=1 from rfl]at e6;rw[e6]
   have nq:∀b,ch ec=some b->b<g3.next/\b≠X.M:=λb af=>by have h1:=dL b af;exact⟨ar b (by omega),λe=>by rw[e]at h1;omega⟩
   have agh:=agf.aq bZ (by omega) (λe=>(nq _ e).2 rfl);have tJ:=bZ.next;simp only[c1,ak,b2,Es,Nat.zero_add];refine cb (aj8 (k:=4) (v:=w) agh (by simp) wF ws) λg6 ⟨di,b3,n6⟩=> ?_
   simp only[List.set_cons_succ,List.set_cons_zero]at di;have zu:g1.next<=g2.next:=a_.next;let ek:Nat->Nat:=λi=>if i=t then 16 else if i=g2.next then 15 else if ch w=some i then 14 else ρ i
   have oN:∀b,ch w=some b->(ρ b=14/\b<g3.next\/g4.next<=b)/\b<g5.next:=λb af=>by
    rw[pE]at af;cases af;refine⟨?_,Zo⟩;rcases Zp with e|e
    ·exact .inl ⟨dL _ e,(nq _ e).1⟩
    ·exact .inr e
   have rt:ρ t=0:=a'.fresh abw;have rs:ρ g2.next=0:=a'.fresh zu
   have hB:∀i,i<g1.next->ek i=ρ i:=λi U=>by
    show(if i=t then 16 else if i=g2.next then 15 else if ch w=some i then 14 else ρ i)=ρ i;rw[if_neg (by omega),if_neg (by omega)];by_cases e:ch w=some i
    ·rw[if_pos e];rcases(oN i e).1 with cR|cR
     ·exact cR.1.symm
     ·omega
    ·rw[if_neg e]
   have hk:∀i,ρ i≠0->ek i=ρ i:=λi U=>hB i (a'.sys.core.lt i U)
   have Bd:aF (λi=>i=X.M\/ch ec=some i) g2 g6:=by
    have aQ:aF (λi=>i=X.M\/ch ec=some i) g2 g3:=aF.ext bw;have a2:aF (λi=>i=X.M\/ch ec=some i) g3 g4:=aF.ext bA;have a3:aF (λi=>i=X.M\/ch ec=some i) g4 g5:=bZ.mono λi _ e=>.inr e
    have a4:aF (λi=>i=X.M\/ch ec=some i) g5 g6:=b3.mono λi _ e=>.inl e
    exact((aQ.trans a2).trans a3).trans a4
   have cz:∀i,(i=X.M\/ch ec=some i)->ρ i=13\/ρ i=14:=λi e=>by
    rcases e with rfl|e
    ·exact .inl np
    ·exact .inr (dL i e)
   have akS:bG ρ g2 g6:=bG.of Bd λi _ e=>by have:=cz i e;omega
   have jZ:=s2.core.ca Bd (λi e _=>by have:=cz i e;omega) (λ_ _=>rfl) (λi U=>Nat.lt_of_lt_of_le (s2.core.lt i U) Bd.next)
   have oP:∀i,ek i≠0->i<g6.next:=λi U=>by
    have eo:(if i=t then 16 else if i=g2.next then 15 else if ch w=some i then 14 else ρ i)≠0:=U;by_cases aw:i=t
    ·omega
    ·rw[if_neg aw]at eo;by_cases aL:i=g2.next
     ·omega
     ·rw[if_neg aL]at eo;by_cases bo:ch w=some i
      ·have:=(oN i bo).2;omega
      ·rw[if_neg bo]at eo;have:=a'.sys.core.lt i eo;omega
   have oF:=jZ.role hk oP
   have afl:∀b,ch w=some b->b≠X.M:=λb af e=>by
    rcases(oN b af).1 with h1|h1
    ·rw[e]at h1;omega
    ·omega
   have AP:a6.Obj g6 g2.next [.ptr X.M 0,.ptr t 0,.bh]:=by have gh:=(b8.ext bA (by omega)).aq bZ (by omega) (λe=>by have:=dL _ e;omega);exact gh.aq b3 (by omega) (λe=>by rw[e]at rs;omega)
   have ajk:fP g6 X.A t (nodeAt (eP f) 0 0) (eP f).dX:=by rw[afr];exact Obj.aq t2 Bd abx (λe=>by have:=cz _ e;omega)
   have iQ:=a'.inv.rN (λf=>Int.le_refl 0) aB aC;have i1:=a'.inv.fill 0 iQ.1 iQ.2.2
   have i2:=i1.held (f:=f) aB 1 (aT.free-1) (λg=>(decide (g=f)).toNat) iQ.2.2 (by
    have:refs {aT with mem:=aq aT.mem f 0} f=refs aT f:=rfl
    rw[this,iQ.1];simp) (λg aE=>by simp[aE]) (by
    show aT.free-1+(decide (aT.held f=0)).toNat=aT.free+(decide (1=0)).toNat;rw[decide_eq_true aC];show aT.free-1+1=aT.free+0
    omega)
   have i3:=i2.space (f:=f) (s:=g2.next) (t:=t) aB (by show aq aT.mem f 0 f=0;rw[e3]) iQ.1 iQ.2.2 (by show aq aT.held f 1 f=1;rw[e3]) (λ_=>0) (λg=>by show(0:Int)=((decide (g=f)).toNat:Int) -((decide (g=f)).toNat:Int);omega) (by simp)
   have g':Sys g6 X ek {aT with mem:=aq aT.mem f 0,held:=aq aT.held f 1,free:=aT.free-1,ax:=aT.ax++[⟨g2.next,t,eP f,[]⟩]}:=by
    refine⟨⟨oF.ps,oF.ji,oF.gM,oF.gm,oF.dd,oF.eL,oF.fa,oF.fG,oF.fF,oF.r0,oF.d',oF.lt⟩,⟨w,di,?_,Gg,λb af=> ?_⟩,?_,λx ab=> ?_,?_⟩
    ·have:=KQ.aq b3 (λb af e=>afl b af e);show gk g6 1 w (((aT.ax++[(⟨g2.next,t,eP f,[]⟩ :bD)]).map λx:bD=>J.ptr x.s 0).map one);rw[List.map_append,List.map_append];exact this
    ·show(if b=t then 16 else if b=g2.next then 15 else if ch w=some b then 14 else ρ b)=14
     have h1:b≠t:=λe=>by
      rcases(oN b af).1 with h1|h1
      ·rw[e]at h1;omega
      ·omega
     have aa:b≠g2.next:=λe=>by
      rcases(oN b af).1 with h1|h1
      ·rw[e]at h1;omega
      ·omega
     rw[if_neg h1,if_neg aa,if_pos af]
    ·rw[hk _ (by omega)];exact np
    ·rcases List.mem_append.1 ab with ab|ab
     ·exact((s2.ax x ab).ca Bd (λi e _=>.inl (by have:=cz i e;omega)) (λ_ _=>rfl) s2.core.lt).Q5 hk
     ·rw[List.mem_singleton]at ab;subst ab;refine⟨⟨.bh,AP,jd.nil _,λb af=>by cases af⟩,ajk,?_,?_⟩
      ·show(if g2.next=t then 16 else if g2.next=g2.next then 15 else if ch w=some g2.next then 14 else ρ g2.next)=15;rw[if_neg (by omega),if_pos rfl]
      ·show(if t=t then 16 else if t=g2.next then 15 else if ch w=some t then 14 else ρ t)=16;rw[if_pos rfl]
    ·refine List.pairwise_append.2 ⟨s2.pY,List.pairwise_singleton _ _,λx ab y an=> ?_⟩;rw[List.mem_singleton]at an;subst an;have gq:x∈aT.ax:=ab;have r:=(a'.sys.ax x gq).role;exact⟨λe=>by rw[e]at r;have aa:ρ g2.next=15:=r.1;omega,λe=>by rw[e]at r;have aa:ρ t=16:=r.2;omega⟩
   refine aJ.pure ⟨(bV.trans (bG.own dV) (λ_ _=>rfl)).trans akS (λ_ _=>rfl),.inr ⟨aT,f,g2.next,t,ek,λi U=>hB i (by omega),v1,s1,f1,lY,aB,rfl,by omega,⟨g',i3,a'.dn,a'.sec,a'.ho⟩,?_⟩⟩;rw[<-v1]
   have abG:=akD (c:=c) (σ:=aT) (aG:={aT with mem:=aq aT.mem f 0,held:=aq aT.held f 1,free:=aT.free-1,ax:=aT.ax++[⟨g2.next,t,eP f,[]⟩]}) (x:=⟨g2.next,t,eP f,[]⟩) rfl (λy p an=>ld (λlV=>by
    show aq aT.mem f 0 _=_;rw[ed];intro e;have:=(kz iQ.1).1 y p an (a'.inv.lt an (gE lV))
    rw[<-e,ic a'.inv an lV]at this;cases this) (λ_=>rfl))
   rw[abG];rfl
  ·simp only[bn,bd,qj];exact aJ.pure ⟨bV,.inl ⟨aT,a',v1,s1,f1,rfl,h0,AQ⟩⟩
end
end
section
variable{PV:cw} [db PV]
section
variable{h g:ag}{X:dQ}{c:cN}{ρ a8:Nat->Nat}{σ aG:b0}{d e:Nat->Int}
theorem Good.row(k:Good h X c ρ σ (λ_=>0) (λ_=>0)){a b:List bD}{x:bD}(au:σ.ax=a++x::b){hv:List aH}(en:je hv)
  (aj:∀p:Nat,x.T.ent p≠.zero->(∃r b9,bO x.L p=some r/\bO hv p=some b9/\b9.kind=r.kind/\b9.file=r.file/\(r.kind=1->b9.bq+p-b9.lo=r.bq+p-r.lo))\/c.loose x.s p/\bO hv p=none)
  {e0:J} (o:a6.Obj g x.s [.ptr X.M 0,.ptr x.t 0,e0]) (rv:jd g e0 hv) (af:∀i,ch e0=some i->(ρ i=0\/ρ i=17)/\i<g.next) (u:aF (λi=>i=x.s) h g) :
  Good g X c (λi=>if ch e0=some i then 17 else ρ i) {σ with ax:=a++{x with L:=hv}::b} (λ_=>0) (λ_=>0):=by
 have ab:x∈σ.ax:=by rw[au];simp
 have rx:=(k.sys.ax x ab).role;have ar:=k.sys.core.lt
 have ah:∀i,ρ i≠0->(λi=>if ch e0=some i then 17 else ρ i) i=ρ i:=λi U=>by
  show(if ch e0=some i then 17 else ρ i)=ρ i;by_cases e:ch e0=some i
  ·rw[if_pos e];have:=(af i e).1;omega
  ·rw[if_neg e]
 have oP:∀i,(λi=>if ch e0=some i then 17 else ρ i) i≠0->i<g.next:=λi U=>by
  have eo:(if ch e0=some i then 17 else ρ i)≠0:=U;by_cases e:ch e0=some i
  ·exact(af i e).2
  ·rw[if_neg e]at eo;exact Nat.lt_of_lt_of_le (ar i eo) u.next
 have bc:=(k.sys.core.ca u (λi e _=>by subst e;omega) (λ_ _=>rfl) (λi U=>Nat.lt_of_lt_of_le (ar i U) u.next)).role ah oP;have pZ:=(k0 (R:=λx y:bD=>x.s≠y.s/\x.t≠y.t) (λa b al=>⟨al.1.symm,al.2.symm⟩)).1 (au▸k.sys.pY);obtain⟨ec,og,hL,ex,dL⟩:=k.sys.mem;have np:=k.sys.np;refine⟨⟨⟨bc.ps,bc.ji,bc.gM,bc.gm,bc.dd,bc.eL,bc.fa,bc.fG,bc.fF,bc.r0,bc.d',bc.lt⟩,⟨ec,og.aq u (ar _ (by omega)) (λe=>by rw[e]at np;omega),?_,ex,λb hi=>(ah b (by rw[dL b hi];decide)).trans (dL b hi)⟩,(ah X.M (by omega)).trans np,λy an=> ?_,(k0 (R:=λx y:bD=>x.s≠y.s/\x.t≠y.t) (λa b al=>⟨al.1.symm,al.2.symm⟩)).2 ⟨pZ.1,pZ.2⟩⟩,k.inv.row au en aj,k.dn,k.sec,k.ho⟩
 ·have:(a++{x with L:=hv}::b).map (λx:bD=>J.ptr x.s 0)=σ.ax.map (λx:bD=>J.ptr x.s 0):=by rw[au];simp
  show gk g 1 ec (((a++{x with L:=hv}::b).map (λx:bD=>J.ptr x.s 0)).map one);rw[this];exact hL.aq u (λb hi e=>by have:=dL b hi;rw[e]at this;omega)
 ·rcases gu.1 an with rfl|an
  ·have xN:=k.sys.ax x ab;exact⟨⟨e0,o,rv,λi U=>if_pos U⟩,Obj.aq xN.lD u (ar x.t (by omega)) (λe=>by have cR:x.t=x.s:=e;rw[cR]at rx;omega),(ah x.s (by omega)).trans rx.1,(ah x.t (by omega)).trans rx.2⟩
  ·have zV:y∈σ.ax:=by rw[au];exact gu.2 (.inr an)
   have vF:=k.sys.ax y zV;have i_:=vF.role;obtain⟨lw,ol,ij,nq⟩:=vF.str;have a':pr g X ρ y:=⟨⟨lw,ol.aq u (ar _ (by omega)) (λe=>(pZ.1 y an).1 e.symm),ij.aq u (λb cap ex e cR=>by have:=nq b (by rw[e];rfl);rw[cR]at this;omega),nq⟩,Obj.aq vF.lD u (ar _ (by omega)) (λe=>by rw[e]at i_;omega),i_⟩;exact a'.Q5 ah
theorem DQ{r b9:aH}{p:Int}(h:r.ew p=b9.ew p)(hm:r.may=true)(hU:b9.may=true) :b9.kind=r.kind/\b9.file=r.file/\(r.kind=1->b9.bq+p-b9.lo=r.bq+p-r.lo):=by unfold aH.ew at h;simp only[aH.mk.injEq]at h;obtain⟨_,_,_,aO,bb,cp⟩:=h;refine⟨aO.symm,bb.symm,λaj=> ?_⟩;simp only[aj,aO.symm.trans aj,if_true]at cp;omega
theorem Pu(k:Good h X c ρ σ (λ_=>0) (λ_=>0))(eU:∀s p,¬c.loose s p){a b:List bD}{x:bD}(au:σ.ax=a++x::b)(r:aH) :
  bN (call ai PV (.func 31 [] []) [.ptr x.s 0,.agg r.vs] h) λv g=>bG ρ h g/\
   ((r.may=false/\v=.int .i64 1/\Good g X c ρ σ (λ_=>0) (λ_=>0))\/
    (r.may=true/\(∃y,y∈x.L/\meets r y=true)/\v=.int .i64 13/\Good g X c ρ σ (λ_=>0) (λ_=>0))\/
    (r.may=true/\(∀y,y∈x.L->meets r y=false)/\v=.int .i64 0/\∃a8,(∀i,i<h.next->a8 i=ρ i)/\Good g X c a8 {σ with ax:=a++{x with L:=(fO r x.L).foldl c6 []}::b} (λ_=>0) (λ_=>0))):=by
 refine cF aeb rfl ?_;have ab:x∈σ.ax:=by rw[au];simp
 refine b1 (o_ (cs:=r.vs) rfl) λg1 bU dF aW=> ?_
 have a':=k.ext aW;simp only[JC (a'.sys.ax x ab),c1,dc,ak,a1];rw[if_neg (by decide)];have bC:aX g1 (g1.aV 11):=aF.aV _ _ _;have bR:=a'.ext bC;have oq:=bR.sys.ax x ab;obtain⟨e0,ol,ij,nq⟩:=oq.str;have gF:=Obj.get ol (i:=2) rfl;rw[cT]at gF;have dY:=k.inv.gI x ab;have CK:=dY.len;have Am:=bU.ext bC (by omega);simp only[b2,J2,Nat.zero_add,ak,sS,cT,gF];rw[i' Am (by simp[aH.vs])];simp only[ak];rw[show List.take 6 (List.drop 0 r.vs)=r.vs from rfl];refine bS (ahl ij dY (by omega) r) ?_;rintro w g3 ⟨bw,⟨hm,rfl⟩ |⟨hm,tH,rfl⟩ |⟨hm,tH,df,rfl,uq,xV⟩⟩
 ·have ej:=(aW.trans bC).trans bw;simp only[hg,ak,dh,c2,a1];rw[if_neg (by decide)];simp only[cO,bd,hf];exact aJ.pure ⟨bG.ext ej,.inl ⟨hm,rfl,k.ext ej⟩⟩
 ·have ej:=(aW.trans bC).trans bw;simp only[hg,ak,dh,c2,a1];rw[if_neg (by decide)];simp only[cO,bd,hf];exact aJ.pure ⟨bG.ext ej,.inr (.inl ⟨hm,tH,rfl,k.ext ej⟩)⟩
 ·have ej:=(aW.trans bC).trans bw;have bY:=k.ext ej;simp only[hg,ak,dh,c2,a1];rw[if_pos (by decide)];have hX:=bR.sys.core.lt x.s (by rw[oq.role.1];decide);have age:=ol.ext bw hX
  have e9:df.cells=[df]/\dT df=true:=by
   rcases uq with⟨rfl,_⟩ |⟨ea,cap,ex,rfl,_⟩
   ·exact⟨rfl,rfl⟩
   ·exact⟨rfl,rfl⟩
  have hA:∀i,ch df=some i->i<g3.next:=λi U=>by
   rcases uq with⟨rfl,_⟩ |⟨ea,cap,ex,rfl,_,av,_⟩
   ·cases U
   ·cases U;exact av
  refine fV (P:=λy vs g=>y=.normal/\vs=[]/\a6.Obj g x.s [.ptr X.M 0,.ptr x.t 0,df]/\aF (λj=>j=x.s) g3 g/\g.next=g3.next) ?_ ?_
  ·refine cb (Km (k:=2) (v:=df) age (by simp) e9.1 e9.2) λg4 ⟨c5,bA,gb⟩=> ?_
   exact aJ.pure ⟨rfl,rfl,c5,bA,gb⟩
  ·rintro _ _ g4 ⟨rfl,rfl,c5,bA,gb⟩;simp only[bd,hf];have xg:=Lm dY hm tH;have eT:∀i,ch df=some i->ρ i=0:=λi U=>k.fresh (by have:=xV i U;have:(g1.aV 11).next=g1.next+11:=rfl;omega)
   have ah2:=uq.aq bA (λea cap ex e cR=>by have:=eT ea (by rw[e];rfl);rw[cR]at this;have:=oq.role.1;omega)
   have c8:=bY.row au xg.1 (λp aD=>by
    have mw:=k.inv.lt ab aD;have hk:=(k.inv.mc x p ab aD).resolve_right (eU _ _);left;cases ah:bO x.L p with
    |none=>exact absurd ah hk
    |some r0=>
     have dO:spread x.L p=some (r0.ew p):=uk ah
     have aaQ:r.has p=false:=by
      cases aC:r.has p with
      |false=>rfl
      |true=>
       exfalso;have lV:r.lo<=p/\(p:Int) <r.U:=by simpa [aH.has]using aC
       obtain⟨y,an,zX⟩:=(afa dY (lB hm).2.1).2 ⟨p,lV.1,lV.2,by rw[dO];simp⟩;rw[tH y an]at zX;cases zX
     have aa:=xg.2.1 p;rw[aaQ,dO]at aa;simp only[Bool.false_eq_true,if_false]at aa;cases iz:bO ((fO r x.L).foldl c6 []) p with
     |none=>rw[p1.2 iz]at aa;cases aa
     |some b9=>
      rw[uk iz]at aa;refine⟨r0,b9,rfl,rfl,?_⟩
      exact DQ (Option.some.inj aa).symm (dY.may r0 (mL ah).1) (xg.1.may b9 (mL iz).1)) c5 ah2 (λi U=>⟨.inl (eT i U),by have:=hA i U;omega⟩) bA
   refine aJ.pure ⟨(bG.ext (ρ:=ρ) ej).trans (bG.of (ρ:=ρ) bA λi _ e=>by subst e;have:=oq.role.1;omega) (λ_ _=>rfl),.inr (.inr ⟨hm,tH,rfl,_,λi U=> ?_,c8⟩)⟩;show(if ch df=some i then 17 else ρ i)=ρ i;rw[if_neg];intro e;have:=xV i e;have:(g1.aV 11).next=g1.next+11:=rfl
   omega
end
end
section
variable{PV:cw} [db PV]
structure Lh(h g:ag)(D:im)(F:kH)(sec:Nat->Nat)(dH:Nat)(n m:Nat)(A:fB)(R:ri)(k mp M:Nat) :Prop where
 mJ:dw g A (λ_=>0) (λ_=>0) n
 BF:hc g R D (λ_=>0) 0
 w0:eX g D sec dH
 files:kg g F D
 map:k8 g mp []
 cache:a6.Obj g k [.ptr A.p 0,.ptr F.f 0,.map mp,.bh,.int .i64 0,.int .i64 0,.int .i64 0]
 mem:a6.Obj g M [.ptr A.p 0,.ptr F.f 0,.ptr k 0,.ptr R.a 0,.bh]
 lI:A.n=n
 Ff:R.first=F.used/\R.cG=m
 aq:aF (λj=>j=D.d) h g
 ids:h.next<=R.q/\R.q<R.a/\R.a<A.b/\A.b<A.q/\A.q<A.p/\A.p<mp/\mp<k/\k<M/\M<g.next
end
theorem IP{h:ag}{i:Nat}{l:List J}(o:a6.Obj h i l){s:Nat}{st:Bool}{N:Nat}(e:h.get i=.bytes s st N) :False:=by obtain⟨z,t,cR⟩:=o.live;rw[e]at cR;cases cR
open Classical in
def iZ(A:fB)(D:im)(R:ri)(F:kH)(k mp M:Nat)(i:Nat) :Nat:=
 if i=A.b then 1 else if i=A.q then 2 else if i=A.p then 3 else if i=D.d then 4 else if i=D.b then 5 else if i=R.a then 6 else if i=R.q then 7 else if i=k then 8 else if i=mp then 9 else if i=M then 13 else
 if i=0\/i=F.f\/ch F.l3=some i\/∃n,n∈F.cx/\ch n.cm=some i then 12 else 0
def Ix(n:Nat)(sec:Nat->Nat) :b0:={mem:=λ_=>0,held:=λ_=>0,free:=n,ax:=[],ring:=[],hand:=0,bQ:=λ_=>0,used:=0,sec:=sec}
theorem acf(n first m:Nat)(xa:Int->Int->Option Nat)(sec:Nat->Nat) :Inv ⟨n,first,m,xa,λ_ _=>False⟩ (Ix n sec) (λ_=>0) (λ_=>0)where
 jQ:=λx ab=>by cases ab
 tight:=λx ab=>by cases ab
 qe:=.nil
 node:=λx f ab=>by cases ab
 data:=λf aB al=>rfl
 free:=(W4 n).symm
 here:=λx p ab=>by cases ab
 out:=λx p ab=>by cases ab
 mc:=λx p ab=>by cases ab
 slot:=λi U=>rfl
 used:=by
  show 0=b' (λi=>(0:Nat) !=0) m;induction m with
  |zero=>rfl
  |succ m bI=>rw[b',<-bI];rfl
 write:=λx p ab=>by cases ab
 clean:=λx p r ab=>by cases ab
 ring:=λy an=>by cases an
 keys:=.nil
 gI:=λx ab=>by cases ab
theorem afu{h g:ag}{D:im}{F:kH}{sec:Nat->Nat}{dH n m:Nat}{A:fB}{R:ri}{k mp M:Nat}(N:Lh h g D F sec dH n m A R k mp M)(hw:jV h)(h0:D.d≠0/\D.b≠0)(ao:D.d<h.next/\D.b<h.next)(aB:F.f<h.next/\(∀b,ch F.l3=some b->b<h.next)/\∀x b,x∈F.cx->ch x.cm=some b->b<h.next)
  (xC:dH<=F.used) (aav:∀x,x∈F.cx->∀p s,p<(x.size+63) /64->loc x.ext p=some s->s<F.used) :
  ∃X ρ,X.M=M/\X.D=D/\X.F=F/\(∀i,ρ i≠0->i<=0\/i=D.d\/i=D.b\/i=F.f\/ch F.l3=some i\/(∃x,x∈F.cx/\ch x.cm=some i)\/h.next<=i/\i<=M)/\Good g X ⟨n,F.used,m,fileAt F.cx sec,λ_ _=>False⟩ ρ (Ix n sec) (λ_=>0) (λ_=>0):=by
 obtain⟨i1,i2,i3,i4,i5,i6,i7,i8,i9⟩:=N.ids;have cE:=N.w0.ne;obtain⟨st,alq,af,_⟩:=N.w0.bytes
 have X_:F.f≠D.b:=λe=>by obtain⟨amJ,o⟩:=N.files.str;rw[e]at o;exact IP o af
 have akx:∀b,ch F.l3=some b->b≠D.b:=λb hi e=>by
  rcases N.files.nodes.2 with⟨aw,_⟩ |⟨ea,_,_,_,aw,_,_,o,_⟩
  ·rw[aw]at hi;cases hi
  ·rw[aw]at hi;cases hi;rw[e]at o;exact IP o af
 have ak4:∀x b,x∈F.cx->ch x.cm=some b->b≠D.b:=λx b ab hi e=>by
  rcases(N.files.exts x ab).2 with⟨aw,_⟩ |⟨ea,_,_,_,aw,_,_,o,_⟩
  ·rw[aw]at hi;cases hi
  ·rw[aw]at hi;cases hi;rw[e]at o;exact IP o af
 have ap:=N.files.apart
 have Eg:∀i,i<h.next->i≠D.d->i≠D.b->(i=0\/i=F.f\/ch F.l3=some i\/∃n,n∈F.cx/\ch n.cm=some i)->iZ A D R F k mp M i=12:=λi U h1 aa av=>by unfold iZ;rw[if_neg (by omega),if_neg (by omega),if_neg (by omega),if_neg h1,if_neg aa,if_neg (by omega),if_neg (by omega),if_neg (by omega),if_neg (by omega),if_neg (by omega),if_pos av]
 have vt:=hw.lt
 have ahU:∀i,iZ A D R F k mp M i≠0->i<=0\/i=D.d\/i=D.b\/i=F.f\/ch F.l3=some i\/(∃x,x∈F.cx/\ch x.cm=some i)\/h.next<=i/\i<=M:=λi U=>by
  by_cases bK:h.next<=i
  ·by_cases hm:i<=M
   ·simp[bK,hm]
   ·refine absurd ?_ U;unfold iZ;rw[if_neg (by omega),if_neg (by omega),if_neg (by omega),if_neg (by omega),if_neg (by omega),if_neg (by omega),if_neg (by omega),if_neg (by omega),if_neg (by omega),if_neg (by omega),if_neg];rintro(e|e|e|⟨x,ab,e⟩)
    ·omega
    ·omega
    ·have:=aB.2.1 _ e;omega
    ·have:=aB.2.2 x _ ab e;omega
  ·unfold iZ at U;rw[if_neg (by omega),if_neg (by omega),if_neg (by omega)]at U;by_cases aQ:i=D.d
   ·simp[aQ]
   rw[if_neg aQ]at U;by_cases a2:i=D.b
   ·simp[a2]
   rw[if_neg a2,if_neg (by omega),if_neg (by omega),if_neg (by omega),if_neg (by omega),if_neg (by omega)]at U;by_cases a3:i=0\/i=F.f\/ch F.l3=some i\/∃n,n∈F.cx/\ch n.cm=some i
   ·rcases a3 with a3|a3|a3|a3
    ·simp[a3]
    ·simp[a3]
    ·simp[a3]
    ·exact .inr (.inr (.inr (.inr (.inr (.inl a3)))))
   ·rw[if_neg a3]at U;exact absurd rfl U
 have un:=N.aq.next;refine⟨⟨A,D,R,F,k,mp,M,dH,sec⟩,iZ A D R F k mp M,rfl,rfl,rfl,ahU,⟨⟨?_,⟨.bh,N.mem,gk.nil _ _,rfl,λb af=>by cases af⟩,?_,(λx ab=>by cases ab),.nil⟩,acf _ _ _ _ _,⟨N.lI,N.Ff.1,N.Ff.2,xC,aav,λf p=>rfl⟩,λs au=>rfl,.nil⟩⟩
 ·refine{ps:=⟨hw.aq N.aq (λe=>h0.1 e.symm),N.mJ,?_⟩,ji:=N.w0,gM:=N.BF,gm:=N.files,dd:=⟨⟨.bh,0,0,N.cache,gk.nil _ _,rfl,λb af=>by cases af⟩,N.map,(λy an=>by cases an),.nil,Nat.zero_le _,Nat.zero_le _⟩,eL:= ?_,fa:= ?_,fG:= ?_,fF:= ?_,r0:= ?_,d':= ?_,lt:= ?_ }
  ·show A.p≠0/\A.b≠0/\A.q≠0;omega
  ·show iZ A D R F k mp M A.b=1/\iZ A D R F k mp M A.q=2/\iZ A D R F k mp M A.p=3;unfold iZ;refine⟨if_pos rfl,?_,?_⟩
   ·rw[if_neg (by omega),if_pos rfl]
   ·rw[if_neg (by omega),if_neg (by omega),if_pos rfl]
  ·show iZ A D R F k mp M D.d=4/\iZ A D R F k mp M D.b=5;unfold iZ;constructor
   ·rw[if_neg (by omega),if_neg (by omega),if_neg (by omega),if_pos rfl]
   ·rw[if_neg (by omega),if_neg (by omega),if_neg (by omega),if_neg (λe=>cE e.symm),if_pos rfl]
  ·show iZ A D R F k mp M R.a=6/\iZ A D R F k mp M R.q=7;unfold iZ;constructor
   ·rw[if_neg (by omega),if_neg (by omega),if_neg (by omega),if_neg (by omega),if_neg (by omega),if_pos rfl]
   ·rw[if_neg (by omega),if_neg (by omega),if_neg (by omega),if_neg (by omega),if_neg (by omega),if_neg (by omega),if_pos rfl]
  ·show iZ A D R F k mp M k=8/\iZ A D R F k mp M mp=9;unfold iZ;constructor
   ·rw[if_neg (by omega),if_neg (by omega),if_neg (by omega),if_neg (by omega),if_neg (by omega),if_neg (by omega),if_neg (by omega),if_pos rfl]
   ·rw[if_neg (by omega),if_neg (by omega),if_neg (by omega),if_neg (by omega),if_neg (by omega),if_neg (by omega),if_neg (by omega),if_neg (by omega),if_pos rfl]
  ·exact Eg 0 vt (λe=>h0.1 e.symm) (λe=>h0.2 e.symm) (.inl rfl)
  ·exact⟨Eg _ aB.1 ap.2.2 X_ (.inr (.inl rfl)),λb af=>Eg b (aB.2.1 b af) (ap.1 b af) (akx b af) (.inr (.inr (.inl af))),λx b ab af=>Eg b (aB.2.2 x b ab af) (ap.2.1 x b ab af) (ak4 x b ab af) (.inr (.inr (.inr ⟨x,ab,af⟩)))⟩
  ·intro i U;by_cases bK:h.next<=i
   ·have eo:iZ A D R F k mp M i≠0:=U;rcases Nat.lt_or_ge i g.next with aE|aE
    ·exact aE
    ·exfalso;apply eo;unfold iZ;rw[if_neg (by omega),if_neg (by omega),if_neg (by omega),if_neg (by omega),if_neg (by omega),if_neg (by omega),if_neg (by omega),if_neg (by omega),if_neg (by omega),if_neg (by omega),if_neg];rintro(e|e|e|⟨x,ab,e⟩)
     ·omega
     ·omega
     ·have:=aB.2.1 i e;omega
     ·have:=aB.2.2 x i ab e;omega
   ·omega
 ·show iZ A D R F k mp M M=13;unfold iZ;rw[if_neg (by omega),if_neg (by omega),if_neg (by omega),if_neg (by omega),if_neg (by omega),if_neg (by omega),if_neg (by omega),if_neg (by omega),if_neg (by omega),if_pos rfl]
theorem Qc{o:bp} :∀{k off:Nat} {l:List J},o.read off k=some l->l.length=k/\∀i,i<k->o.cell (off+i)=l[i]?
 |0,off,l,e=>by simp only[bp.read,Option.some.injEq]at e;subst e;exact⟨rfl,λi U=>absurd U (Nat.not_lt_zero _)⟩
 |k+1,off,l,e=>by
  simp only[bp.read]at e;split at e
  ·rename_i v bz ae ar;simp only[Option.some.injEq]at e;subst e;have bI:=Qc ar;refine⟨by rw[List.length_cons,bI.1],λi U=> ?_⟩;cases i with
   |zero=>exact ae
   |succ i=>
    have:=bI.2 i (by omega);rw[show off+(i+1)=off+1+i by omega];simpa using this
  ·cases e
def o5(h:ag)(id:Nat) :Option (List J):=match h.get id with
 | .cells n false z t=>(bp.cells n false z t).read 0 n
 |_=>none
theorem sw{h:ag}{id:Nat}{l:List J}(e:o5 h id=some l) :a6.Obj h id l:=by
 unfold o5 at e;split at e
 ·rename_i n z t aE;have h1:=Qc e;refine⟨⟨z,t,by rw[aE,h1.1]⟩,λi=> ?_⟩;unfold bE;rw[aE];by_cases U:i<n
  ·have:=h1.2 i U;rwa[Nat.zero_add]at this
  ·show(bif Nat.blt i n then _ else none)=_;rw[show Nat.blt i n=false by rw[<-Bool.not_eq_true,c4];exact U,List.getElem?_eq_none (l:=l) (i:=i) (by omega)];rfl
 ·cases e
def BO(h:ag)(id:Nat) :Option (Nat×Nat):=match h.get id with
 | .bytes n _ N=>some (n,N)
 |_=>none
theorem LM{h:ag}{id n N:Nat}(e:BO h id=some (n,N)) :∃st,h.get id=.bytes n st N:=by
 unfold BO at e;split at e
 ·rename_i ga st alp aE;simp only[Option.some.injEq,Prod.mk.injEq]at e;obtain⟨rfl,rfl⟩:=e;exact⟨st,aE⟩
 ·cases e
def sa(v:J)(n:Int) :Bool:=match v with
 | .int .i64 m=>decide (m=n)
 |_=>false
theorem vz{v:J}{n:Int}(h:sa v n=true) :v=.int .i64 n:=by
 unfold sa at h;split at h
 ·rw[of_decide_eq_true h]
 ·cases h
def u2(v:J) :Option Int:=match v with
 | .int .i64 m=>some m
 |_=>none
theorem zd{v:J}{n:Int}(h:u2 v=some n) :v=.int .i64 n:=by
 unfold u2 at h;split at h
 ·rw[Option.some.inj h]
 ·cases h
def u3(v:J)(sz:Nat) :Option (Nat×Nat×Nat×Bool):=match v with
 | .slice b off len cap s ex=>if off=0/\s=sz then some (b,len,cap,ex)else none
 |_=>none
theorem zf{v:J}{sz b len cap:Nat}{ex:Bool}(h:u3 v sz=some (b,len,cap,ex)) :v=.slice b 0 len cap sz ex:=by
 unfold u3 at h;split at h
 ·split at h
  ·rename_i aA;simp only[Option.some.injEq,Prod.mk.injEq]at h;obtain⟨rfl,rfl,rfl,rfl⟩:=h;rw[aA.1,aA.2]
  ·cases h
 ·cases h
def oL(v:J) :Option Nat:=match v with
 | .ptr b off=>if off=0 then some b else none
 |_=>none
theorem rP{v:J}{b:Nat}(h:oL v=some b) :v=.ptr b 0:=by
 unfold oL at h;split at h
 ·split at h
  ·rename_i aA;rw[<-Option.some.inj h,aA]
  ·cases h
 ·cases h
structure yJ where
 D:im
 dH:Nat
 N:Nat
def yJ.sec(l:yJ) :Nat->Nat:=λi=>bT l.N (64*i) 64
def F1(h:ag)(d:Nat) :Option yJ:=
 (o5 h d).bind λl=>match l with
 |[v0,v1,v2,v3]=>(u3 v0 1).bind λs=>(u2 v1).bind λse=>(u2 v2).bind λ_=>(u2 v3).bind λ_=>(BO h s.1).bind λkN=>
  if 1<=kN.1/64/\kN.1/64<=16384/\kN.1=64*(kN.1/64)/\s.2.1=kN.1/\s.2.2.1=kN.1/\0<=se/\se<=16384/\d<h.next/\s.1<h.next/\d≠s.1 then some ⟨⟨d,s.1,kN.1/64⟩,se.toNat,kN.2⟩else none
 |_=>none
theorem Xx{h:ag}{d:Nat}{l:yJ}(e:F1 h d=some l) :eX h l.D l.sec l.dH/\l.D.d=d:=by
 unfold F1 at e;obtain⟨cs,h1,e⟩:=Option.bind_eq_some_iff.1 e;split at e
 ·rename_i v0 v1 v2 v3;obtain⟨⟨b,len,cap,ex⟩,aa,e⟩:=Option.bind_eq_some_iff.1 e;obtain⟨se,av,e⟩:=Option.bind_eq_some_iff.1 e;obtain⟨cK,aO,e⟩:=Option.bind_eq_some_iff.1 e;obtain⟨dG,bb,e⟩:=Option.bind_eq_some_iff.1 e;obtain⟨⟨kN,N⟩,cp,e⟩:=Option.bind_eq_some_iff.1 e;have o:=sw h1;rw[zf aa,zd av,zd aO,zd bb]at o;obtain⟨st,af⟩:=LM cp;dsimp only at e;split at e
  ·rename_i aA;obtain⟨bc,bW,dA,e5,kk,jZ,mZ,rC,kl,FF⟩:=aA;simp only[Option.some.injEq]at e;subst e;refine⟨⟨⟨bc,bW⟩,by show se.toNat<=16384;omega,⟨rC,kl⟩,FF,⟨ex,cK,dG,?_⟩,⟨st,N,?_,λi _=>rfl⟩⟩,rfl⟩
   ·show a6.Obj h d [.slice b 0 (64*(kN/64)) (64*(kN/64)) 1 ex,.int .i64 ((se.toNat:Nat) :Int),_,_];rw[<-dA,Int.toNat_of_nonneg jZ];have e5:len=kN:=e5;have kk:cap=kN:=kk;rw[e5,kk]at o;exact o
   ·show h.get b=.bytes (64*(kN/64)) st N;rw[<-dA];exact af
  ·cases e
 ·cases e
def chunks(sz:Nat) :Nat->List J->List (List J)
 |0,_=>[]
 |k+1,l=>l.take sz::chunks sz k (l.drop sz)
theorem L1{sz:Nat} :∀{k:Nat} {l:List J},k*sz<=l.length->(chunks sz k l).length=k/\(∀r,r∈chunks sz k l->r.length=sz)/\(chunks sz k l).flatten=l.take (k*sz)
 |0,l,_=>⟨rfl,λr h=>(by cases h),by simp[chunks]⟩
 |k+1,l,h=>by
  rw[Nat.succ_mul]at h;have bI:=L1 (sz:=sz) (k:=k) (l:=l.drop sz) (by rw[List.length_drop];omega);refine⟨by simp[chunks,bI.1],λr ah=> ?_,?_⟩
  ·rcases List.mem_cons.1 ah with rfl|ah
   ·rw[List.length_take];omega
   ·exact bI.2.1 r ah
  ·show l.take sz++(chunks sz k (l.drop sz)).flatten=_;rw[bI.2.2,Nat.succ_mul,Nat.add_comm,List.take_add]
def EU(h:ag)(sz:Nat)(v:J) :Option (List (List J)):=match v with
 | .bh=>some []
 |v=>(u3 v sz).bind λs=>(o5 h s.1).bind λl=>if s.1<h.next/\s.2.1<=s.2.2.1/\l.length=s.2.2.1*sz then some (chunks sz s.2.1 l)else none
theorem UL{h:ag}{sz:Nat}{v:J}{rows:List (List J)}(e:EU h sz v=some rows) :gk h sz v rows:=by
 unfold EU at e;split at e
 ·simp only[Option.some.injEq]at e;subst e;exact gk.nil h sz
 ·obtain⟨⟨b,len,cap,ex⟩,aa,e⟩:=Option.bind_eq_some_iff.1 e;obtain⟨l,av,e⟩:=Option.bind_eq_some_iff.1 e;dsimp only at e av;split at e
  ·rename_i aA;obtain⟨bc,bW,dA⟩:=aA;simp only[Option.some.injEq]at e;subst e;have hle:len*sz<=l.length:=by rw[dA];exact Nat.mul_le_mul_right _ bW
   obtain⟨a',bR,bY⟩:=L1 hle;have o:=sw av;refine⟨bR,.inr ⟨b,cap,ex,l.drop (len*sz),?_,bc,by rw[a'];exact bW,?_,?_⟩⟩
   ·rw[a'];exact zf aa
   ·rw[bY,List.take_append_drop];exact o
   ·rw[a',List.length_drop,dA,Nat.sub_mul]
  ·cases e
def y':List (List J)->Option (List (Nat×Nat))
 |[]=>some []
 |[.int .i64 a,.int .i64 b]::r=>if 0<=a/\0<=b then(y' r).bind λl=>some ((a.toNat,b.toNat)::l)else none
 |_=>none
theorem MF:∀{rows:List (List J)} {l:List (Nat×Nat)},y' rows=some l->rows=l.map uY
 |[],l,e=>by simp only[y',Option.some.injEq]at e;subst e;rfl
 |r::rows,l,e=>by
  unfold y' at e;split at e
  ·rename_i h;cases h
  ·rename_i a b b9 heq;injection heq with ah zR;subst ah zR;split at e
   ·rename_i aA;obtain⟨bz,h1,e⟩:=Option.bind_eq_some_iff.1 e;simp only[Option.some.injEq]at e;subst e;rw[List.map_cons,<-MF h1];show _=[J.int .i64 ((a.toNat:Nat) :Int),.int .i64 ((b.toNat:Nat) :Int)]::_;rw[Int.toNat_of_nonneg aA.1,Int.toNat_of_nonneg aA.2]
   ·cases e
  ·cases e
def z1(h:ag) :List (List J)->Option (List ir)
 |[]=>some []
 |[.str nl sq,.int .i64 s,cm]::r=>if 0<=s then(EU h 2 cm).bind λrows=>(y' rows).bind λext=>(z1 h r).bind λl=>some (⟨nl,sq,s.toNat,cm,ext⟩::l)else none
 |_=>none
theorem On{h:ag} :∀{rows:List (List J)} {l:List ir},z1 h rows=some l->rows=l.map ir.vs/\∀n,n∈l->gk h 2 n.cm (n.ext.map uY)
 |[],l,e=>by simp only[z1,Option.some.injEq]at e;subst e;exact⟨rfl,λn al=>by cases al⟩
 |r::rows,l,e=>by
  unfold z1 at e;split at e
  ·rename_i h;cases h
  ·rename_i nl sq s cm b9 heq;injection heq with ah zR;subst ah zR;split at e
   ·rename_i aA;obtain⟨rws,h1,e⟩:=Option.bind_eq_some_iff.1 e;obtain⟨ext,aa,e⟩:=Option.bind_eq_some_iff.1 e;obtain⟨bz,av,e⟩:=Option.bind_eq_some_iff.1 e;simp only[Option.some.injEq]at e;subst e;have bI:=On av;refine⟨?_,λn al=> ?_⟩
    ·rw[List.map_cons,<-bI.1];show _=[J.str nl sq,.int .i64 ((s.toNat:Nat) :Int),cm]::_;rw[Int.toNat_of_nonneg aA]
    ·rcases List.mem_cons.1 al with rfl|al
     ·have:=UL h1;rw[MF aa]at this;exact this
     ·exact bI.2 n al
   ·cases e
  ·cases e
def HF(n used:Nat)(x:ir) :Bool:=
 dT x.cm&&decide (x.size<=1048576) &&decide (x.ext.length<=16000) &&x.ext.all (λy=>decide (y.1<=1048576) &&decide (y.2<=1048576)) &&
  (List.range ((x.size+63) /64)).all λp=>match loc x.ext p with
    |some s=>decide (s<n) &&decide (s<used)
    |none=>false
def rA(v:J) :Nat:=match v with
 | .slice b _ _ _ _ _=>b
 |_=>0
def Gk(h:ag)(D:im)(top:Nat)(f:Nat) :Option kH:=
 (o5 h f).bind λl=>match l with
 |[v0,v1,v2,v3]=>(oL v0).bind λd=>(u2 v1).bind λused=>(EU h 3 v2).bind λrows=>(z1 h rows).bind λcx=>
  if d=D.d/\0<=used/\f<h.next/\f<top/\cx.length<=65536/\f≠D.d/\rA v2≠D.d/\rA v2<top/\0<D.d/\0<top/\(cx.all λn=>HF D.n used.toNat n&&decide (rA n.cm≠D.d) &&decide (rA n.cm<top))=true then some ⟨f,v2,used.toNat,cx⟩else none
 |_=>none
theorem wV{v:J}{b:Nat}(h:ch v=some b) :rA v=b:=by cases v<;>first|(cases h;done) |exact Option.some.inj h
structure Vc(h:ag)(F:kH)(D:im)(top:Nat) :Prop where
 is:kg h F D
 below:F.f<top/\(∀b,ch F.l3=some b->b<top)/\∀x b,x∈F.cx->ch x.cm=some b->b<top
 loc:∀x,x∈F.cx->∀p s,p<(x.size+63) /64->loc x.ext p=some s->s<F.used
theorem Yj{h:ag}{D:im}{top f:Nat}{F:kH}(e:Gk h D top f=some F) :Vc h F D top/\F.f=f:=by
 unfold Gk at e;obtain⟨cs,h1,e⟩:=Option.bind_eq_some_iff.1 e;split at e
 ·rename_i v0 v1 v2 v3;obtain⟨d,aa,e⟩:=Option.bind_eq_some_iff.1 e;obtain⟨used,av,e⟩:=Option.bind_eq_some_iff.1 e;obtain⟨rows,aO,e⟩:=Option.bind_eq_some_iff.1 e;obtain⟨cx,bb,e⟩:=Option.bind_eq_some_iff.1 e;split at e
  ·rename_i aA;obtain⟨bc,bW,dA,e5,kk,jZ,mZ,rC,kl,FF,BQ⟩:=aA;simp only[Option.some.injEq]at e;subst e;have o:=sw h1;rw[rP aa,zd av,bc]at o;have ae:=UL aO;have U:=On bb;rw[U.1]at ae
   have gn:∀n,n∈cx->HF D.n used.toNat n=true/\rA n.cm≠D.d/\rA n.cm<top:=λn al=>by have:=List.all_eq_true.1 BQ n al;simp only[Bool.and_eq_true,decide_eq_true_eq]at this;exact⟨this.1.1,this.1.2,this.2⟩
   have G7:∀n,n∈cx->dT n.cm=true/\n.size<=1048576/\n.ext.length<=16000/\(∀x,x∈n.ext->x.1<=1048576/\x.2<=1048576)/\∀p,p<(n.size+63) /64->∃s,Go.Proofs.YtkdjcmpgnkecfaaGreatDoor.loc n.ext p=some s/\s<D.n/\s<used.toNat:=λn al=>by
    have:=(gn n al).1;unfold HF at this;simp only[Bool.and_eq_true,decide_eq_true_eq,List.all_eq_true]at this;obtain⟨⟨⟨⟨aQ,a2⟩,a3⟩,a4⟩,a5⟩:=this;refine⟨aQ,a2,a3,a4,λp aD=> ?_⟩;have:=a5 p (List.mem_range.2 aD);split at this
    ·rename_i s au;simp only[Bool.and_eq_true,decide_eq_true_eq]at this;exact⟨s,au,this⟩
    ·cases this
   refine⟨⟨⟨dA,⟨v3,?_⟩,ae,kk,U.2,λn al=>(G7 n al).1,λn al=> ?_,⟨λb af=> ?_,λn b al af=> ?_,jZ⟩⟩,⟨e5,λb af=> ?_,λx b ab af=> ?_⟩,λx ab p s aD au=> ?_⟩,rfl⟩
   ·show a6.Obj h f [.ptr D.d 0,.int .i64 ((used.toNat:Nat) :Int),v2,v3];rw[Int.toNat_of_nonneg bW];exact o
   ·obtain⟨_,a2,a3,a4,a5⟩:=G7 n al;exact⟨a2,a3,a4,λp aD=>by obtain⟨s,fj,eS,_⟩:=a5 p aD;exact⟨s,fj,eS⟩⟩
   ·rw[<-wV af];exact mZ
   ·rw[<-wV af];exact(gn n al).2.1
   ·rw[<-wV af];exact rC
   ·rw[<-wV af];exact(gn x ab).2.2
   ·obtain⟨aS,fj,_,fY⟩:=(G7 x ab).2.2.2.2 p aD;rw[fj]at au;rw[<-Option.some.inj au];exact fY
  ·cases e
 ·cases e
def E6(l:List J)(n:Nat) :Bool:=Nat.beq l.length n&&l.all λv=>sa v 0
theorem U3{l:List J}{n:Nat}(h:E6 l n=true) :l=(List.range n).map λ_=>J.int .i64 ((0:Nat) :Int):=by
 unfold E6 at h;rw[Bool.and_eq_true,Go.a6.beq_true]at h;obtain⟨rfl,aa⟩:=h;refine List.ext_getElem? λi=> ?_
 by_cases U:i<l.length
 ·rw[List.getElem?_map,List.getElem?_range U,List.getElem?_eq_getElem U];rw[vz (List.all_eq_true.1 aa _ (List.getElem_mem U))];rfl
 ·rw[List.getElem?_eq_none (by omega),List.getElem?_eq_none (by simpa using U)]
def Jf(h:ag)(p:Nat) :Option fB:=
 (o5 h p).bind λl=>match l with
 |[v0,v1,v2]=>(u3 v0 1).bind λs=>(u3 v1 1).bind λq=>(BO h s.1).bind λkN=>(o5 h q.1).bind λAz=>
  if q.2.1<=4096/\q.2.2.1=q.2.1/\s.2.1=64*q.2.1/\s.2.2.1=64*q.2.1/\kN.1=64*q.2.1/\kN.2=0/\sa v2 q.2.1=true/\p<h.next/\s.1<h.next/\q.1<h.next/\p≠s.1/\p≠q.1/\s.1≠q.1/\E6 Az q.2.1=true then some ⟨p,s.1,q.1,q.2.1⟩else none
 |_=>none
theorem agX{h:ag}{p:Nat}{A:fB}(e:Jf h p=some A) :dw h A (λ_=>0) (λ_=>0) A.n/\A.p=p:=by
 unfold Jf at e;obtain⟨cs,h1,e⟩:=Option.bind_eq_some_iff.1 e;split at e
 ·rename_i v0 v1 v2;obtain⟨⟨b,e_,bc,bB⟩,aa,e⟩:=Option.bind_eq_some_iff.1 e;obtain⟨⟨q,gF,bW,kG⟩,av,e⟩:=Option.bind_eq_some_iff.1 e;obtain⟨⟨kN,N⟩,aO,e⟩:=Option.bind_eq_some_iff.1 e;obtain⟨Az,bb,e⟩:=Option.bind_eq_some_iff.1 e;dsimp only at e aO bb;split at e
  ·rename_i aA;obtain⟨d1,d2,d3,d4,d5,d6,d7,d8,d9,d10,d11,d12,d13,d14⟩:=aA;simp only[Option.some.injEq]at e;subst e;have o:=sw h1;rw[zf aa,zf av,vz d7,d2,d3,d4]at o;obtain⟨st,af⟩:=LM aO;rw[d5,d6]at af;have Ap:=sw bb;rw[U3 d14]at Ap;exact⟨⟨d1,⟨d8,d9,d10⟩,⟨d11,d12,d13⟩,⟨bB,kG,o⟩,⟨st,0,af,λf _=>by simp[bT]⟩,Ap⟩,rfl⟩
  ·cases e
 ·cases e
def Fs(h:ag)(D:im)(a:Nat) :Option ri:=
 (o5 h a).bind λl=>match l with
 |[v0,v1,v2,v3]=>(oL v0).bind λd=>(u2 v1).bind λfirst=>(u3 v2 1).bind λq=>(o5 h q.1).bind λAz=>
  if d=D.d/\0<=first/\sa v3 0=true/\q.2.1<=4096/\q.2.2.1=q.2.1/\first.toNat+q.2.1<=D.n/\a<h.next/\q.1<h.next/\a≠q.1/\a≠D.d/\a≠D.b/\q.1≠D.d/\q.1≠D.b/\E6 Az q.2.1=true then some ⟨a,q.1,first.toNat,q.2.1⟩else none
 |_=>none
theorem VF{h:ag}{D:im}{a:Nat}{R:ri}(e:Fs h D a=some R) :hc h R D (λ_=>0) 0/\R.a=a:=by
 unfold Fs at e;obtain⟨cs,h1,e⟩:=Option.bind_eq_some_iff.1 e;split at e
 ·rename_i v0 v1 v2 v3;obtain⟨d,aa,e⟩:=Option.bind_eq_some_iff.1 e;obtain⟨first,av,e⟩:=Option.bind_eq_some_iff.1 e;obtain⟨⟨q,gF,bW,kG⟩,aO,e⟩:=Option.bind_eq_some_iff.1 e;obtain⟨Az,bb,e⟩:=Option.bind_eq_some_iff.1 e;dsimp only at e bb;split at e
  ·rename_i aA;obtain⟨d1,d2,d3,d4,d5,d6,d7,d8,d9,d10,d11,d12,d13,d14⟩:=aA;simp only[Option.some.injEq]at e;subst e;have o:=sw h1;rw[rP aa,zd av,zf aO,vz d3,d1,d5]at o;have Ap:=sw bb;rw[U3 d14]at Ap;refine⟨⟨d4,d6,⟨d7,d8⟩,⟨d9,d10,d11,d12,d13⟩,⟨kG,?_⟩,Ap⟩,rfl⟩;show a6.Obj h a [.ptr D.d 0,.int .i64 ((first.toNat:Nat) :Int),_,_];rw[Int.toNat_of_nonneg d2];exact o
  ·cases e
 ·cases e
def Il(h:ag)(mp:Nat) :Bool:=match h.get mp with
 | .map [] _=>true
 |_=>false
theorem ae4{h:ag}{mp:Nat}(e:Il h mp=true) :k8 h mp []:=by
 unfold Il at e;split at e
 ·rename_i clock hm;exact⟨[],clock,hm,rfl⟩
 ·cases e
def FM(h:ag)(k p f:Nat) :Option Nat:=(o5 h k).bind λl=>match l with
 |[EY,bV,.map mp,.bh,iJ,fI,hr]=>if oL EY=some p/\oL bV=some f/\sa iJ 0=true/\sa fI 0=true/\sa hr 0=true/\Il h mp=true then some mp else none
 |_=>none
theorem WM{h:ag}{k p f mp:Nat}(e:FM h k p f=some mp) :a6.Obj h k [.ptr p 0,.ptr f 0,.map mp,.bh,.int .i64 0,.int .i64 0,.int .i64 0]/\k8 h mp []:=by
 unfold FM at e;obtain⟨cs,h1,e⟩:=Option.bind_eq_some_iff.1 e;split at e
 ·split at e
  ·rename_i aA;obtain⟨bc,bW,dA,e5,kk,jZ⟩:=aA;simp only[Option.some.injEq]at e;subst e;have o:=sw h1;rw[rP bc,rP bW,vz dA,vz e5,vz kk]at o;exact⟨o,ae4 jZ⟩
  ·cases e
 ·cases e
structure Bu where
 M:Nat
 k:Nat
 mp:Nat
 A:fB
 R:ri
 dl:yJ
 F:kH
def Xy(h:ag)(a:Nat) :Option Nat:=(o5 h a).bind λl=>match l with
 |v::_=>oL v
 |_=>none
def Is(h:ag)(M:Nat) :Option Bu:=
 (o5 h M).bind λl=>match l with
 |[v0,v1,v2,v3,.bh]=>(oL v0).bind λp=>(oL v1).bind λf=>(oL v2).bind λk=>(oL v3).bind λa=>(Xy h a).bind λd=>
  (Jf h p).bind λA=>(F1 h d).bind λdl=>(Fs h dl.D a).bind λR=>(Gk h dl.D R.q f).bind λF=>(FM h k p f).bind λmp=>
    if R.first=F.used/\dl.dH=F.used/\dl.D.d<R.q/\dl.D.b<R.q/\0<dl.D.d/\0<dl.D.b/\R.q<R.a/\R.a<A.b/\A.b<A.q/\A.q<A.p/\A.p<mp/\mp<k/\k<M/\M<h.next then some ⟨M,k,mp,A,R,dl,F⟩else none
 |_=>none
def D0(l:Bu)(i:Nat) :Bool:=Nat.beq i 0||(Nat.beq i l.dl.D.d||(Nat.beq i l.dl.D.b||(Nat.beq i l.F.f||(Nat.beq (rA l.F.l3) i||((l.F.cx.any λx=>Nat.beq (rA x.cm) i) ||(Nat.ble l.R.q i&&Nat.ble i l.M))))))
theorem afb{h:ag}{M:Nat}{l:Bu}(e:Is h M=some l)(hw:jV h) :
  ∃X ρ,X.M=M/\X.D=l.dl.D/\X.F=l.F/\(∀i,ρ i≠0->i<h.next)/\(∀i,ρ i≠0->D0 l i=true)/\Good h X ⟨l.A.n,l.F.used,l.R.cG,fileAt l.F.cx l.dl.sec,λ_ _=>False⟩ ρ (Ix l.A.n l.dl.sec) (λ_=>0) (λ_=>0):=by
 unfold Is at e;obtain⟨cs,h1,e⟩:=Option.bind_eq_some_iff.1 e;split at e
 ·rename_i v0 v1 v2 v3;obtain⟨p,aa,e⟩:=Option.bind_eq_some_iff.1 e;obtain⟨f,av,e⟩:=Option.bind_eq_some_iff.1 e;obtain⟨k,aO,e⟩:=Option.bind_eq_some_iff.1 e;obtain⟨a,bb,e⟩:=Option.bind_eq_some_iff.1 e;obtain⟨d,gC,e⟩:=Option.bind_eq_some_iff.1 e;obtain⟨A,dR,e⟩:=Option.bind_eq_some_iff.1 e;obtain⟨dl,kr,e⟩:=Option.bind_eq_some_iff.1 e;obtain⟨R,lp,e⟩:=Option.bind_eq_some_iff.1 e;obtain⟨F,Cn,e⟩:=Option.bind_eq_some_iff.1 e;obtain⟨mp,u6,e⟩:=Option.bind_eq_some_iff.1 e;split at e
  ·rename_i aA;obtain⟨jZ,mZ,rC,kl,FF,BQ,Ww,Wx,FG,Wy,Wz,WA,WB,WC⟩:=aA;simp only[Option.some.injEq]at e;subst e;obtain⟨ip,Mv⟩:=agX dR;obtain⟨id,pA⟩:=Xx kr;obtain⟨ab4,lj⟩:=VF lp;obtain⟨e7,oI⟩:=Yj Cn;obtain⟨ok,CN⟩:=WM u6;have og:=sw h1;rw[rP aa,rP av,rP aO,rP bb]at og;let h0:ag:=⟨R.q,h.c7⟩;have A':aF (λj=>j=dl.D.d) h0 h:=⟨by show R.q<=h.next;omega,λi _ _=>rfl⟩
   have N:Lh h0 h dl.D F dl.sec (max F.used F.used) A.n R.cG A R k mp M:=
    {mJ:=ip,BF:=ab4,w0:=by rw[Nat.max_self,<-mZ];exact id,files:=e7.is,map:=CN
     cache:=by rw[Mv,oI];exact ok
     mem:=by rw[Mv,oI,lj];exact og
     lI:=rfl,Ff:=⟨jZ,rfl⟩,aq:=A'
     ids:=⟨Nat.le_refl _,Ww,Wx,FG,Wy,Wz,WA,WB,WC⟩}
   have vt:jV h0:=⟨λk aj=>hw.rd k aj,by show 0<R.q;omega⟩;obtain⟨X,ρ,bB,kG,Bp,p4,yI⟩:=afu N vt ⟨by omega,by omega⟩ ⟨rC,kl⟩ e7.below (Nat.le_of_eq (Nat.max_self _)) e7.loc;refine⟨X,ρ,bB,kG,Bp,λi U=>yI.sys.core.lt i U,λi U=> ?_,yI⟩;unfold D0;simp only[Bool.or_eq_true,Bool.and_eq_true,Nat.beq_eq,dr,List.any_eq_true];rcases p4 i U with h|h|h|h|h|⟨x,ab,h⟩ |h
   ·exact .inl (by omega)
   ·exact .inr (.inl h)
   ·exact .inr (.inr (.inl h))
   ·exact .inr (.inr (.inr (.inl h)))
   ·exact .inr (.inr (.inr (.inr (.inl (wV h)))))
   ·exact .inr (.inr (.inr (.inr (.inr (.inl ⟨x,ab,wV h⟩)))))
   ·exact .inr (.inr (.inr (.inr (.inr (.inr h)))))
  ·cases e
 ·cases e
section
variable{PV:cw} [db PV]
theorem Wm(a b:Int) :gY ai 179 1 [(0,gr a b)]=some (λid=>J.slice id 0 1 1 2 true,.cells ([J.int .i64 a,.int .i64 b] :List J).length false [] (bj.ofList [J.int .i64 a,.int .i64 b])):=by kernel_rfl
def sc(y:cH) :List J:=[.int .i64 y.file,.int .i64 y.bq]
theorem acF{h:ag}{X:dQ}{ρ:Nat->Nat}{σ:b0}(k:Core h X ρ σ) :
  bN (call ai PV (.func 96 [] []) [.ptr X.k 0] h) λv g=>Row g 2 h.next v (σ.ring.map sc)/\aX h g:=by
 refine cF aeH rfl ?_;obtain⟨rv,hits,fills,os,hL,ex,dL⟩:=k.dd.str;have ar:=hL.len (T:=293) (si:=wo) (by kernel_rfl) rfl;rw[List.length_map,List.length_map]at ar;have tG:=k.dd.oK;simp only[A5,ak,a1,Bool.false_eq_true,if_false,b2,wa,Nat.zero_add,wb,Obj.get os (i:=3) rfl,ar]
 refine gW (n:=14) (I:=λi vs g=>∃v,vs=[v,.int .i64 (i:Nat)]/\Row g 2 h.next v ((σ.ring.take i).map sc)/\aX h g/\i<=σ.ring.length) (m:=σ.ring.length)
  (P:=λx vs g=>x=.exit 0/\∃v c,vs=[v,c]/\Row g 2 h.next v (σ.ring.map sc)/\aX h g) (Nat.lt_of_le_of_lt tG (by decide)) ⟨_,rfl,Row.nil _ _ _,aF.refl _ _,Nat.zero_le _⟩ ?_ ?_
 ·rintro i _ h1 U ⟨v,rfl,ah,aW,hle⟩;simp only[bn,bd,cQ,ak,a1];by_cases c:(i:Int) <(σ.ring.length:Nat)
  ·rw[if_pos (by simpa using c)];have qE:i<σ.ring.length:=by omega
   have ab:σ.ring[i]? =some σ.ring[i]:=List.getElem?_eq_getElem qE;have pN:σ.ring.take (i+1)=σ.ring.take i++[σ.ring[i]]:=by rw[List.take_add_one,ab];rfl
   generalize σ.ring[i]=y at ab pN;have an:y∈σ.ring:=List.mem_of_getElem? ab;have a':=k.ext aW;have jE:((σ.ring.map (λy=>J.ptr y.id 0)).map one)[i]? =some [J.ptr y.id 0]:=by simp[ab,one]
   obtain⟨b,cap,Ca,l,ae,af,ol,m7,_,_,h_⟩:=(hL.ext aW).at jE;rw[List.length_map,List.length_map]at ae m7;have hk:=h_ 0 (by decide);rw[Nat.mul_one,Nat.add_zero]at hk;have mz:eV ai 293 rv (.int .i64 (i:Nat))=some (.ptr b (0+i)):=by rw[ae];exact Kb m7
   rw[mz];simp only[ak,Nat.zero_add,Kd,hk,List.getElem?_cons_zero,b2,J7];rw[nu (a'.dd.cy y an).1 (by simp[cH.vs])];simp only[ak,cH.vs,List.drop_zero,List.take_succ_cons,List.take_zero];rw[show(J.agg [.int .i64 y.file,.int .i64 y.bq])=gr y.file y.bq from rfl];refine b1 (Wm _ _) λg2 cc dS a_=> ?_
   have mr:=aW.next
   obtain⟨w,g3,bo,dG,bw,eH⟩:=Row.push (E:=ai) (T:=179) (si:=EK) (ie:=yw) (by kernel_rfl) rfl (by kernel_rfl) rfl (by decide) (ah.ext a_) (xcap:=1) (xex:=true) cc rfl rfl (by
    rw[List.length_map,List.length_take];show roomy _ 16=true;unfold roomy;rw[Bool.and_eq_true,dr,dr]
    omega) (by omega)
   rw[show yw.size=2 from rfl]at bo dG;rw[bo];have eh:bF .i64 ((i:Int) +1)=((i+1:Nat) :Int):=by rw[wrap_i64 (by omega) (by omega)];omega
   simp only[c1,cP,eh,ak];refine aJ.pure (.inl ⟨rfl,qE,w,rfl,?_,(aW.trans a_).local bw (λj az e=>absurd e (by omega)),qE⟩);rw[pN,List.map_append];exact dG
  ·rw[if_neg (by simpa using c)];refine aJ.pure (.inr ⟨by simp,rfl,v,_,rfl,?_,aW⟩);rw[List.take_of_length_le (by omega)]at ah;exact ah
 ·rintro x vs g ⟨rfl,v,c,rfl,ah,u⟩;simp only[bn,bd,fZ,if_true];exact aJ.pure ⟨ah,u⟩
end
section
variable{PV:cw} [db PV]
section
variable{h g:ag}{X:dQ}{c:cN}{ρ a8:Nat->Nat}{σ aG:b0}{d e:Nat->Int}
theorem XE(k:Good h X c ρ σ (λ_=>0) (λ_=>0)){a b:List bD}{x:bD}(au:σ.ax=a++x::b){p:Nat}(h9:x.T.ent p≠.zero) :
  bN (call ai PV (.func 102 [] []) [.ptr x.s 0,.agg (ey x.T p)] h) λv g=>bG ρ h g/\∃aG aK,aK.ent=aq x.T.ent p .zero/\aG.ax=a++{x with T:=aK}::b/\Good g X c ρ aG (λ_=>0) (λ_=>0)/\aG.sec=σ.sec/\aG.ring=σ.ring/\σ.free<=aG.free/\aG.used<=σ.used/\
   (∀y q,y∈a++b->cont c aG y q=cont c σ y q)/\(∀q,q≠p->cont c aG {x with T:=aK} q=cont c σ x q):=by
 refine cF acZ rfl ?_;have ab:x∈σ.ax:=by rw[au];simp
 refine b1 (ajb (cs:=ey x.T p) rfl) λg1 bU dF aW=> ?_
 have bC:aX g1 (g1.aV 7):=aF.aV _ _ _;have Us:=aW.trans bC;have a':=k.ext Us;have ro:ρ h.next=0:=k.fresh (Nat.le_refl _);have mQ:=(a'.sys.ax x ab).field.2;rw[cT]at mQ;have mw:=k.inv.lt ab h9;have eR:bE g1 h.next 0=some (.int .i64 (p:Nat)):=bU.rd 0;simp only[b2,uv,Nat.zero_add,ak,ov,cT,mQ,Et,b6,eR];have mj:=a'.zb;refine bS (R6 a'.ps (a'.lD ab) (λf aB=>(a'.inv.node x f ab aB).1) (a'.inv.tight x ab) mj (a'.EF ab) h9) ?_;rintro _ g4 ⟨rfl,b7,cf,b4,aK,fu,vP,t4,bA,qA,tF⟩;rw[k.dn.n]at fu;have lx:=k.inv.kX ab h9;have hm:=l1 lx;have K2:∀f,bJ f ba.zero=false:=λf=>rfl
 have K3:∀f,cZ f ba.zero=false:=λf=>rfl
 have fw:∀f,IsNode aK f->¬IsNode x.T f->refs σ f=0/\(0:Int)=0:=λf h1 aa=>by have h0:=k.inv.rN (λf=>Int.le_refl 0) ((fu.ok.lvl _ _ f h1.choose_spec.choose_spec).2.2) (fu.new f h1 aa);exact⟨h0.1,rfl⟩
 have i4:=k.inv.ent au fu mw (λf=>(bJ f (x.T.ent p)).toNat) (λi=>(cZ i (x.T.ent p)).toNat) (λf=>by rw[K2];simp) (λi=>by rw[K3];simp) fw (λh=>absurd rfl h) (λh=>by cases h) (λh=>by cases h) (λh=>by cases h) (λh=>by cases h) (λh=>by cases h);have ml:=k.inv.B9 au fu fw;have wj:fP g4 X.A x.t (nodeAt aK 0 0) aK.dX:=t4.obj;have lC:=a'.sys.table au vP wj bA;have Gz:Good g4 X c ρ {σ with mem:=b7,held:=cf,free:=b4,ax:=a++{x with T:=aK}::b} (λf=>(bJ f (x.T.ent p)).toNat) (λi=>(cZ i (x.T.ent p)).toNat):=⟨lC,i4,k.dn,k.sec,k.ho⟩;have Hq:=(k.sys.ax x ab).role
 have iJ:bG ρ (g1.aV 7) g4:=bG.of bA λi _ e=>by
  rcases e with e|rfl
  ·have:=k.sys.core.oi e;omega
  ·omega
 have mr:(g1.aV 7).next=g1.next+7:=rfl
 have xt:=bA.next;have c5:=iJ.ca (bU.ext bC (by omega)) (by omega) ro;have cg:bE g4 h.next 1=some (.bool (x.T.ent p).here):=c5.rd 1;have gS:bE g4 h.next 5=some (.int .i64 (x.T.ent p).n):=c5.rd 5;have s5:aX g4 (g4.aV 11):=aF.aV _ _ _;have g5:=Gz.ext s5;have so:=g5.sys.field.1;have dt:=g5.sys.field.2.2.2;have aiY:=(g5.sys.ax {x with T:=aK} (gu.2 (.inl rfl))).field.1;have JW:bE (g4.aV 11) x.s 0=some (.ptr X.M 0):=aiY;rw[cT]at so dt JW;have eK:(((x.T.ent p).n.toNat:Nat) :Int)=(x.T.ent p).n:=by have:=hm.1;omega
 have fI:bG ρ h (g4.aV 11):=((bG.ext (ρ:=ρ) Us).trans iJ (λ_ _=>rfl)).trans (bG.ext (ρ:=ρ) s5) (λ_ _=>rfl);simp only[dh,yo,k4,lG,Nat.zero_add,ak,kB,cg,a1];by_cases aC:(x.T.ent p).here=true
 ·rw[if_pos aC];have kV:=k.inv.here x p ab aC;simp only[b2,q1,lF,ak,lH,gK,b6,cT,JW,so,gS];rw[<-eK];have jk:∀f,((bJ f (x.T.ent p)).toNat:Int)<=1:=λf=>by have:=Bool.toNat_le (bJ f (x.T.ent p));omega
  obtain⟨g6,jC,hr,eG,cE⟩:=H4 (d:=λf=>((bJ f (x.T.ent p)).toNat:Int)) g5 (n:=(x.T.ent p).n.toNat) kV (λf=>by omega) (λf=>by have:=jk f;omega) (by rw[ic k.inv ab aC];simp);rw[jC];simp only[c1,dh];refine aJ.pure ⟨fI.trans (bG.own hr) (λ_ _=>rfl),_,aK,fu.ent,rfl,⟨eG.sys,C9 eG.inv (λf=>by rw[z8 aC hm.1];omega) (λi=>by rw[Da lx aC];rfl),eG.dn,eG.sec,eG.ho⟩,rfl,rfl,?_,Nat.le_refl _,λy q an=>(ld (λ_=>rfl) (λ_=>rfl)).trans (ml.1 y q an),λq ay=>(ld (σ:={σ with mem:=b7,held:=cf,free:=b4,ax:=a++{x with T:=aK}::b}) (λ_=>rfl) (λ_=>rfl)).trans (ml.2 q ay)⟩;show σ.free<=if cf _=1 then b4+1 else b4
  split<;>omega
 ·rw[if_neg aC]
  have aY:(x.T.ent p).out=true:=by
   cases aY:(x.T.ent p).out with
   |true=>rfl
   |false=>exact absurd (F' (λ_=>lx) aY (by simpa using aC)) h9
  have jm:=k.inv.out x p ab aY;have m3:∀f,bJ f (x.T.ent p)=false:=λf=>by unfold bJ;rw[show(x.T.ent p).here=false by simpa using aC];rfl
  have cz:∀i,cZ i (x.T.ent p)=decide (i=(x.T.ent p).n.toNat):=λi=>by unfold cZ;rw[aY,Bool.true_and,Bool.eq_iff_iff];simp;have:=hm.1;omega
  have xD:=k.inv.Qt ab aY (Int.le_refl 0);have bK:=k.Ry (λf=>by show(0:Int)<=16;omega) jm;simp only[b2,q1,v',Nat.zero_add,ak,lH,pc,b6,cT,JW,dt,gS];rw[<-eK];refine bS (O0 g5 (i:=(x.T.ent p).n.toNat) jm (by show σ.bQ _≠0;omega) (by show σ.bQ _<_;omega)) ?_;rintro v g6 ⟨hr,eG⟩;refine aJ.pure ⟨fI.trans (bG.own hr) (λ_ _=>rfl),_,aK,fu.ent,rfl,⟨eG.sys,C9 eG.inv (λf=>by rw[m3];rfl) (λi=>by rw[cz];omega),eG.dn,eG.sec,eG.ho⟩,rfl,rfl,qA,?_,λy q an=>(ld (λ_=>rfl) (λ_=>rfl)).trans (ml.1 y q an),λq ay=>(ld (σ:={σ with mem:=b7,held:=cf,free:=b4,ax:=a++{x with T:=aK}::b}) (λ_=>rfl) (λ_=>rfl)).trans (ml.2 q ay)⟩;show(if σ.bQ _=1 then σ.used-1 else σ.used)<=σ.used;split<;>omega
end
end
section
variable{PV:cw} [db PV]
theorem RH(ent:Nat->ba)(lo:Nat) :∀n,(dm ent lo n).Nodup
 |0=>List.nodup_nil
 |n+1=>by
  have bI:=RH ent lo n;unfold dm;by_cases h:ent (lo+n)=.zero
  ·rw[if_pos h,List.append_nil];exact bI
  ·rw[if_neg h];refine List.nodup_append.2 ⟨bI,List.nodup_cons.2 ⟨by simp,List.nodup_nil⟩,λx ab y an=> ?_⟩;rw[List.mem_singleton]at an;have:=(It.1 ab).2.1;omega
theorem ahY{T:c0}{h:ag}{lo:Nat}{v:J}(aD:∀p,T.ent p≠.zero->p<4096)(r:Row h 6 lo v ((dm T.ent 0 4096).map (ey T))) :
  ∃L:List Nat,L.length<=4096/\L.Nodup/\(∀p,p∈L↔T.ent p≠.zero)/\Row h 6 lo v (L.map (ey T)):=
 ⟨_,JO _,RH _ _ _,λp=>Iu (aD p),r⟩
structure nF(c:cN)(σ:b0)(a:List bD)(x:bD)(b:List bD)(Q:Nat->Prop)(aG:b0)(aK:c0) :Prop where
 ax:aG.ax=a++{x with T:=aK}::b
 ent:∀p,Q p->aK.ent p=.zero
 ca:∀p,¬Q p->aK.ent p=x.T.ent p
 sec:aG.sec=σ.sec
 ring:aG.ring=σ.ring
 free:σ.free<=aG.free
 used:aG.used<=σ.used
 t':∀y q,y∈a++b->cont c aG y q=cont c σ y q
 own:∀q,¬Q q->cont c aG {x with T:=aK} q=cont c σ x q
section
variable{h g:ag}{X:dQ}{c:cN}{ρ a8:Nat->Nat}{σ aG:b0}{d e:Nat->Int}{a b:List bD}{x:bD}{Q Fe:Nat->Prop}{aK:c0}
theorem nF.refl(au:σ.ax=a++x::b)(ay:∀p,¬Q p) :nF c σ a x b Q σ x.T:=⟨au,λp aD=>absurd aD (ay p),λ_ _=>rfl,rfl,rfl,Nat.le_refl _,Nat.le_refl _,λ_ _ _=>rfl,λ_ _=>rfl⟩
theorem nF.congr(k:nF c σ a x b Q aG aK)(h:∀p,Fe p↔Q p) :nF c σ a x b Fe aG aK:=by
 have:Fe=Q:=funext λp=>propext (h p)
 rw[this];exact k
theorem nF.step(k:nF c σ a x b Q aG aK){b_:b0}{l8:c0}{p:Nat}(he:l8.ent=aq aK.ent p .zero)(au:b_.ax=a++{x with T:=l8}::b)(h1:b_.sec=aG.sec)(aa:b_.ring=aG.ring)(av:aG.free<=b_.free)(aO:b_.used<=aG.used)
  (bb:∀y q,y∈a++b->cont c b_ y q=cont c aG y q) (cp:∀q,q≠p->cont c b_ {x with T:=l8} q=cont c aG {x with T:=aK} q) :nF c σ a x b (λq=>Q q\/q=p) b_ l8 where
 ax:=au
 ent:=λq ay=>by
  rw[he];by_cases e:q=p
  ·subst e;rw[e3]
  ·rw[ed _ _ e];exact k.ent q (ay.resolve_right e)
 ca:=λq ay=>by rw[he,ed _ _ (λe=>ay (.inr e))];exact k.ca q λe=>ay (.inl e)
 sec:=h1.trans k.sec
 ring:=aa.trans k.ring
 free:=Nat.le_trans k.free av
 used:=Nat.le_trans aO k.used
 t':=λy q an=>(bb y q an).trans (k.t' y q an)
 own:=λq ay=>(cp q λe=>ay (.inr e)).trans (k.own q λe=>ay (.inl e))
end
end
section
variable{PV:cw} [db PV]
section
variable{h g:ag}{X:dQ}{c:cN}{ρ a8:Nat->Nat}{σ aG:b0}{d e:Nat->Int}{a b:List bD}{x:bD}
theorem Inv.b4{l:Nat->Nat->Prop}(i:Inv c σ d e)(aA:∀x p,x∈σ.ax->x.T.ent p≠.zero->bO x.L p≠none\/l x.s p) :Inv ⟨c.n,c.first,c.cG,c.hy,l⟩ σ d e:=
 ⟨i.jQ,i.tight,i.qe,i.node,i.data,i.free,i.here,i.out,aA,i.slot,i.used,i.write,i.clean,i.ring,i.keys,i.gI⟩
theorem wO.b4{l:Nat->Nat->Prop}(s:wO X c) :wO X ⟨c.n,c.first,c.cG,c.hy,l⟩:=⟨s.n,s.first,s.cG,s.dH,s.loc,s.xa⟩
theorem Ma{x:bD}{hv:List aH}{p:Nat}(en:je x.L)(Zc:je hv)(e:spread hv p=spread x.L p) :cont c σ {x with L:=hv} p=cont c σ x p:=by
 unfold cont;show(match bO hv p with|none=>none|some r=>_)=_;cases h1:bO hv p with
 |none=>
  rw[p1.2 h1]at e;rw[p1.1 e.symm]
 |some b9=>
  rw[uk h1]at e;cases aa:bO x.L p with
  |none=>rw[p1.2 aa]at e;cases e
  |some r=>
   rw[uk aa]at e;have aD:=DQ (Option.some.inj e) (Zc.may b9 (mL h1).1) (en.may r (mL aa).1)
   have af:base c b9 p=base c r p:=by
    unfold base;rw[aD.1,aD.2.1];by_cases aj:b9.kind=1
    ·rw[if_pos aj,if_pos aj,aD.2.2 aj]
    ·rw[if_neg aj,if_neg aj]
   dsimp only;rw[af]
theorem W9{x:bD}{p:Nat}(e:spread x.L p=none) :cont c σ x p=none:=by unfold cont;rw[p1.1 e]
def qd(L:List aH)(p q:Int) :List aH:=(L.flatMap (fT p q)).foldl c6 []
structure Vm(c:cN)(σ:b0)(a:List bD)(x:bD)(b:List bD)(p q:Int)(aG:b0)(aK:c0) :Prop where
 ax:aG.ax=a++{x with L:=qd x.L p q,T:=aK}::b
 gone:∀r:Nat,p<=r->(r:Int) <q->aK.ent r=.zero
 ca:∀r:Nat,¬(p<=r/\(r:Int) <q)->aK.ent r=x.T.ent r
 sec:aG.sec=σ.sec
 ring:aG.ring=σ.ring
 free:σ.free<=aG.free
 used:aG.used<=σ.used
 t':∀y r,y∈a++b->cont c aG y r=cont c σ y r
 own:∀r:Nat,cont c aG {x with L:=qd x.L p q,T:=aK} r=if p<=r/\(r:Int) <q then none else cont c σ x r
theorem akh(k:Good h X c ρ σ (λ_=>0) (λ_=>0))(eU:∀s p,¬c.loose s p)(au:σ.ax=a++x::b){p q:Int}(aD:kj p)(ay:kj q) :
  bN (call ai PV (.func 220 [] []) [.ptr x.s 0,.int .i64 p,.int .i64 q] h) λv g=>bG ρ h g/\
   ((q<=p/\v=.int .i64 1/\Good g X c ρ σ (λ_=>0) (λ_=>0))\/
    (p<q/\v=.int .i64 0/\∃aG aK a8,(∀i,i<h.next->a8 i=ρ i)/\Good g X c a8 aG (λ_=>0) (λ_=>0)/\Vm c σ a x b p q aG aK)):=by
 refine cF adG rfl ?_;have ab:x∈σ.ax:=by rw[au];simp
 have oq:=k.sys.ax x ab;obtain⟨e0,ol,ij,nq⟩:=oq.str;have dY:=k.inv.gI x ab;have CK:=dY.len;simp only[JC oq,c1,dc,ak,a1];rw[if_neg (by decide)];simp only[fk,ak,a1];by_cases dI:q<=p
 ·rw[if_pos (by simpa using dI)];exact aJ.pure ⟨aF.refl _ _,.inl ⟨dI,rfl,k⟩⟩
 rw[if_neg (by simpa using dI)];have dI:p<q:=by omega
 simp only[b2,J2,Nat.zero_add,ak,sS,Obj.get ol (i:=2) rfl];refine bS (ahq ij dY (by omega) aD ay) ?_;rintro sn g2 ⟨a_,Jq,xV⟩
 have N4:sn.cells=[sn]/\dT sn=true:=by rcases Jq with⟨rfl,_⟩ |⟨_,_,_,rfl,_⟩<;>exact⟨rfl,rfl⟩
 have iV:x.s<h.next:=k.sys.core.lt _ (by have:=oq.role;omega);have agd:=ol.ext a_ iV;refine cb (Km (k:=2) (v:=sn) agd (by simp) N4.1 N4.2) λg3 ⟨b8,bw,eH⟩=> ?_
 have b8:a6.Obj g3 x.s [.ptr X.M 0,.ptr x.t 0,sn]:=b8;let b5:cN:=⟨c.n,c.first,c.cG,c.hy,λs r=>s=x.s/\p<=r/\(r:Int) <q⟩;have u':=Xg dY p q;have acx:Good g2 X b5 ρ σ (λ_=>0) (λ_=>0):=⟨k.sys.ext a_,k.inv.b4 λy r an ah=>.inl ((k.inv.mc y r an ah).resolve_right (eU _ _)),k.dn.b4,k.sec,k.ho⟩
 have hA:∀i,ch sn=some i->i<g3.next:=λi U=>by
  rcases Jq with⟨rfl,_⟩ |⟨ea,cap,ex,rfl,_,av,_⟩
  ·cases U
  ·obtain rfl:ea=i:=Option.some.inj U;omega
 have eT:∀i,ch sn=some i->ρ i=0:=λi U=>k.fresh (xV i U)
 have ah1:=Jq.aq bw (λea cap ex e cR=>by have:=eT ea (by rw[e];rfl);rw[cR]at this;have:=oq.role.1;omega)
 have bY:=acx.row au u'.1 (λr ah=>by
  by_cases eb:p<=r/\(r:Int) <q
  ·refine .inr ⟨⟨rfl,eb⟩,?_⟩;have:=u'.2.1 r;rw[if_pos eb]at this;exact p1.1 this
  ·left;have hk:=(k.inv.mc x r ab ah).resolve_right (eU _ _);have aa:=u'.2.1 r;rw[if_neg eb]at aa;cases ah:bO x.L r with
   |none=>exact absurd ah hk
   |some r0=>
    rw[uk ah]at aa;cases iz:bO ((x.L.flatMap (fT p q)).foldl c6 []) r with
    |none=>rw[p1.2 iz]at aa;cases aa
    |some b9=>
     rw[uk iz]at aa
     exact⟨r0,b9,rfl,rfl,DQ (Option.some.inj aa).symm (dY.may r0 (mL ah).1) (u'.1.may b9 (mL iz).1)⟩) b8 ah1 (λi U=>⟨.inl (eT i U),hA i U⟩) bw
 generalize ab3:(λi=>if ch sn=some i then 17 else ρ i)=ek at bY
 have Oh:∀i,i<h.next->ek i=ρ i:=λi U=>by rw[<-ab3];show(if ch sn=some i then 17 else ρ i)=ρ i;rw[if_neg];intro e;have:=xV i e;omega
 have ny:bG ρ h g3:=(bG.ext (ρ:=ρ) a_).trans (bG.of (ρ:=ρ) bw λi _ e=>by subst e;have:=oq.role.1;omega) (λ_ _=>rfl);have f_:qd x.L p q=(x.L.flatMap (fT p q)).foldl c6 []:=rfl;rw[<-f_]at bY;generalize gq:({x with L:=qd x.L p q} :bD)=bB at bY;have UZ:bB.s=x.s:=by rw[<-gq]
 have ak2:bB.T=x.T:=by rw[<-gq]
 generalize Oi:({σ with ax:=a++bB::b} :b0)=aT at bY;have gO:aT.ax=a++bB::b:=by rw[<-Oi]
 have C4:bB∈aT.ax:=by rw[gO];simp
 have f1:=(bY.sys.ax bB C4).field;rw[UZ]at f1;simp only[uv,ak,ov,Nat.zero_add,f1.2];refine bS (Fl bY.ps (bY.lD C4)) ?_;rintro aks g4 ⟨CU,bA⟩;obtain⟨L,en,cL,er,CU⟩:=ahY (λp aD=>bY.inv.lt C4 aD) CU;have hlen:=CU.len (T:=175) (E:=ai) (si:=wm) (by kernel_rfl) rfl;rw[List.length_map]at hlen;rw[hlen];simp only[ak];have c8:=bY.ext bA;have fr:∀i,g3.next<=i->ek i=0:=λi U=>bY.fresh U
 refine gW (n:=14) (I:=λi vs g=>vs=[.int .i64 (i:Nat)]/\bG ek g4 g/\i<=L.length/\∃aG aK,Good g X b5 ek aG (λ_=>0) (λ_=>0)/\nF b5 aT a bB b (λr=>r∈L.take i/\p<=r/\(r:Int) <q) aG aK) (m:=L.length)
  (P:=λy vs g=>y=.exit 0/\(∃c,vs=[c])/\bG ek g4 g/\∃aG aK,Good g X b5 ek aG (λ_=>0) (λ_=>0)/\nF b5 aT a bB b (λr=>r∈L/\p<=r/\(r:Int) <q) aG aK) (Nat.lt_of_le_of_lt en (by decide)) ⟨rfl,aF.refl _ _,Nat.zero_le _,aT,bB.T,c8,nF.refl gO (by simp)⟩ ?_ ?_
 ·rintro i _ g U ⟨rfl,w,_,b_,l8,jo,lP⟩;simp only[bn,bd,cQ,ak,a1];by_cases ci:i<L.length
  ·rw[if_pos (by simp;omega)];obtain⟨r,ah⟩ :∃r,L[i]? =some r:=⟨_,List.getElem?_eq_getElem ci⟩;have oU:L.take (i+1)=L.take i++[r]:=by rw[List.take_add_one,ah];rfl
   have N3:¬(r∈L.take i/\p<=r/\(r:Int) <q):=λeb=>by have h1:=cL;rw[<-List.take_append_drop i L]at h1;refine(List.nodup_append.1 h1).2.2 r eb.1 r ?_ rfl;rw[List.mem_iff_getElem?];exact⟨0,by rw[List.getElem?_drop,Nat.add_zero];exact ah⟩
   have N5:bB.T.ent r≠.zero:=(er r).1 (List.mem_of_getElem? ah);have abh:l8.ent r≠.zero:=by rw[lP.ca r N3];exact N5
   have m_:=bY.inv.lt C4 N5;have zQ:Row g 6 g3.next aks (L.map (ey bB.T)):=CU.aq w (λj az _ e=>e (fr j az));obtain⟨ea,e9,Ha,hi,kZ,kU,pK,rY⟩:=zQ.at (i:=i) (x:=ey bB.T r) (by simp[ah]);rw[List.length_map]at e9 kU;rw[e9];refine fV (P:=λy vs bH=>y=.normal/\vs=[]/\bG ek g4 bH/\∃aG aK,Good bH X b5 ek aG (λ_=>0) (λ_=>0)/\nF b5 aT a bB b (λr=>r∈L.take (i+1)/\p<=r/\(r:Int) <q) aG aK) ?_ ?_
   ·simp only[J' kU,ak,Nat.zero_add];rw[ux kZ (by omega),rY];simp only[ak];refine b1 sO λg6 di n6 b3=> ?_
    refine cb (q6 (k:=0) (cs:=ey bB.T r) di rfl (by simp[ey,ba.vs]) rfl) λg7 ⟨dP,dM,n7⟩=> ?_
    have dP:=dC dP rfl;have yB:aX g g7:=b3.local dM (λj az e=>by omega);have r0:bE g7 g.next 0=some (.int .i64 (r:Nat)):=dP.rd 0;have H2:=jo.ext yB;have p3:=w.trans (bG.ext (ρ:=ek) yB) (λ_ _=>rfl)
    have skip:¬(p<=r/\(r:Int) <q)->nF b5 aT a bB b (λr=>r∈L.take (i+1)/\p<=r/\(r:Int) <q) b_ l8:=λcE=>lP.congr λs=>by
     rw[oU];simp only[List.mem_append,List.mem_singleton];constructor
     ·rintro⟨h1|rfl,aa⟩
      ·exact⟨h1,aa⟩
      ·exact absurd aa cE
     ·exact λh=>⟨.inl h.1,h.2⟩
    simp only[Et,b6,r0,ak,fk];by_cases bc:p<=(r:Int)
    ·by_cases bW:(r:Int) <q
     ·simp only[decide_eq_true bc,cJ,if_true,ak,cQ,decide_eq_true bW,cO,bn,bd,cB,a1];rw[ux dP (by simp[ey,ba.vs])];simp only[ak]
      have Hv:(J.agg (List.take 6 (List.drop 0 (ey bB.T r))))=.agg (ey l8 r):=by show J.agg (ey bB.T r)=.agg (ey l8 r);unfold ey;rw[lP.ca r N3]
      rw[Hv];rw[show(J.ptr x.s 0)=J.ptr ({bB with T:=l8} :bD).s 0 from by rw[<-UZ]];refine bS (XE (x:={bB with T:=l8}) H2 lP.ax abh) ?_;rintro UJ g8 ⟨kF,nB,rp,he,xB,acH,h1,aa,av,aO,bb,cp⟩;refine aJ.pure ⟨rfl,rfl,p3.trans kF (λ_ _=>rfl),nB,rp,acH,(lP.step he xB h1 aa av aO bb cp).congr λs=> ?_⟩;rw[oU];simp only[List.mem_append,List.mem_singleton];constructor
      ·rintro⟨h1|rfl,aa⟩
       ·exact .inl ⟨h1,aa⟩
       ·exact .inr rfl
      ·rintro(h|rfl)
       ·exact⟨.inl h.1,h.2⟩
       ·exact⟨.inr rfl,bc,bW⟩
     ·simp only[decide_eq_true bc,cJ,if_true,ak,cQ,decide_eq_false bW,cO,bn,bd,cB,a1,Bool.false_eq_true,if_false];exact aJ.pure ⟨rfl,rfl,p3,b_,l8,H2,skip λh=>bW h.2⟩
    ·simp only[decide_eq_false bc,cJ,Bool.false_eq_true,if_false,ak,cO,bn,bd,cB,a1];exact aJ.pure ⟨rfl,rfl,p3,b_,l8,H2,skip λh=>bc h.1⟩
   ·rintro _ _ g9 ⟨rfl,rfl,re,nB,rp,j7,kl⟩;have aw:bF .i64 ((i:Int) +1)=((i+1:Nat) :Int):=by rw[wrap_i64 (by omega) (by omega)];omega
    simp only[bd,hf,cP,aw,ak];exact aJ.pure (.inl ⟨rfl,ci,rfl,re,ci,nB,rp,j7,kl⟩)
  ·rw[if_neg (by simp;omega)];refine aJ.pure (.inr ⟨by simp,rfl,⟨_,rfl⟩,w,b_,l8,jo,lP.congr λq=> ?_⟩);rw[List.take_of_length_le (by omega)]
 ·rintro y _ g9 ⟨rfl,⟨gz,rfl⟩,re,nB,rp,j7,kl⟩;simp only[bn,bd,fZ,if_true]
  have hzero:∀r:Nat,p<=r->(r:Int) <q->rp.ent r=.zero:=λr h1 aa=>by
   by_cases ah:r∈L
   ·exact kl.ent r ⟨ah,h1,aa⟩
   ·rw[kl.ca r λh=>ah h.1];by_cases h0:bB.T.ent r=.zero
    ·exact h0
    ·exact absurd ((er r).2 h0) ah
  have vf:∀r:Nat,¬(p<=r/\(r:Int) <q)->rp.ent r=x.T.ent r:=λr ah=>by rw[kl.ca r λh=>ah h.2,ak2]
  have Oc:({bB with T:=rp} :bD)={x with L:=qd x.L p q,T:=rp}:=by rw[<-gq]
  have JR:=kl.ax;rw[Oc]at JR
  have ZL:∀y r,y∈nB.ax->y.T.ent r≠.zero->bO y.L r≠none\/c.loose y.s r:=λy r an ah=>by
   rcases j7.inv.mc y r an ah with h1|⟨h1,aa,av⟩
   ·exact .inl h1
   ·exfalso;rw[JR]at an;rcases gu.1 an with rfl|an
    ·exact ah (hzero r aa av)
    ·have pZ:=(k0 (R:=λx y:bD=>x.s≠y.s/\x.t≠y.t) (λa b al=>⟨al.1.symm,al.2.symm⟩)).1 (au▸k.sys.pY);exact(pZ.1 y an).1 h1.symm
  have i9:Inv ⟨c.n,c.first,c.cG,c.hy,c.loose⟩ nB (λ_=>0) (λ_=>0):=Inv.b4 (c:=b5) (l:=c.loose) j7.inv ZL;have sJ:wO X ⟨c.n,c.first,c.cG,c.hy,c.loose⟩:=k.dn;refine aJ.pure ⟨ny.trans ((bG.ext (ρ:=ek) bA).trans re (λ_ _=>rfl)) Oh,.inr ⟨dI,rfl,nB,rp,ek,Oh,⟨j7.sys,i9,sJ,j7.sec,j7.ho⟩,?_⟩⟩;have aw:aT.sec=σ.sec/\aT.ring=σ.ring/\aT.free=σ.free/\aT.used=σ.used/\aT.mem=σ.mem:=by rw[<-Oi];exact⟨rfl,rfl,rfl,rfl,rfl⟩
  have w6:∀y r,cont c aT y r=cont c σ y r:=λy r=>ld (λ_=>by rw[aw.2.2.2.2]) (λ_=>by rw[aw.1])
  refine⟨JR,hzero,vf,kl.sec.trans aw.1,kl.ring.trans aw.2.1,aw.2.2.1▸kl.free,aw.2.2.2.1▸kl.used,λy r an=>(kl.t' y r an).trans (w6 y r),λr=> ?_⟩;by_cases eb:p<=r/\(r:Int) <q
  ·rw[if_pos eb];refine W9 ?_;have:=u'.2.1 r;rw[if_pos eb]at this;exact this
  ·rw[if_neg eb];have h1:=kl.own r λh=>eb h.2
   rw[Oc]at h1
   have aa:cont c aT bB r=cont c aT x r:=by rw[<-gq];refine Ma dY u'.1 ?_;have:=u'.2.1 r;rw[if_neg eb]at this;exact this
   exact h1.trans (aa.trans (w6 x r))
end
end
section
variable{PV:cw} [db PV]
def yE(s:Nat)(F:(Nat->Option Nat)->Nat->Option Nat)(v:List (Nat×List aH×(Nat->Option Nat))) :List (Nat×List aH×(Nat->Option Nat)):=v.map λq=>if q.1=s then(q.1,q.2.1,F q.2.2)else q
section
variable{h g:ag}{X:dQ}{c:cN}{ρ a8:Nat->Nat}{σ aG:b0}{d e:Nat->Int}{a b:List bD}{x:bD}
theorem Good.pY(k:Good h X c ρ σ d e){x y:bD}(ab:x∈σ.ax)(an:y∈σ.ax)(au:x.s=y.s) :x=y:=by
 obtain⟨a,b,e⟩:=List.append_of_mem ab;have pZ:=(k0 (R:=λx y:bD=>x.s≠y.s/\x.t≠y.t) (λa b al=>⟨al.1.symm,al.2.symm⟩)).1 (e▸k.sys.pY);rw[e]at an;rcases gu.1 an with rfl|an
 ·rfl
 ·exact absurd au (pZ.1 y an).1
end
end
theorem FU(a b:Nat) :∀n,b' (λq=>decide (a<=q/\q<b)) n<=b-a
 |0=>Nat.zero_le _
 |n+1=>by
  have bI:=FU a b n;show b' (λq=>decide (a<=q/\q<b)) n+(decide (a<=n/\n<b)).toNat<=_;by_cases h:a<=n/\n<b
  ·rw[decide_eq_true h]
   have aa:b' (λq=>decide (a<=q/\q<b)) n<=n-a:=by
    have av:b' (λq=>decide (a<=q/\q<b)) n=b' (λq=>decide (a<=q/\q<n)) n:=wW λi U=>by
     by_cases c:a<=i
     ·rw[decide_eq_true (show a<=i/\i<b by omega),decide_eq_true (show a<=i/\i<n by omega)]
     ·rw[decide_eq_false (by omega),decide_eq_false (by omega)]
    rw[av];exact FU a n n
   rw[Bool.toNat_true];omega
  ·rw[decide_eq_false h];exact bI
theorem yW{f:Nat->Bool}{n:Nat} :∀(l:List (Nat×Nat)) (f:Nat->Bool),(∀q,q<n->f q=true->∃mT,mT∈l/\mT.1<=q/\q<mT.2)->b' f n<=(l.map λmT=>mT.2-mT.1).sum
 |[],f,h=>by
  have:b' f n=0:=m1.2 λi U=>by
   cases aB:f i with
   |false=>rfl
   |true=>obtain⟨mT,ix,_⟩:=h i U aB;cases ix
  rw[this];exact Nat.zero_le _
 |(a,b)::l,f,h=>by
  have h1:=FU a b n
  have aa:=yW (f:=f) l (λq=>f q&& !decide (a<=q/\q<b)) (λq ay aB=>by
   simp only[Bool.and_eq_true,Bool.not_eq_true',decide_eq_false_iff_not]at aB;obtain⟨mT,ix,av⟩:=h q ay aB.1;rcases List.mem_cons.1 ix with rfl|ix
   ·exact absurd av aB.2
   ·exact⟨mT,ix,av⟩)
  have av:=BY (λq=>decide (a<=q/\q<b)) (λq=>f q&& !decide (a<=q/\q<b)) (λi U=>by rw[U];simp) n;have aO:b' f n<=b' (λi=>decide (a<=i/\i<b) ||(f i&& !decide (a<=i/\i<b))) n:=L5 λi _ U=>by rw[U];cases decide (a<=i/\i<b)<;>rfl
  simp only[List.map_cons,List.sum_cons];omega
def pV(L:List aH) :Nat:=(L.map λr=>r.U.toNat-r.lo.toNat).sum
def vK(D:Nat)(r:aH) :Nat:=(r.U.toNat-1) /D+1-r.lo.toNat/D
def o2(L:List aH) :Nat:=1+((L.map (vK 512)).sum+(L.map (vK 64)).sum+(L.map (vK 8)).sum)
theorem QZ{L:List aH}(en:je L){p:Nat}(h:bO L p≠none) :∃r,r∈L/\r.lo.toNat<=p/\p<r.U.toNat/\r.U<=4096:=by
 cases ah:bO L p with
 |none=>exact absurd ah h
 |some r=>
  have h1:=mL ah;have aa:=lB (en.may r h1.1);exact⟨r,h1.1,by omega,by omega,aa.2.2.1⟩
theorem W0{T:c0}{L:List aH}(en:je L)(aA:∀p,T.ent p≠.zero->bO L p≠none){P:ba->Bool}(h0:P .zero=false) :T.iw P<=pV L:=by
 have:=yW (f:=λ_=>true) (n:=4096) (L.map λr=>(r.lo.toNat,r.U.toNat)) (λp=>P (T.ent p)) (λp _ aD=>by
  have cE:T.ent p≠.zero:=λe=>by have m8:P (T.ent p)=true:=aD;rw[e,h0]at m8;cases m8
  obtain⟨r,h1,aa,av,_⟩:=QZ en (aA p cE)
  exact⟨_,List.mem_map.2 ⟨r,h1,rfl⟩,aa,av⟩)
 rw[List.map_map]at this;exact this
theorem Ig{dec:Nat->Nat->ba}{n:Nat}{T:c0}(h:gx dec n T)(aN:p_ T){L:List aH}(en:je L)(aA:∀p,T.ent p≠.zero->bO L p≠none){l:Nat}(ar:1<=l)(zz:l<=3) :
  b' (λq=>(T.aZ l q).isSome) (8^l)<=(L.map (vK (8^(4-l)))).sum:=by
 have:=yW (f:=λ_=>true) (n:=8^l) (L.map λr=>(r.lo.toNat/8^(4-l),(r.U.toNat-1) /8^(4-l) +1)) (λq=>(T.aZ l q).isSome) (λq _ ay=>by
  have nW:T.aZ l q≠none:=by intro e;have nW:(T.aZ l q).isSome=true:=ay;rw[e]at nW;cases nW
  obtain⟨p,rfl,aD⟩:=(IA h aN (3-l) l q (by omega) ar).1 nW;obtain⟨r,h1,aa,av,_⟩:=QZ en (aA p aD)
  exact⟨_,List.mem_map.2 ⟨r,h1,rfl⟩,Nat.div_le_div_right aa,Nat.lt_succ_of_le (Nat.div_le_div_right (by omega))⟩)
 rw[List.map_map]at this;exact this
theorem W3{dec:Nat->Nat->ba}{n:Nat}{T:c0}(h:gx dec n T)(aN:p_ T){L:List aH}(en:je L)(aA:∀p,T.ent p≠.zero->bO L p≠none) :T.dX<=o2 L:=by
 have h0:b' (λq=>(T.aZ 0 q).isSome) (8^0)<=1:=m0 _ _;have h1:=Ig h aN en aA (l:=1) (by omega) (by omega);have aa:=Ig h aN en aA (l:=2) (by omega) (by omega);have av:=Ig h aN en aA (l:=3) (by omega) (by omega);unfold c0.dX;simp only[de];unfold o2;have rQ:b' (λq=>(T.aZ 1 q).isSome) (8^1)<=(L.map (vK 512)).sum:=h1;have Co:b' (λq=>(T.aZ 2 q).isSome) (8^2)<=(L.map (vK 64)).sum:=aa;have rR:b' (λq=>(T.aZ 3 q).isSome) (8^3)<=(L.map (vK 8)).sum:=av;clear h1 aa av;generalize b' (λq=>(T.aZ 0 q).isSome) (8^0)=a0 at*
 generalize b' (λq=>(T.aZ 1 q).isSome) (8^1)=aQ at*
 generalize b' (λq=>(T.aZ 2 q).isSome) (8^2)=a2 at*
 generalize b' (λq=>(T.aZ 3 q).isSome) (8^3)=a3 at*
 omega
def l6{α:Type}(f:α->Nat)(l:List α) :Nat:=(l.map f).sum
theorem ahz{c:cN}{σ:b0}{d e:Nat->Int}(h:Inv c σ d e)(eU:∀s p,¬c.loose s p){P:ba->Bool}(h0:P .zero=false) :cU σ.ax P<=l6 (λx:bD=>pV x.L) σ.ax:=by
 have:∀l:List bD,(∀x,x∈l->x∈σ.ax)->cU l P<=l6 (λx:bD=>pV x.L) l:=by
  intro l;induction l with
  |nil=>intro _;exact Nat.le_refl _
  |cons x l bI=>
   intro hm;have h1:=bI λy an=>hm y (List.mem_cons_of_mem _ an)
   have aa:=W0 (h.gI x (hm x (by simp))) (λp aD=>(h.mc x p (hm x (by simp)) aD).resolve_right (eU _ _)) h0;rw[uh];show _<=pV x.L+l6 _ l;omega
 exact this _ λ_ h=>h
theorem afy{c:cN}{σ:b0}{d e:Nat->Int}(h:Inv c σ d e)(eU:∀s p,¬c.loose s p) :j9 σ.ax<=l6 (λx:bD=>o2 x.L) σ.ax:=by
 have:∀l:List bD,(∀x,x∈l->x∈σ.ax)->j9 l<=l6 (λx:bD=>o2 x.L) l:=by
  intro l;induction l with
  |nil=>intro _;exact Nat.le_refl _
  |cons x l bI=>
   intro hm;have h1:=bI λy an=>hm y (List.mem_cons_of_mem _ an)
   have aa:=W3 (h.jQ x (hm x (by simp))) (h.tight x (hm x (by simp))) (h.gI x (hm x (by simp))) (λp aD=>(h.mc x p (hm x (by simp)) aD).resolve_right (eU _ _));show x.T.dX+j9 l<=o2 x.L+l6 _ l;omega
 exact this _ λ_ h=>h
theorem ahA(σ:b0)(n:Nat) :b' (λf=>decide (refs σ f≠0)) n<=cU σ.ax (λs=>s.here) +σ.ring.length:=by
 have h1:b' (λf=>decide (refs σ f≠0)) n<=de (refs σ) n:=by
  induction n with
  |zero=>exact Nat.le_refl _
  |succ n bI=>
   show b' (λf=>decide (refs σ f≠0)) n+(decide (refs σ n≠0)).toNat<=de (refs σ) n+refs σ n;by_cases h:refs σ n≠0
   ·rw[decide_eq_true h,Bool.toNat_true];omega
   ·rw[decide_eq_false h,Bool.toNat_false];omega
 have aa:de (refs σ) n=de (λf=>cU σ.ax (bJ f)) n+de (λf=>dZ (λx:cH=>x.fr==f) σ.ring) n:=AT _ _ n
 have av:∀l:List bD,de (λf=>cU l (bJ f)) n<=cU l (λs=>s.here):=by
  intro l;induction l with
  |nil=>rw[yl λi _=>DW _];exact Nat.zero_le _
  |cons x l bI=>
   have:de (λf=>cU (x::l) (bJ f)) n=de (λf=>x.T.iw (bJ f)) n+de (λf=>cU l (bJ f)) n:=by rw[<-AT];exact qZ λi _=>uh _ _ _
   rw[this,uh]
   have aO:de (λf=>x.T.iw (bJ f)) n<=x.T.iw (λs=>s.here):=by
    have aw:∀f,x.T.iw (bJ f)=de (λp=>(bJ f (x.T.ent p)).toNat) 4096:=λf=>(qY _ _).symm
    have aL:de (λf=>x.T.iw (bJ f)) n=de (λf=>de (λp=>(bJ f (x.T.ent p)).toNat) 4096) n:=qZ λi _=>aw i
    rw[aL,Ek];have bo:x.T.iw (λs=>s.here)=de (λp=>((x.T.ent p).here).toNat) 4096:=(qY _ _).symm;rw[bo];refine RZ λp _=> ?_
    show de (λf=>(bJ f (x.T.ent p)).toNat) n<=_;rw[qY];by_cases aC:(x.T.ent p).here=true
    ·rw[aC]
     have hu:∀m,b' (λf=>bJ f (x.T.ent p)) m<=1:=by
      intro m
      have bb:=yW (f:=λ_=>true) (n:=m) [((x.T.ent p).n.toNat,(x.T.ent p).n.toNat+1)] (λf=>bJ f (x.T.ent p)) (λf _ aB=>⟨_,List.mem_singleton_self _,by
       have qz:bJ f (x.T.ent p)=true:=aB;unfold bJ at qz;simp only[Bool.and_eq_true,beq_iff_eq]at qz;show(x.T.ent p).n.toNat<=f/\f<(x.T.ent p).n.toNat+1
       omega⟩)
      simpa using bb
     simpa using hu n
    ·have:b' (λf=>bJ f (x.T.ent p)) n=0:=m1.2 λf _=>by
      unfold bJ;rw[show(x.T.ent p).here=false by simpa using aC];rfl
     rw[this];exact Nat.zero_le _
   omega
 have aO:∀l:List cH,de (λf=>dZ (λx:cH=>x.fr==f) l) n<=l.length:=by
  intro l;induction l with
  |nil=>rw[yl λi _=>uQ _];exact Nat.le_refl _
  |cons y l bI=>
   have:de (λf=>dZ (λx:cH=>x.fr==f) (y::l)) n=b' (λf=>y.fr==f) n+de (λf=>dZ (λx:cH=>x.fr==f) l) n:=by rw[<-qY,<-AT];exact qZ λi _=>py _ _ _
   rw[this,List.length_cons]
   have bb:=yW (f:=λ_=>true) (n:=n) [(y.fr,y.fr+1)] (λf=>y.fr==f) (λf _ aB=>⟨_,List.mem_singleton_self _,by
    have qz:(y.fr==f)=true:=aB;rw[beq_iff_eq]at qz;show y.fr<=f/\f<y.fr+1
    omega⟩)
   have cp:(List.map (λmT:Nat×Nat=>mT.2-mT.1) [(y.fr,y.fr+1)]).sum=1:=by simp
   omega
 have bb:=av σ.ax;have cp:=aO σ.ring;omega
theorem YJ{c:cN}{σ:b0}{e:Nat->Int}(h:Inv c σ (λ_=>0) e)(eU:∀s p,¬c.loose s p) :c.n<=σ.free+l6 (λx:bD=>o2 x.L+pV x.L) σ.ax+σ.ring.length:=by
 have h1:=h.room;have aa:=afy h eU;have av:=ahz h eU (P:=λs=>s.here) rfl;have aO:=ahA σ c.n
 have bb:∀l:List bD,l6 (λx:bD=>o2 x.L+pV x.L) l=l6 (λx:bD=>o2 x.L) l+l6 (λx:bD=>pV x.L) l:=by
  intro l;induction l with
  |nil=>rfl
  |cons x l bI=>
   show(o2 x.L+pV x.L) +l6 _ l=(o2 x.L+l6 _ l) +(pV x.L+l6 _ l);rw[bI];omega
 rw[bb];omega
section
variable{PV:cw} [db PV]
def BJ(c:cN)(L:List aH) :Nat->Option Nat:=λr=>(bO L r).map λq=>base c q r
theorem L_{c:cN}{σ:b0}{x:bD}{r:Nat}(aI:x.T.ent r=.zero) :cont c σ x r=BJ c x.L r:=by
 unfold cont BJ;rw[aI];cases bO x.L r with
 |none=>rfl
 |some q=>
  show some (if ba.zero.here=true then _ else if ba.zero.out=true then _ else base c q r)=some (base c q r);rw[if_neg (by decide),if_neg (by decide)]
theorem wB{c:cN}{σ:b0} :σ.ax.map (·.L)=(view c σ).map (·.2.1):=by simp[view,Function.comp_def]
section
variable{h g:ag}{X:dQ}{c:cN}{ρ a8:Nat->Nat}{σ aG:b0}{d e:Nat->Int}{a b:List bD}{x cn:bD}
def da(a b:ba) :Prop:=a.here=b.here/\a.out=b.out/\a.n=b.n
theorem da.refl(a:ba) :da a a:=⟨rfl,rfl,rfl⟩
theorem da.trans{a b c:ba}(h:da a b)(k:da b c) :da a c:=⟨h.1.trans k.1,h.2.1.trans k.2.1,h.2.2.trans k.2.2⟩
variable{aS ew:Nat}{aT b_:b0}
end
end
section
variable{PV:cw} [db PV]
def Dz(n:ir) :Nat:=(n.size+63) /64
def uZ(cx:List ir) :Nat:=(cx.map Dz).sum
theorem JY{l:List Nat} :∀{i j:Nat},i<=j->(l.take i).sum<=(l.take j).sum:=by
 induction l with
 |nil=>intro i j _;simp
 |cons x l bI=>
  intro i j h;cases i with
  |zero=>simp
  |succ i=>
   cases j with
   |zero=>omega
   |succ j=>
    simp only[List.take_succ_cons,List.sum_cons];have:=bI (i:=i) (j:=j) (by omega);omega
theorem JZ{l:List Nat}{i x:Nat}(h:l[i]? =some x) :(l.take (i+1)).sum=(l.take i).sum+x:=by rw[List.take_add_one,h];simp
theorem ai5(l:List Nat)(i:Nat) :(l.take i).sum<=l.sum:=by have:=JY (l:=l) (i:=i) (j:=i+l.length) (by omega);rwa[List.take_of_length_le (l:=l) (i:=i+l.length) (by omega)]at this
theorem Yh{cx:List ir}{sec:Nat->Nat}{f p:Int}{m:Nat}(h:fileAt cx sec f p=some m) :0<=f/\0<=p/\∃n,cx[f.toNat]? =some n/\p.toNat<Dz n:=by
 unfold fileAt at h;by_cases bc:f<0
 ·rw[if_pos bc]at h;cases h
 rw[if_neg bc]at h;cases al:cx[f.toNat]? with
 |none=>rw[al]at h;cases h
 |some n=>
  rw[al]at h;simp only at h;by_cases bW:p<0\/(((n.size+63) /64:Nat) :Int)<=p
  ·rw[if_pos bW]at h;cases h
  ·refine⟨by omega,by omega,n,rfl,?_⟩;show p.toNat<(n.size+63) /64;omega
theorem ahS{c:cN}{σ:b0}{d e:Nat->Int}(h:Inv c σ d e){cx:List ir}{sec:Nat->Nat}(aB:c.hy=fileAt cx sec) :σ.ring.length<=uZ cx:=by
 let ps:=cx.map Dz;let code:cH->Nat:=λy=>(ps.take y.file.toNat).sum+y.bq.toNat
 have eb:∀y,y∈σ.ring->0<=y.file/\0<=y.bq/\∃k,ps[y.file.toNat]? =some k/\y.bq.toNat<k:=λy an=>by have:=(h.ring y an).2;rw[aB]at this;obtain⟨h1,aa,n,av,aO⟩:=Yh this;exact⟨h1,aa,Dz n,by simp[ps,av],aO⟩
 have:=w1 (n:=uZ cx) (l:=σ.ring.map code) (List.pairwise_map.2 (List.Pairwise.imp_of_mem (λ{a b} aU af aj e=>by
  obtain⟨aQ,a2,amA,a3,a4⟩:=eb a aU;obtain⟨fj,eS,amB,fY,iN⟩:=eb b af;have JB:=JZ a3;have Rl:=JZ fY;have e:(ps.take a.file.toNat).sum+a.bq.toNat=(ps.take b.file.toNat).sum+b.bq.toNat:=e
  have zq:a.file.toNat=b.file.toNat:=by
   by_cases bc:a.file.toNat<b.file.toNat
   ·have:=JY (l:=ps) (i:=a.file.toNat+1) (j:=b.file.toNat) (by omega);omega
   ·by_cases bW:b.file.toNat<a.file.toNat
    ·have:=JY (l:=ps) (i:=b.file.toNat+1) (j:=a.file.toNat) (by omega);omega
    ·omega
  rw[zq]at e
  exact aj ⟨by omega,by omega⟩) h.keys)) (λx ab=>by
  obtain⟨y,an,rfl⟩:=List.mem_map.1 ab;obtain⟨U0,am4,k,ak8,am5⟩:=eb y an;have s1:=JZ ak8;have s2:=ai5 ps (y.file.toNat+1);show(ps.take y.file.toNat).sum+y.bq.toNat<ps.sum
  omega)
 simpa using this
def D1(rows:List (List aH)) :Nat:=l6 (λL=>o2 L+pV L) rows
structure Quiet(c:cN)(rows:List (List aH)) :Prop where
 room:∀σ,Inv c σ (λ_=>0) (λ_=>0)->σ.ax.map (·.L)=rows->4<=σ.free
theorem quiet_of{c:cN}{rows:List (List aH)}{cx:List ir}{sec:Nat->Nat}(eU:∀s p,¬c.loose s p)(aB:c.hy=fileAt cx sec)(al:D1 rows+uZ cx+4<=c.n) :Quiet c rows:=⟨λσ h ah=>by
 have h1:=YJ h eU;have aa:=ahS h aB
 have av:l6 (λx:bD=>o2 x.L+pV x.L) σ.ax=D1 rows:=by unfold D1;rw[<-ah];simp[l6,Function.comp_def]
 omega⟩
theorem SC{c:cN}{dec:rk}{s p i:Nat}{σ aG:b0}(t:kK c dec s p i σ aG) :view c aG=view c σ:=by
 induction t with
 |nil=>rfl
 |idle _ _ _ i bI=>exact i.view.trans bI
 |make _ _ _ _ _ _ _ _ m bI=>exact m.view.trans bI
 |B3 _ _ _ _ _ _ _ _ d bI=>exact d.view.trans bI
theorem KM{c:cN}{σ:b0} :σ.ax.map (·.s)=(view c σ).map (·.1):=by simp[view,Function.comp_def]
theorem PH{l:List bD}(h:(l.map (·.s)).Nodup){x y:bD}(ab:x∈l)(an:y∈l)(e:x.s=y.s) :x=y:=by
 induction l with
 |nil=>cases ab
 |cons z l bI=>
  rw[List.map_cons,List.nodup_cons]at h;rcases List.mem_cons.1 ab with aw|h1<;>rcases List.mem_cons.1 an with aL|aa
  ·rw[aw,aL]
  ·exact absurd (List.mem_map.2 ⟨y,aa,by rw[<-e,aw]⟩) h.1
  ·exact absurd (List.mem_map.2 ⟨x,h1,by rw[e,aL]⟩) h.1
  ·exact bI h.2 h1 aa
theorem Xs{use:Int}{r:aH}{s:ba}{n sh st:Int}{m:Int}(aa:dx use r true s n≠2)(dy:st=3\/st=4\/st=5\/st=6\/st=7) :
  dx use r true (h4 r st m) sh=1\/(st=3/\dx use r true (h4 r st m) sh=6):=by
 have mh:kh r.perm use=true:=by
  cases aU:kh r.perm use with
  |true=>rfl
  |false=>
   exfalso;apply aa;unfold dx hQ;rw[if_pos (.inr aU)]
 unfold dx hQ;rw[if_neg (by rintro(h|h);cases h;rw[mh]at h;cases h)];rcases dy with rfl|dy
 ·have:h4 r 3 m=⟨true,false,false,false,m⟩:=by unfold h4;rw[if_pos rfl]
  rw[this];simp only[Bool.false_eq_true,if_false];rw[if_neg (by decide)];by_cases hu:use=2
  ·right;rw[if_neg (by rintro(h|h);exact h hu;cases h),if_neg (by rintro⟨h,_⟩;cases h)];exact⟨trivial,rfl⟩
  ·left;rw[if_pos (.inl hu)]
 ·have:h4 r st m=⟨true,qu r.perm 2, !qu r.perm 2,false,m⟩:=by
   unfold h4;rw[if_neg (by omega),if_pos dy]
  rw[this];simp only[Bool.false_eq_true,if_false];rw[if_neg (by decide)];left;by_cases hu:use=2
  ·have af:qu r.perm 2=true:=by
    unfold kh at mh;rw[if_neg (by omega),if_pos hu]at mh;exact mh
   rw[if_pos (.inr af)]
  ·rw[if_pos (.inl hu)]
theorem SB{c:cN}{use:Int}{s p i:Nat}{σ aG:b0}(t:kK c (dx use) s p i σ aG)(ay:Quiet c (σ.ax.map (·.L)))(hu:(σ.ax.map (·.s)).Nodup) :
  i=0\/∃x,x∈aG.ax/\x.s=s/\((i=1/\(cY (dx use) aG x p=1\/cY (dx use) aG x p=6))\/(i=2/\cY (dx use) aG x p=1)):=by
 induction t with
 |nil=>exact .inl rfl
 |idle t iQ Ny id bI=>
  rcases bI ay hu with h|⟨x,ab,au,h⟩
  ·exact .inl h
  ·refine .inr ⟨x,by rw[id.ax];exact ab,au,?_⟩;rename_i aT b_;have:cY (dx use) b_ x p=cY (dx use) aT x p:=by unfold cY mO;rw[id.held,id.bQ]
   rw[this];exact h
 |make t _ _ _ _ _ aB U _ bI=>
  have:=ay.room _ U (by rw[wB (c:=c),SC t,<-wB]);omega
 |B3 t U ab iV ah h1 aa aB uS bI=>
  rename_i i aT b_ x r;right;have oW:(aT.ax.map (·.s)).Nodup:=by rw[KM (c:=c),SC t,<-KM];exact hu
  obtain⟨a,b,aK,n,st,gO,qJ,he,al,dy⟩:=uS.ent;have ao:cY (dx use) aT x p=dx use r true (x.T.ent p) (mO aT (x.T.ent p)):=by unfold cY;rw[ah];rfl
  have m':({x with T:=aK} :bD)∈b_.ax:=by rw[qJ];simp
  have gn:cY (dx use) aT x p=1\/cY (dx use) aT x p=2\/cY (dx use) aT x p=3\/cY (dx use) aT x p=4\/cY (dx use) aT x p=5\/cY (dx use) aT x p=6\/cY (dx use) aT x p=7:=(wZ use).all _ _ _ _;have abr:st=3\/st=4\/st=5\/st=6\/st=7:=by omega
  have j6:=Xs (m:=(n:Int)) (sh:=mO b_ (aK.ent p)) (by rw[<-ao];exact aa) abr
  have GQ:cY (dx use) b_ {x with T:=aK} p=dx use r true (h4 r st n) (mO b_ (aK.ent p)):=by unfold cY;show dx use ((bO x.L p).getD aH.zero) (bO x.L p).isSome (aK.ent p) _=_;rw[ah,he,e3];rfl
  refine⟨_,m',iV,?_⟩;rw[GQ];rcases bI ay hu with rfl|⟨y,an,zZ,abW⟩
  ·exact .inl ⟨rfl,j6.imp id And.right⟩
  ·have C6:y=x:=PH oW an ab (zZ.trans iV.symm);subst C6;rcases abW with⟨rfl,h|h⟩ |⟨_,h⟩
   ·exact absurd h h1
   ·refine .inr ⟨rfl,?_⟩;rcases j6 with av|⟨av,_⟩
    ·exact av
    ·exfalso;omega
   ·exact absurd h h1
theorem aj_{c:cN}{dec:rk}{s p i:Nat}{σ aG:b0}(t:kK c dec s p i σ aG) :i=0->aG.free=σ.free/\aG.ax=σ.ax/\aG.held=σ.held/\aG.used=σ.used:=by
 induction t with
 |nil=>exact λ_=>⟨rfl,rfl,rfl,rfl⟩
 |idle _ _ _ i bI=>exact λh=>by have:=bI h;exact⟨i.free.trans this.1,i.ax.trans this.2.1,i.held.trans this.2.2.1,i.used.trans this.2.2.2⟩
 |make=>exact λh=>absurd h (by omega)
 |B3=>exact λh=>absurd h (by omega)
def ke(L:List aH)(p:Nat)(use:Int) :Prop:=∃r,bO L p=some r/\kh r.perm use=true
theorem Xr{use:Int}{r:aH}{s:ba}{n:Int} :dx use r true s n=2↔kh r.perm use=false:=by
 constructor
 ·intro h;cases aU:kh r.perm use with
  |false=>rfl
  |true=>
   exfalso;revert h;unfold dx hQ;rw[if_neg (by rintro(h|h);cases h;rw[aU]at h;cases h)];split
   ·decide
   split
   ·split<;>decide
   split
   ·decide
   split<;>decide
 ·intro h;unfold dx hQ;rw[if_pos (.inr h)]
theorem Mg{use:Int}{σ:b0}{x:bD}{p:Nat} :cY (dx use) σ x p=2↔¬ke x.L p use:=by
 unfold cY ke;cases ah:bO x.L p with
 |none=>
  constructor
  ·rintro _ ⟨r,h,_⟩;cases h
  ·intro _;exact(wZ use).no _ _ _
 |some r=>
  show dx use r true _ _=2↔_;rw[Xr];constructor
  ·rintro h ⟨b9,e,bg⟩;rw[<-Option.some.inj e,h]at bg;cases bg
  ·intro h;cases aU:kh r.perm use with
   |false=>rfl
   |true=>exact absurd ⟨r,rfl,aU⟩ h
section
variable{h g:ag}{X:dQ}{c:cN}{ρ a8:Nat->Nat}{σ aG:b0}
theorem Good.ids(k:Good h X c ρ σ (λ_=>0) (λ_=>0)) :(σ.ax.map (·.s)).Nodup:=List.pairwise_map.2 (k.sys.pY.imp λh=>h.1)
def mM(p m:Nat)(f:Nat->Option Nat) :Nat->Option Nat:=λr=>if r=p then some m else f r
theorem ako(k:Good h X c ρ σ (λ_=>0) (λ_=>0)){x:bD}(ab:x∈σ.ax){p i:Nat}{use:Int}{aT b_:b0}{bB:bD}{c3:Nat->Nat}(us:Used h X c ρ σ x p (dx use) g i aT bB c3)(ao:cY (dx use) aT bB p=1){m fE:Nat}(hm:cont c aT bB p=some m)(aai:(b_.ax.map (·.s)).Nodup)(dO:b_.ax=aT.ax)
  (tM:∀y q,y∈aT.ax->(y≠bB\/q≠p)->cont c b_ y q=cont c aT y q) (qH:cont c b_ bB p=some fE) :
  ke x.L p use/\cont c σ x p=some m/\view c b_=yE x.s (mM p fE) (view c σ)/\bB∈b_.ax/\bB.s=x.s/\(bB.T.ent p).here=true:=by
 have mh:ke x.L p use:=by
  rw[<-us.L];by_cases h:ke bB.L p use
  ·exact h
  ·have:=(Mg (σ:=aT)).2 h;omega
 have rV:cont c σ x p=some m:=by
  have h1:(bB.s,bB.L,cont c aT bB)∈view c σ:=by rw[<-us.view];exact List.mem_map.2 ⟨bB,us.mem,rfl⟩
  obtain⟨y,an,e⟩:=List.mem_map.1 h1;simp only[Prod.mk.injEq]at e;have:y=x:=k.pY an ab (e.1.trans us.s);subst this;rw[e.2.2];exact hm
 have KZ:bB∈b_.ax:=by rw[dO];exact us.mem
 have aC:(bB.T.ent p).here=true:=by
  unfold cY at ao;cases ah:bO bB.L p with
  |none=>rw[ah]at ao;have:=(wZ use).no (Option.getD none aH.zero) (bB.T.ent p) (mO aT (bB.T.ent p));rw[show dx use (Option.getD none aH.zero) (Option.isSome (none:Option aH)) _ _=2 from this]at ao;cases ao
  |some r=>rw[ah]at ao;exact(wZ use).d1 _ _ _ ao
 refine⟨mh,rV,?_,KZ,us.s,aC⟩;have acu:(aT.ax.map (·.s)).Nodup:=by rw[<-dO];exact aai
 have ae:view c b_=yE bB.s (mM p fE) (view c aT):=by
  unfold view yE;rw[dO,List.map_map];refine List.map_congr_left λy an=> ?_
  simp only[Function.comp];by_cases e:y=bB
  ·subst e;rw[if_pos rfl];congr 2;funext q;unfold mM;by_cases ay:q=p
   ·rw[if_pos ay,ay];exact qH
   ·rw[if_neg ay];exact tM y q an (.inr ay)
  ·rw[if_neg λcR=>e (PH acu an us.mem cR)];rw[show cont c b_ y=cont c aT y from funext λq=>tM y q an (.inl e)]
 rw[ae,us.s,us.view]
theorem akr(k:Good h X c ρ σ (λ_=>0) (λ_=>0))(ay:Quiet c (σ.ax.map (·.L))){x:bD}(ab:x∈σ.ax){addr:Nat}(aU:addr<9223372036854775808)(use:Int){b:Nat}(af:b<256) :
  bN (call ai PV (.func 33 [] []) [.ptr x.s 0,.int .i64 addr,.int .i64 use,.int .u8 b] h) λv g=>bG ρ h g/\∃b_ ek,(∀i,i<h.next->ek i=ρ i)/\Good g X c ek b_ (λ_=>0) (λ_=>0)/\
   ((¬ke x.L (addr/64) use/\v=.tuple [.int .u8 0,.int .i64 19]/\b_.free=σ.free/\view c b_=view c σ)\/
    (ke x.L (addr/64) use/\∃m fE,cont c σ x (addr/64)=some m/\fE=(if use=2 then dq m (addr%64) 1 b else m)/\v=.tuple [.int .u8 (bT fE (addr%64) 1:Nat),.int .i64 0]/\
      view c b_=yE x.s (mM (addr/64) fE) (view c σ)/\∃kG,kG∈b_.ax/\kG.s=x.s/\(kG.T.ent (addr/64)).here=true)):=by
 refine bN.mono (akq k ab aU use af) ?_;rintro v g ⟨w,i,aT,bB,c3,us,aA⟩;refine⟨w,?_⟩;have en:ke bB.L (addr/64) use↔ke x.L (addr/64) use:=by rw[us.L]
 rcases aA with⟨rfl,ao,a'⟩ |⟨rfl,mh,ao,a'⟩ |⟨ao,m,b_,hm,bR,dO,eT,ams,xE,tM,qH,rfl⟩
 ·refine⟨aT,c3,us.ro,a',.inl ⟨λh=>(Mg.1 ao) (en.2 h),rfl,?_,us.view⟩⟩;have:=SB us.c7 ay k.ids;rcases this with h0|⟨y,an,zZ,h⟩
  ·exact(aj_ us.c7 h0).1
  ·exfalso;have:y=bB:=a'.pY an us.mem (zZ.trans us.s.symm);subst this;omega
 ·exfalso;rcases SB us.c7 ay k.ids with h0|⟨y,an,zZ,h⟩
  ·rcases ao with h1|⟨h1,_⟩
   ·omega
   ·have:=ay.room aT a'.inv (by rw[wB (c:=c),us.view,<-wB]);omega
  ·rcases ao with h1|⟨h1,_⟩
   ·omega
   ·have:=ay.room aT a'.inv (by rw[wB (c:=c),us.view,<-wB]);omega
 ·obtain⟨mh,rV,ae,KZ,iV,aC⟩:=ako k ab us ao hm bR.ids dO tM qH;exact⟨b_,c3,us.ro,bR,.inr ⟨mh,m,_,rV,rfl,rfl,ae,bB,KZ,iV,aC⟩⟩
end
end
section
structure lM where
 pid:Int
 par:Int
 st:Int
 code:Int
def lM.vs(p:lM) :List J:=[.int .i64 p.pid,.int .i64 p.par,.int .i64 p.st,.int .i64 p.code]
structure oB where
 pid:Int
 m:Nat
 s:Nat
 heap:Int
 cy:Int
structure eB where
 k:Nat
 t:Nat
 pm:Nat
 own:Nat
 ps:List lM
 ms:List oB
def eB.fK(K:eB) :List Nat:=K.k::K.t::K.pm::K.own::K.ms.map (·.m)
def mD(l:List lM)(p:Int) :Option lM:=l.find? λx=>decide (x.pid=p)
def H6(l:List oB)(p:Int) :Option oB:=l.find? λx=>decide (x.pid=p)
theorem Pg(p:Int) :∀l:List lM,oZ (l.map λx=>(x.pid,J.agg x.vs)) p=(mD l p).map λx=>J.agg x.vs
 |[]=>rfl
 |x::l=>by
  show(if x.pid=p then _ else _)=_;unfold mD;rw[List.find?_cons];by_cases h:x.pid=p
  ·rw[if_pos h,decide_eq_true h];rfl
  ·rw[if_neg h,decide_eq_false h];exact Pg p l
theorem Pf(p:Int) :∀l:List oB,oZ (l.map λx=>(x.pid,J.ptr x.m 0)) p=(H6 l p).map λx=>J.ptr x.m 0
 |[]=>rfl
 |x::l=>by
  show(if x.pid=p then _ else _)=_;unfold H6;rw[List.find?_cons];by_cases h:x.pid=p
  ·rw[if_pos h,decide_eq_true h];rfl
  ·rw[if_neg h,decide_eq_false h];exact Pf p l
structure nH(h:ag)(X:dQ)(ρ:Nat->Nat)(K:eB) :Prop where
 Ag:a6.Obj h K.k [.ptr X.F.f 0,.ptr X.M 0,.ptr K.t 0,.map K.own]
 am':a6.Obj h K.t [.map K.pm]
 pm:pq h K.pm (K.ps.map λp=>(p.pid,.agg p.vs))
 og:pq h K.own (K.ms.map λm=>(m.pid,.ptr m.m 0))
 jJ:∀m,m∈K.ms->a6.Obj h m.m [.ptr m.s 0,.int .i64 m.heap,.int .i64 m.cy]
 aZ:K.fK.Nodup
 lt:∀b,b∈K.fK->b<h.next/\ρ b=0
theorem eB.xQ{K:eB}{m:oB}(hm:m∈K.ms) :m.m∈K.fK:=by unfold eB.fK;simp;exact .inr (.inr (.inr (.inr ⟨m,hm,rfl⟩)))
theorem eB.HW(K:eB) :K.k∈K.fK/\K.t∈K.fK/\K.pm∈K.fK/\K.own∈K.fK:=by unfold eB.fK;simp
section
variable{h g:ag}{X:dQ}{c:cN}{ρ a8:Nat->Nat}{σ aG:b0}{K:eB}
theorem nH.aq(k:nH h X ρ K){S:Nat->Prop}(u:aF S h g)(au:∀b,b∈K.fK->¬S b)(ah:∀i,i<h.next->a8 i=ρ i) :nH g X a8 K:=by
 obtain⟨cA,cM,dt,dK⟩:=K.HW
 exact⟨k.Ag.aq u (k.lt _ cA).1 (au _ cA),k.am'.aq u (k.lt _ cM).1 (au _ cM),k.pm.aq u (k.lt _ dt).1 (au _ dt),k.og.aq u (k.lt _ dK).1 (au _ dK),
  λm hm=>(k.jJ m hm).aq u (k.lt _ (eB.xQ hm)).1 (au _ (eB.xQ hm)),k.aZ,λb af=>⟨Nat.lt_of_lt_of_le (k.lt b af).1 u.next,by rw[ah b (k.lt b af).1];exact(k.lt b af).2⟩⟩
theorem nH.sys(k:nH h X ρ K)(u:bG ρ h g)(ah:∀i,i<h.next->a8 i=ρ i) :nH g X a8 K:=k.aq u (λb af e=>e (k.lt b af).2) ah
theorem nH.ext(k:nH h X ρ K)(u:aX h g) :nH g X ρ K:=k.aq u (λ_ _ e=>e) λ_ _=>rfl
def jx(ρ:Nat->Nat)(K:eB)(h g:ag) :Prop:=aF (λi=>ρ i≠0\/i∈K.fK) h g
theorem jx.sys(u:bG ρ h g) :jx ρ K h g:=u.mono λ_ _ e=>.inl e
theorem jx.ext(u:aX h g) :jx ρ K h g:=aF.ext u
theorem jx.trans{a b c:ag}{hd:eB}(x:jx ρ K a b)(y:jx a8 hd b c)(ah:∀i,i<a.next->a8 i=ρ i)(aj:∀i,i<a.next->i∈hd.fK->i∈K.fK) :jx ρ K a c:=
 aF.local x y λi U e=>e.elim (λe=>.inl (by rw[<-ah i U];exact e)) λe=>.inr (aj i U e)
structure gj(h:ag)(X:dQ)(c:cN)(ρ:Nat->Nat)(K:eB)(σ:b0) :Prop where
 hh:Good h X c ρ σ (λ_=>0) (λ_=>0)
 eN:nH h X ρ K
theorem gj.ca(k:gj h X c ρ K σ){S:Nat->Prop}(u:aF S h g)(au:∀i,S i->i<h.next->ρ i=0/\i∉K.fK) :gj g X c ρ K σ:=
 ⟨k.hh.ca u λi e U=>(au i e U).1,k.eN.aq u (λb af e=>(au b e (k.eN.lt b af).1).2 af) λ_ _=>rfl⟩
theorem gj.ext(k:gj h X c ρ K σ)(u:aX h g) :gj g X c ρ K σ:=⟨k.hh.ext u,k.eN.ext u⟩
structure oy where
 op:Int
 pid:Int
 at_:Int
 n:Int
 perm:Int
 nl:Nat
 nn:Nat
 args:J
 env:J
 bits:Int
 JB:dT args=true
 se:dT env=true
def oy.vs(c:oy) :List J:=[.int .i64 c.op,.int .i64 c.pid,.int .i64 c.at_,.int .i64 c.n,.int .i64 c.perm,.str c.nl c.nn,c.args,c.env,.int .u64 c.bits]
abbrev q8(e n b:Int) :J:=.agg [.int .i64 e,.int .i64 n,.int .u64 b]
def yK(h:ag)(X:dQ)(c:cN)(ρ:Nat->Nat)(K:eB)(R:Int->Int->Int->eB->b0->Prop)(v:J)(g:ag) :Prop:=
 jx ρ K h g/\∃e n b,v=q8 e n b/\∃a8 hd aG,(∀i,i<h.next->a8 i=ρ i)/\(∀i,i<h.next->i∈hd.fK->i∈K.fK)/\gj g X c a8 hd aG/\R e n b hd aG
variable{PV:cw} [db PV]
theorem Dr(h:ag)(e:Int) :bN (call ai PV (.func 118 [] []) [.int .i64 e] h) λv g=>v=q8 e 0 0/\aX h g:=by
 refine cF ac3 rfl ?_;refine b1 v_ λg1 bU dF aW=> ?_
 refine cD (show dW ai 71 [(0,.int .i64 e)]=some (q8 e 0 0)by kernel_rfl) ?_;refine cb (pf (k:=0) (cs:=[.int .i64 e,.int .i64 0,.int .u64 0]) bU rfl (by simp) rfl) λg2 ⟨cc,a_,dS⟩=> ?_
 have cc:=dC cc rfl;rw[we cc (by simp)];simp only[ak];exact aJ.pure ⟨rfl,aW.local a_ λi U e=>by omega⟩
theorem agU{T P:Nat}{ps:List lM}(o:a6.Obj h T [.map P])(m:pq h P (ps.map λp=>(p.pid,.agg p.vs)))(hz:T<h.next)(nP:P<h.next)(pid:Int) :
  bN (call ai PV (.func 120 [] []) [.ptr T 0,.int .i64 pid] h) λv g=>v=.tuple [.agg ((mD ps pid).elim [.int .i64 0,.int .i64 0,.int .i64 0,.int .i64 0] lM.vs),.bool (mD ps pid).isSome]/\aX h g:=by
 refine cF ac5 rfl ?_;refine b1 JX λg1 bU dF aW=> ?_
 simp only[ajX,ak,a1,Bool.false_eq_true,if_false,b2,ajz,ajN,(o.ext aW hz).get (i:=0) rfl,Pe 263 (z:=.agg [.int .i64 0,.int .i64 0,.int .i64 0,.int .i64 0]) (m.aq aW nP (λe=>e)) pid true,cond_true,Pg,fM,List.getElem?_cons_zero,List.getElem?_cons_succ];have aw:((mD ps pid).map λx=>J.agg x.vs).getD (.agg [.int .i64 0,.int .i64 0,.int .i64 0,.int .i64 0])=.agg ((mD ps pid).elim [.int .i64 0,.int .i64 0,.int .i64 0,.int .i64 0] lM.vs):=by cases mD ps pid<;>rfl
 have aL:((mD ps pid).map λx=>J.agg x.vs).isSome=(mD ps pid).isSome:=by cases mD ps pid<;>rfl
 have bo:((mD ps pid).elim [.int .i64 0,.int .i64 0,.int .i64 0,.int .i64 0] lM.vs).length=4/\((mD ps pid).elim [.int .i64 0,.int .i64 0,.int .i64 0,.int .i64 0] lM.vs).all dT=true:=by cases mD ps pid<;>exact⟨rfl,rfl⟩
 rw[aw,aL];generalize (mD ps pid).elim [.int .i64 0,.int .i64 0,.int .i64 0,.int .i64 0] lM.vs=QF at bo;refine b1 JX λg2 cc dS a_=> ?_
 refine cb (Kn (k:=0) (cs:=QF) cc bo.1 (by rw[bo.1];simp) bo.2) λg3 ⟨b8,bw,eH⟩=> ?_
 have b8:=dC b8 bo.1;rw[Sm b8 (by rw[bo.1];simp)];simp only[ak,List.drop_zero];rw[List.take_of_length_le (by rw[bo.1];simp)];have hl:=(bU.ext a_ (by omega)).aq bw (by omega) (λe=>by omega);refine cb (Kn (k:=0) (cs:=QF) hl bo.1 (by rw[bo.1];simp) bo.2) λg4 ⟨c5,bA,gb⟩=> ?_
 have c5:=dC c5 bo.1;rw[Sm c5 (by rw[bo.1];simp)];simp only[ak,List.drop_zero];rw[List.take_of_length_le (by rw[bo.1];simp)];exact aJ.pure ⟨rfl,((aW.trans a_).local bw λi U e=>by omega).local bA λi U e=>by omega⟩
def IX(op:Int) :Option Nat:=if op=1 then some 188 else if op=2 then some 189 else if op=3 then some 190 else if op=4 then some 191 else if op=5\/op=6 then some 192 else if op=7 then some 193 else if op=8 then some 194 else if op=9 then some 195 else if op=10\/op=11 then some 196 else none
theorem ago(h:ag)(a:J)(op:Int) :bN (call ai PV (.func 119 [] []) [a,.int .i64 op] h) λv g=>g=h/\v=(IX op).elim .nilFunc λf=>.func f [a] []:=by
 refine cF ac4 rfl ?_;unfold IX;simp only[c2,ak,a1];by_cases h1:op=1
 ·subst h1;exact aJ.pure ⟨rfl,rfl⟩
 by_cases aa:op=2
 ·subst aa;exact aJ.pure ⟨rfl,rfl⟩
 by_cases av:op=3
 ·subst av;exact aJ.pure ⟨rfl,rfl⟩
 by_cases aO:op=4
 ·subst aO;exact aJ.pure ⟨rfl,rfl⟩
 by_cases bb:op=5
 ·subst bb;exact aJ.pure ⟨rfl,rfl⟩
 by_cases cp:op=6
 ·subst cp;exact aJ.pure ⟨rfl,rfl⟩
 by_cases gC:op=7
 ·subst gC;exact aJ.pure ⟨rfl,rfl⟩
 by_cases dR:op=8
 ·subst dR;exact aJ.pure ⟨rfl,rfl⟩
 by_cases kr:op=9
 ·subst kr;exact aJ.pure ⟨rfl,rfl⟩
 by_cases lp:op=10
 ·subst lp;exact aJ.pure ⟨rfl,rfl⟩
 by_cases Cn:op=11
 ·subst Cn;exact aJ.pure ⟨rfl,rfl⟩
 simp only[h1,aa,av,aO,bb,cp,gC,dR,kr,lp,Cn,decide_false,Bool.false_eq_true,if_false,or_self,cO,bn,bd,hf];exact aJ.pure ⟨rfl,rfl⟩
theorem akU{Q:cW->List J->ag->Prop}{f:Nat->J}{l:List J}{z:List J}{o:Option ((Nat->J) ×bp)}{id:Nat}{h:ag}{K:J->ag->Option br}(e:o=some (f,.cells l.length false z (bj.ofList l)))
  (k:∀g,a6.Obj g id l->g.next=h.next->aF (λj=>j=id) h g->aJ (K (f id) g) Q) :aJ (jf o id h K) Q:=by
 rw[e];refine k _ ?_ rfl (aF.put _ rfl);have:=a6.Obj.new {h with next:=id} l false z;exact this.o6 (by rw[kR];exact(mf {h with next:=id} _).symm)
theorem XX(h:ag)(f:Nat)(a b:List J) :cV ai h .eql 220 (.func f a b) .nilFunc=some (.bool false):=by kernel_rfl
theorem Mk{f:Nat}{p:lM}{m:oB}(k:gj h X c ρ K σ)(b5:oy)(aB:IX b5.op=some f)(aD:mD K.ps b5.pid=some p)(au:p.st=1)(hm:H6 K.ms b5.pid=some m){R:Int->Int->Int->eB->b0->Prop}
  (w:∀g,gj g X c ρ K σ->bN (call ai PV (.func f [.ptr K.k 0] []) [.ptr m.m 0,.agg b5.vs] g) (yK g X c ρ K R)) :
  bN (call ai PV (.func 46 [] []) [.ptr K.k 0,.agg b5.vs] h) (yK h X c ρ K R):=by
 refine cF aeo rfl ?_;refine b1 (J1 (cs:=b5.vs) rfl) λg1 bU dF aW=> ?_
 refine b1 v_ λg2 cc dS a_=> ?_
 have hp:=aW.trans a_;have bR:=k.ext hp;have eA:=bU.ext a_ (by omega);simp only[Su,ak,a1,Bool.false_eq_true,if_false,Sb,b6,eA.get (i:=0) (v:=.int .i64 b5.op) rfl];refine bS (ago g2 _ b5.op) ?_;rintro _ g3 ⟨rfl,rfl⟩;rw[aB];have bC:aX g3 (g3.aV 13):=aF.aV _ _ _;have bY:=bR.ext bC;have hl:=eA.ext bC (by omega);simp only[Option.elim_some,b2,ajp,ak,Nat.zero_add,ajK,bY.eN.Ag.get (i:=2) rfl,Sc,b6,hl.get (i:=1) (v:=.int .i64 b5.pid) rfl];obtain⟨fj,eS,fY,iN⟩:=K.HW;refine bS (agU bY.eN.am' bY.eN.pm (bY.eN.lt _ eS).1 (bY.eN.lt _ fY).1 b5.pid) ?_;rintro _ g4 ⟨rfl,bA⟩;rw[aD];have xt:g3.next+13<=g4.next:=bA.next;simp only[Option.elim_some,Option.isSome_some,fM,List.getElem?_cons_zero,List.getElem?_cons_succ,ak];refine akU JX λg5 cS n5 bZ=> ?_
 refine cb (Kn (k:=0) (cs:=p.vs) cS rfl (by simp[lM.vs]) rfl) λg6 ⟨di,b3,n6⟩=> ?_
 have di:=dC di rfl;have Ky:aX h g6:=(((hp.trans bC).trans bA).local bZ λi U e=>by omega).local b3 λi U e=>by omega
 have nw:aX g6 (g6.aV 11):=aF.aV _ _ _;have ng:=k.ext (Ky.trans nw);have JU:¬(p.st≠1):=λe=>e au
 have vM:=(((hl.ext bA (by show h.next<g3.next+13;omega)).aq bZ (by omega) (λe=>by omega)).aq b3 (by omega) (λe=>by omega)).ext nw (by omega);have II:=((((cc.ext bC (by omega)).ext bA (by show g1.next<g3.next+13;omega)).aq bZ (by omega) (λe=>by omega)).aq b3 (by omega) (λe=>by omega)).ext nw (by omega);simp only[dh,XX,ak,a1,Bool.false_eq_true,if_false,fA,Bool.not_true,ajD,Nat.zero_add,b6,di.get (i:=2) (v:=.int .i64 p.st) rfl,dc,decide_eq_false JU,b2,ajq,ajL,ng.eN.Ag.get (i:=3) rfl,Sc,vM.get (i:=1) (v:=.int .i64 b5.pid) rfl,Pe 143 (z:=.nilPtr) ng.eN.og b5.pid false,cond_false,Pf,hm,Option.map_some,Option.getD_some];rw[ajQ vM (by simp[oy.vs])];simp only[ak];rw[show List.take 9 (List.drop 0 b5.vs)=b5.vs from rfl];refine bS (w _ ng) ?_;rintro _ g8 ⟨hV,e,n,b,rfl,a8,hd,aG,ah,aj,iW,Zd⟩;have NO:g6.next+11<=g8.next:=hV.next;have f1:ρ g1.next=0/\g1.next∉K.fK:=⟨k.hh.fresh (by omega),λe=>by have:=(k.eN.lt _ e).1;omega⟩;have IJ:=II.aq hV (by show g1.next<g6.next+11;omega) (λe=>e.elim (λe=>e f1.1) f1.2);refine cb (pf (k:=0) (cs:=[.int .i64 e,.int .i64 n,.int .u64 b]) IJ rfl (by simp) rfl) λg9 ⟨su,e2,n9⟩=> ?_
 have su:=dC su rfl;rw[we su (by simp)];simp only[dh,ak];have xu:=Ky.next;refine aJ.pure ⟨aF.local (aF.local (jx.ext (ρ:=ρ) (K:=K) (Ky.trans nw)) hV λi U e=>e) e2 λi U e=>by omega,e,n,b,rfl,a8,hd,aG,λi U=>ah i (by show i<g6.next+11;omega),λi U=>aj i (by show i<g6.next+11;omega),iW.ca e2 λi U ar=> ?_,Zd⟩;subst U;have:g1.next<(g6.aV 11).next:=by show g1.next<g6.next+11;omega
 exact⟨by rw[ah _ this];exact f1.1,λe=>f1.2 (aj _ this e)⟩
end
end
section
theorem Jh{N o i T:Nat} :dq (dq N o i (bT T 0 i)) (o+i) 1 (cC T i)=dq N o (i+1) (bT T 0 (i+1)):=by
 apply Nat.eq_of_testBit_eq;intro j;have af:cC T i<2^(8*1):=nJ T i;have aw:cC T i=bT T i 1:=hP T i;rw[pw af,pw (ky T 0 i),pw (ky T 0 (i+1)),mX,aw,mX,mX];by_cases h1:8*(o+i)<=j/\j<8*(o+i) +8*1
 ·rw[if_pos h1,if_pos (by omega)];simp only[show j-8*(o+i) <8*1 by omega,show j-8*o<8*(i+1)by omega,decide_true,Bool.true_and];congr 1;omega
 ·rw[if_neg h1];by_cases aa:8*o<=j/\j<8*o+8*i
  ·rw[if_pos aa,if_pos (by omega)];simp[show j-8*o<8*i by omega,show j-8*o<8*(i+1)by omega]
  ·rw[if_neg aa,if_neg (by omega)]
theorem QE{N o m:Nat} :dq N o 0 (bT m 0 0)=N:=by apply Nat.eq_of_testBit_eq;intro j;rw[pw (ky m 0 0),if_neg (by omega)]
theorem ag2{N w T:Nat}(gD:N<2^(8*w))(hz:T<2^(8*w)) :dq N 0 w T=T:=by
 apply Nat.eq_of_testBit_eq;intro j;rw[pw hz];by_cases h1:8*0<=j/\j<8*0+8*w
 ·rw[if_pos h1];rfl
 ·rw[if_neg h1];have:2^(8*w)<=2^j:=Nat.pow_le_pow_right (by decide) (by omega);rw[Nat.testBit_lt_two_pow (by omega),Nat.testBit_lt_two_pow (by omega)]
theorem DA{T w:Nat}(hz:T<2^(8*w)) :bT T 0 w=T:=by unfold bT;rw[Nat.mul_zero,Nat.pow_zero,Nat.div_one,Nat.mod_eq_of_lt hz]
theorem ahr{h:ag}{b w N i:Nat}{st:Bool}(af:h.get b=.bytes w st N)(U:i<w) :bE h b i=some (.int .u8 (cC N i:Nat)):=by unfold bE;rw[af];show(bif Nat.blt i w then _ else none)=_;rw[c4.2 U];rfl
section
variable{h g:ag}{X:dQ}{c:cN}{ρ a8:Nat->Nat}{σ aG:b0}{K:eB}{PV:cw} [db PV]
abbrev p':=List (Nat×List aH×(Nat->Option Nat))
theorem akE{a b:p'}{s:Nat}{L:List aH}{F:Nat->Option Nat}{G:(Nat->Option Nat)->Nat->Option Nat}(al:((a++(s,L,F)::b).map (·.1)).Nodup) :yE s G (a++(s,L,F)::b)=a++(s,L,G F)::b:=by
 have ne:∀q,q∈a++b->q.1≠s:=λq ay e=>by
  rw[List.map_append,List.map_cons]at al;rcases List.mem_append.1 ay with ay|ay
  ·exact(List.nodup_append.1 al).2.2 q.1 (List.mem_map_of_mem ay) s (by simp) e
  ·have:=(List.nodup_cons.1 (List.nodup_append.1 al).2.1).1;exact this (List.mem_map.2 ⟨q,ay,e⟩)
 have same:∀l:p',(∀q,q∈l->q.1≠s)->(l.map λq=>if q.1=s then(q.1,q.2.1,G q.2.2)else q)=l:=λl ar=>by
  conv=>rhs;rw[<-List.map_id l]
  exact List.map_congr_left λq ay=>if_neg (ar q ay)
 unfold yE;rw[List.map_append,List.map_cons,if_pos rfl,same a λq ay=>ne q (List.mem_append_left _ ay),same b λq ay=>ne q (List.mem_append_right _ ay)]
theorem gj.ids(k:gj h X c ρ K σ) :((view c σ).map (·.1)).Nodup:=by rw[<-KM];exact k.hh.ids
theorem gj.at(k:gj h X c ρ K σ){a b:p'}{s:Nat}{L:List aH}{F:Nat->Option Nat}(ae:view c σ=a++(s,L,F)::b) :∃x,x∈σ.ax/\x.s=s/\x.L=L/\cont c σ x=F:=by unfold view at ae;obtain⟨A,K_,au,rfl,mg⟩:=List.map_eq_append_iff.1 ae;obtain⟨x,B,rfl,ab,rfl⟩:=List.map_eq_cons_iff.1 mg;simp only[Prod.mk.injEq]at ab;exact⟨x,by rw[au];simp,ab.1,ab.2.1,ab.2.2⟩
theorem OP(k:gj h X c ρ K σ)(ay:Quiet c ((view c σ).map (·.2.1))){a b:p'}{s:Nat}{L:List aH}{F:Nat->Option Nat}(ae:view c σ=a++(s,L,F)::b){addr:Nat}(aU:addr<9223372036854775808)(use:Int){y:Nat}(an:y<256) :
  bN (call ai PV (.func 33 [] []) [.ptr s 0,.int .i64 addr,.int .i64 use,.int .u8 y] h) λv g=>bG ρ h g/\∃b_ ek,(∀i,i<h.next->ek i=ρ i)/\gj g X c ek K b_/\
   ((¬ke L (addr/64) use/\v=.tuple [.int .u8 0,.int .i64 19]/\view c b_=view c σ)\/
    (ke L (addr/64) use/\∃m,F (addr/64)=some m/\v=.tuple [.int .u8 (bT (if use=2 then dq m (addr%64) 1 y else m) (addr%64) 1:Nat),.int .i64 0]/\
      view c b_=a++(s,L,mM (addr/64) (if use=2 then dq m (addr%64) 1 y else m) F)::b)):=by
 obtain⟨x,ab,rfl,rfl,rfl⟩:=k.at ae;have al:=k.ids;rw[<-wB]at ay;refine bN.mono (akr k.hh ay ab aU use an) ?_;rintro v g ⟨w,b_,ek,ah,bR,⟨h1,aa,_,av⟩ |⟨h1,m,fE,aa,rfl,av,aO,_⟩⟩
 ·exact⟨w,b_,ek,ah,⟨bR,k.eN.sys w ah⟩,.inl ⟨h1,aa,av⟩⟩
 ·refine⟨w,b_,ek,ah,⟨bR,k.eN.sys w ah⟩,.inr ⟨h1,m,aa,av,?_⟩⟩;rw[aO,ae,akE (by rw[ae]at al;exact al)]
theorem W8(σ:b0){x:bD}{p:Nat}{use:Int}(h:ke x.L p use) :∃m,cont c σ x p=some m:=by obtain⟨r,ah,_⟩:=h;unfold cont;rw[ah];exact⟨_,rfl⟩
theorem akZ(hw:jV h){k:Nat}(aj:qT k){n:Nat}(al:n<2^(8*bM k)) :bN (call ai PV (.func 170 [] []) [.int .i64 k,.str (bM k) n] h) λv g=>g=h/\v=.tuple [.int .u64 n,.int .i64 0]:=by
 have pI:k<10:=by rcases aj with rfl|rfl|rfl|rfl<;>omega
 obtain⟨bV,kF⟩:=s7 (k:=k);refine cF O3 rfl ?_;have dI:¬((bM k:Nat) :Int)=0:=by omega
 have bc:¬((bM k:Nat) :Int)≠(bM k:Nat):=λe=>e rfl
 simp only[yG hw k pI,yF aj,c1,c2,decide_eq_false dI,ak,a1,Bool.false_eq_true,if_false,xO,dc,decide_eq_false bc];rw[show((0:Int))=((0:Nat) :Int)from rfl,M4 h (bM k) n (by omega) 0 (bM k) bV kF (by omega)];simp only[c1,fM,List.getElem?_cons_zero,List.getElem?_cons_succ,ak,DA al,L2 hw aj al];exact aJ.pure ⟨rfl,rfl⟩
theorem afe(w N:Nat) :lf ai 135 (.str w N)=some (λid=>.slice id 0 w w 1 false,.bytes w true N):=by kernel_rfl
def nz(use:Int)(m o w bits:Nat) :Nat:=if use=2 then dq m o w (bT bits 0 w)else m
def rf(use:Int)(m o w bits:Nat) :Nat:=if use=2 then bT bits 0 w else bT m o w
theorem akX{use:Int}{m o bits:Nat} :nz use m o 0 bits=m:=by
 unfold nz;split
 ·exact QE
 ·rfl
theorem yS(n o:Nat) :cC n o=bT n o 1:=hP n o
theorem FD{T o w i:Nat}(U:i<w) :cC (bT T o w) i=cC T (o+i):=by
 apply Nat.eq_of_testBit_eq;intro j;rw[yS,yS,mX,mX,mX];by_cases h:j<8*1
 ·simp only[h,show 8*i+j<8*w by omega,decide_true,Bool.true_and];congr 1;omega
 ·simp[h]
theorem akY{use:Int}{m o w i bits:Nat}(U:i<w){y:Nat}(an:use=2->y=cC bits i) :(if use=2 then dq (nz use m o i bits) (o+i) 1 y else nz use m o i bits)=nz use m o (i+1) bits/\
  bT (if use=2 then dq (nz use m o i bits) (o+i) 1 y else nz use m o i bits) (o+i) 1=cC (rf use m o w bits) i:=by
 unfold nz rf;by_cases h:use=2
 ·simp only[if_pos h,an h,Jh];refine⟨trivial,?_⟩;rw[FD U,Nat.zero_add,<-Jh,vL (nJ bits i)]
 ·simp only[if_neg h];refine⟨trivial,?_⟩;rw[FD U,yS]
theorem aif{p m n:Nat}{F:Nat->Option Nat} :mM p m (mM p n F)=mM p m F:=funext λr=>by unfold mM;by_cases h:r=p<;>simp[h]
theorem akp(k:gj h X c ρ K σ)(ay:Quiet c ((view c σ).map (·.2.1)))(b5:oy){m:oB}(hm:m∈K.ms){kd:Nat}(pJ:qT kd)(aD:b5.perm=kd){addr bits:Nat}(u9:b5.at_=addr)(aU:addr<2^62)(mh:addr%bM kd=0)(af:b5.bits=bits)(m4:bits<2^64)(mu:b5.op=5\/b5.op=6)
  {a b:p'} {L:List aH} {F:Nat->Option Nat} (ae:view c σ=a++(m.s,L,F)::b) {use:Int} (hu:use=if b5.op=6 then 2 else 1) :
  bN (call ai PV (.func 192 [.ptr K.k 0] []) [.ptr m.m 0,.agg b5.vs] h) (yK h X c ρ K λe n t hd aG=>hd=K/\n=0/\
   ((¬ke L (addr/64) use/\e=19/\t=0/\view c aG=view c σ)\/
    (ke L (addr/64) use/\e=0/\∃q,F (addr/64)=some q/\t=(if use=2 then(0:Int)else(((bT q (addr%64) (bM kd) :Nat)) :Int))/\
     view c aG=a++(m.s,L,mM (addr/64) (nz use q (addr%64) (bM kd) bits) F)::b))):=by
 have pI:kd<10:=by rcases pJ with rfl|rfl|rfl|rfl<;>omega
 obtain⟨bV,kF⟩:=s7 (k:=kd);have eb:addr%64+bM kd<=64:=by rcases pJ with rfl|rfl|rfl|rfl<;>simp only[bM]at* <;>simp at* <;>omega
 refine cF ady rfl ?_;refine b1 (J1 (cs:=b5.vs) rfl) λg1 bU dF aW=> ?_
 refine b1 v_ λg2 cc dS a_=> ?_
 have hp:=aW.trans a_;have bR:=k.ext hp;have Hz:jV g2:=bR.hh.ps.w;have eA:=bU.ext a_ (by omega);have dI:¬((bM kd:Nat) :Int)=0:=by omega
 have abb:((addr:Int)).tmod ((bM kd:Nat) :Int)=0:=by rw[show(addr:Int).tmod ((bM kd:Nat) :Int)=((addr%bM kd:Nat) :Int)from rfl,mh];rfl
 have z0:¬((0:Int)≠0):=λe=>e rfl
 simp only[J_,ak,Nat.zero_add,b6,eA.get (i:=4) (v:=.int .i64 b5.perm) rfl,aD,yG Hz kd pI,yF pJ,c1,c2,decide_eq_false dI,cJ,if_true,J9,eA.get (i:=2) (v:=.int .i64 b5.at_) rfl,u9,
  ti .i64 dI,abb,dc,decide_eq_false z0,cO,bn,bd,cB,Bool.false_eq_true,if_false,a1,Sb,eA.get (i:=0) (v:=.int .i64 b5.op) rfl]
 refine fV (P:=λy vs g=>y=.normal/\vs=[.int .i64 use]/\g=g2) ?_ ?_
 ·by_cases cp:b5.op=6
  ·rw[if_pos (by simpa using cp)];exact aJ.pure ⟨rfl,by rw[hu,if_pos cp],rfl⟩
  ·rw[if_neg (by simpa using cp)];exact aJ.pure ⟨rfl,by rw[hu,if_neg cp],rfl⟩
 rintro _ _ _ ⟨rfl,rfl,rfl⟩;rename_i g2;obtain⟨g3,Zy,bw⟩:=US (PV:=PV) Hz pJ m4;simp only[bn,bd,hf,J_,ak,Nat.zero_add,b6,eA.get (i:=4) (v:=.int .i64 b5.perm) rfl,aD,ajE,ED,eA.get (i:=8) (v:=.int .u64 b5.bits) rfl,af,Zy,c1];refine KW (afe _ _) λg4 GZ=> ?_
 have KA:aX g3 g4:=by rw[GZ];exact aF.new _ _ _
 have gb:g4.next=g3.next+1:=by rw[GZ];rfl
 have mg:g4.get g3.next=.bytes (bM kd) true (bT bits 0 (bM kd)):=by rw[GZ];exact mf _ _
 have r5:=bw.next;have jS:=(hp.trans bw).trans KA;have gR:=(eA.ext bw (by omega)).ext KA (by omega);have sr:=(cc.ext bw (by omega)).ext KA (by omega);simp only[OX,ak];let T:Nat->Nat:=λq=>rf use q (addr%64) (bM kd) bits
 let rl:=bT bits 0 (bM kd);have fr:∀i,h.next<=i->ρ i=0/\i∉K.fK:=λi U=>⟨k.hh.fresh U,λe=>by have:=(k.eN.lt _ e).1;omega⟩
 have dy:∀{i:Nat} {g:ag} {N:Nat},i<bM kd->g.get g3.next=.bytes (bM kd) true N->dJ ai g 5 (.ptr g3.next i)=some (.int .u8 (cC N i:Nat)):=λU af=>by rw[ajP];exact ahr af U
 by_cases zk:ke L (addr/64) use
 ·obtain⟨x,ab,iV,abO,abN⟩:=k.at ae;obtain⟨q,CP⟩:=W8 (c:=c) σ (x:=x) (p:=addr/64) (use:=use) (by rw[abO];exact zk);rw[abN]at CP
  refine gW (n:=14) (I:=λi vs g=>vs=[.int .i64 (i:Nat)]/\aF (λj=>ρ j≠0\/j=g3.next) g4 g/\g.get g3.next=.bytes (bM kd) true (dq rl 0 i (bT (T q) 0 i))/\∃aG a8,(∀j,j<g4.next->a8 j=ρ j)/\gj g X c a8 K aG/\view c aG=a++(m.s,L,if i=0 then F else mM (addr/64) (nz use q (addr%64) i bits) F)::b) (m:=bM kd)
   (P:=λy vs g=>y=.exit 0/\(∃z,vs=[z])/\aF (λj=>ρ j≠0\/j=g3.next) g4 g/\g.get g3.next=.bytes (bM kd) true (dq rl 0 (bM kd) (bT (T q) 0 (bM kd)))/\∃aG a8,(∀j,j<g4.next->a8 j=ρ j)/\gj g X c a8 K aG/\view c aG=a++(m.s,L,mM (addr/64) (nz use q (addr%64) (bM kd) bits) F)::b) (by omega)
   ⟨rfl,aF.refl _ _,by rw[mg,QE],σ,ρ,λ_ _=>rfl,k.ext jS,by rw[if_pos rfl];exact ae⟩ ?_ ?_
  ·rintro i _ g U ⟨rfl,u,pE,aT,c3,hB,a',iC⟩;simp only[bn,bd,cQ,ak,a1];by_cases ci:i<bM kd
   ·rw[if_pos (by simpa using(by omega:(i:Int) <(bM kd:Nat)))];have lu:=u.next;have jr:=gR.aq u (by omega) (λe=>e.elim (λe=>e (fr _ (Nat.le_refl _)).1) λe=>by omega);have bC:aX g (g.aV 16):=aF.aV _ _ _;have d_:=a'.ext bC;have pR:=jr.ext bC (by omega);have es:bF .i64 ((addr:Int) +(i:Int))=((addr+i:Nat) :Int):=by rw[wrap_i64 (by omega) (by omega)];omega
    have zo:(addr+i) /64=addr/64/\(addr+i) %64=addr%64+i:=by omega
    simp only[Dc i ci,ak,Nat.zero_add,dy ci pE,b2,Ep,uy,(d_.eN.jJ m hm).get (i:=0) rfl,J9,Nat.zero_add,b6,pR.get (i:=2) (v:=.int .i64 b5.at_) rfl,u9,cP,es];have abg:(view c aT).map (·.2.1)=(view c σ).map (·.2.1):=by rw[iC,ae];simp
    refine bS (OP d_ (by rw[abg];exact ay) iC (addr:=addr+i) (by omega) use (nJ _ i)) ?_;rintro _ g6 ⟨hr,b_,ek,mx,eG,⟨h1,_⟩ |⟨_,cv,aa,rfl,n0⟩⟩
    ·rw[zo.1]at h1;exact absurd zk h1
    rw[zo.1,zo.2]at*
    have nW:cv=nz use q (addr%64) i bits:=by
     by_cases h0:i=0
     ·subst h0;rw[if_pos rfl,CP]at aa;rw[akX];exact(Option.some.inj aa).symm
     ·rw[if_neg h0]at aa;unfold mM at aa;rw[if_pos rfl]at aa;exact(Option.some.inj aa).symm
    subst nW
    have an:use=2->cC (dq rl 0 i (bT (T q) 0 i)) i=cC bits i:=λaa=>by
     have hz:T q=rl:=by show rf use q _ _ _=_;unfold rf;rw[if_pos aa]
     rw[hz,yS,DB (ky _ _ _) (.inr (by omega)),<-yS];exact(FD ci).trans (by rw[Nat.zero_add])
    obtain⟨aw,aL⟩:=akY (use:=use) (m:=q) (o:=addr%64) (w:=bM kd) (i:=i) (bits:=bits) ci an;rw[aw]at n0
    have Zq:g6.get g3.next=.bytes (bM kd) true (dq rl 0 i (bT (T q) 0 i)):=by
     have h1:c3 g3.next=0:=by rw[hB _ (by omega)];exact(fr _ (by omega)).1
     rw[hr.get _ (by show g3.next<g.next+16;omega) (λe=>e h1)];exact pE
    have bo:bF .i64 ((i:Int) +1)=((i+1:Nat) :Int):=by rw[wrap_i64 (by omega) (by omega)];omega
    have E5:¬((0:Int)≠0):=λe=>e rfl
    have abK:g.next+16<=g6.next:=hr.next;simp only[fM,List.getElem?_cons_zero,List.getElem?_cons_succ,ak,dh,dc,decide_eq_false E5,a1,Bool.false_eq_true,if_false,Dc i ci,Nat.zero_add,aL,RP Zq ci (nJ _ i),cP,bo];have up:aF (λj=>j=g3.next) g6 (g6.put g3.next (.bytes (bM kd) true (dq (dq rl 0 i (bT (T q) 0 i)) i 1 (cC (rf use q (addr%64) (bM kd) bits) i)))):=aF.put _ rfl
    have pm:dq (dq rl 0 i (bT (T q) 0 i)) i 1 (cC (T q) i)=dq rl 0 (i+1) (bT (T q) 0 (i+1)):=by have:=Jh (N:=rl) (o:=0) (i:=i) (T:=T q);rwa[Nat.zero_add]at this
    refine aJ.pure (.inl ⟨rfl,ci,rfl,?_,?_,b_,ek,λj az=>(mx j (by show j<g.next+16;omega)).trans (hB j az),eG.ca up λj az ar=> ?_,?_⟩)
    ·refine aF.local (aF.local (u.trans (aF.ext bC)) hr λj az e=>.inl (by rw[<-hB j az];exact e)) up λj az e=>.inr e
    ·rw[kR];exact congrArg _ pm
    ·subst az;exact⟨by rw[mx _ (by show g3.next<g.next+16;omega),hB _ (by omega)];exact(fr _ (by omega)).1,(fr _ (by omega)).2⟩
    ·rw[if_neg (by omega),n0];by_cases h0:i=0
     ·rw[if_pos h0]
     ·rw[if_neg h0];rw[aif]
   ·rw[if_neg (by simpa using(by omega:((bM kd:Nat) :Int)<=(i:Int)))];obtain rfl:i=bM kd:=by omega
    exact aJ.pure (.inr ⟨by simp,rfl,⟨_,rfl⟩,u,pE,aT,c3,hB,a',by rw[iC,if_neg (by omega)]⟩)
  rintro _ _ g ⟨rfl,⟨z,rfl⟩,u,pE,aT,c3,hB,a',iC⟩
  have M':T q<2^(8*bM kd):=by show rf use q _ _ _<_;unfold rf;split<;>exact ky _ _ _
  rw[DA M',ag2 (ky _ _ _) M']at pE;have lu:=u.next;have jr:=gR.aq u (by omega) (λe=>e.elim (λe=>e (fr _ (Nat.le_refl _)).1) λe=>by omega);have ss:=sr.aq u (by omega) (λe=>e.elim (λe=>e (fr _ (by omega)).1) λe=>by omega)
  have nR:∀{bH:ag} {t:Int},aF (λj=>j=g1.next) g bH->t=(if use=2 then(0:Int)else(((bT q (addr%64) (bM kd) :Nat)) :Int))->yK h X c ρ K (λe n t hd aG=>hd=K/\n=0/\
   ((¬ke L (addr/64) use/\e=19/\t=0/\view c aG=view c σ)\/
    (ke L (addr/64) use/\e=0/\∃q,F (addr/64)=some q/\t=(if use=2 then(0:Int)else(((bT q (addr%64) (bM kd) :Nat)) :Int))/\
     view c aG=a++(m.s,L,mM (addr/64) (nz use q (addr%64) (bM kd) bits) F)::b))) (q8 0 0 t) bH:=λ{bH t} dD aN=>by
   refine⟨?_,0,0,t,rfl,c3,K,aT,λi U=>hB i (by omega),λ_ _ e=>e,a'.ca dD λj az ar=> ?_,rfl,rfl,.inr ⟨zk,rfl,q,CP,aN,iC⟩⟩
   ·refine aF.local (aF.local (jx.ext (ρ:=ρ) (K:=K) jS) u λi U e=>.inl (e.resolve_right (by omega))) dD λi U e=>by omega
   ·subst az;exact⟨by rw[hB _ (by omega)];exact(fr _ (by omega)).1,(fr _ (by omega)).2⟩
  simp only[bn,bd,fZ,if_true,c2,ak,a1];by_cases pO:use=2
  ·rw[if_pos (by simpa using pO)];simp only[show dW ai 71 []=some (q8 0 0 0)by kernel_rfl,ak];refine cb (pf (k:=0) (cs:=[.int .i64 0,.int .i64 0,.int .u64 0]) ss rfl (by simp) rfl) λg6 ⟨di,b3,n6⟩=> ?_
   have di:=dC di rfl;rw[we di (by simp)];simp only[ak];exact aJ.pure (nR b3 (by rw[if_pos pO]))
  ·rw[if_neg (by simpa using pO)];have hz:T q=bT q (addr%64) (bM kd):=by show rf use q _ _ _=_;unfold rf;rw[if_neg pO]
   rw[hz]at pE;simp only[J_,Nat.zero_add,ak,b6,jr.get (i:=4) (v:=.int .i64 b5.perm) rfl,aD,yY g pE bV (show 0+bM kd<=bM kd by omega)];have:bT (bT q (addr%64) (bM kd)) 0 (bM kd)=bT q (addr%64) (bM kd):=DA (ky _ _ _);rw[this];refine bS (akZ a'.hh.ps.w pJ (ky _ _ _)) ?_;rintro _ _ ⟨rfl,rfl⟩;rename_i g;simp only[fM,List.getElem?_cons_zero,List.getElem?_cons_succ,ak];rw[show dW ai 71 [(0,.int .i64 0),(2,.int .u64 ((bT q (addr%64) (bM kd) :Nat) :Int))]=some (q8 0 0 ((bT q (addr%64) (bM kd) :Nat) :Int))by kernel_rfl];simp only[ak];refine cb (pf (k:=0) (cs:=[.int .i64 0,.int .i64 0,.int .u64 _]) ss rfl (by simp) rfl) λg6 ⟨di,b3,n6⟩=> ?_
   have di:=dC di rfl;rw[we di (by simp)];simp only[ak];exact aJ.pure (nR b3 (by rw[if_neg pO]))
 ·refine gW (n:=14) (I:=λi vs g=>i=0/\vs=[.int .i64 (i:Nat)]/\g=g4) (m:=0)
   (P:=λy vs g=>y=.ret/\(∃z,vs=[z])/\a6.Obj g g1.next [.int .i64 19,.int .i64 0,.int .u64 0]/\jx ρ K h g/\∃aG a8,(∀j,j<h.next->a8 j=ρ j)/\gj g X c a8 K aG/\view c aG=view c σ) (by decide) ⟨rfl,rfl,rfl⟩ ?_ ?_
  ·rintro i _ _ U ⟨rfl,rfl,rfl⟩;rename_i g4;have bC:aX g4 (g4.aV 16):=aF.aV _ _ _;have d_:=(k.ext jS).ext bC;have pR:=gR.ext bC (by omega);have ci:0<bM kd:=by omega
   have es:bF .i64 ((addr:Int) +((0:Nat) :Int))=((addr:Nat) :Int):=by rw[wrap_i64 (by omega) (by omega)];omega
   simp only[bn,bd,cQ,ak,a1];rw[if_pos (by simpa using(by omega:(0:Int) <(bM kd:Nat)))];simp only[Dc 0 ci,ak,Nat.zero_add,dy ci mg,b2,Ep,uy,(d_.eN.jJ m hm).get (i:=0) rfl,J9,b6,pR.get (i:=2) (v:=.int .i64 b5.at_) rfl,u9,cP,es];refine bS (OP d_ ay ae (addr:=addr) (by omega) use (nJ _ 0)) ?_;rintro _ g6 ⟨hr,b_,ek,mx,eG,⟨_,rfl,n0⟩ |⟨h1,_⟩⟩
   ·have E5:(19:Int)≠0:=by decide
    simp only[fM,List.getElem?_cons_zero,List.getElem?_cons_succ,ak,dh,dc,decide_eq_true E5,a1,if_true];refine bS (Dr g6 19) ?_;rintro _ g7 ⟨rfl,dM⟩;have abK:g4.next+16<=g6.next:=hr.next;have II:=((sr.ext bC (by omega)).aq hr (by show g1.next<g4.next+16;omega) (λe=>e (fr _ (by omega)).1)).ext dM (by omega);refine cb (pf (k:=0) (cs:=[.int .i64 19,.int .i64 0,.int .u64 0]) II rfl (by simp) rfl) λg8 ⟨hG,u8,n8⟩=> ?_
    have hG:=dC hG rfl;refine aJ.pure (.inr ⟨by simp,rfl,⟨_,rfl⟩,hG,?_,b_,ek,λj az=>mx j (by show j<g4.next+16;omega),(eG.ext dM).ca u8 λj az ar=> ?_,n0⟩)
    ·refine aF.local (aF.local (aF.local (jx.ext (ρ:=ρ) (K:=K) (jS.trans bC)) hr λi U e=>.inl e) dM λi U e=>e.elim) u8 λi U e=>by omega
    ·subst az;exact⟨by rw[mx _ (by show g1.next<g4.next+16;omega)];exact(fr _ (by omega)).1,(fr _ (by omega)).2⟩
   ·exact absurd h1 zk
  rintro _ _ g ⟨rfl,⟨z,rfl⟩,hG,hV,b_,ek,mx,acv,n0⟩;simp only[bn,bd,qj];rw[we hG (by simp)];simp only[ak];exact aJ.pure ⟨hV,19,0,0,rfl,ek,K,b_,mx,λ_ _ e=>e,acv,rfl,rfl,.inl ⟨zk,rfl,rfl,n0⟩⟩
end
end
section
section
variable{h g:ag}{X:dQ}{c:cN}{ρ a8:Nat->Nat}{σ aG:b0}{K:eB}{PV:cw} [db PV]
theorem VO{L:List aH}(en:je L){r r0:aH}{p:Int}(ah:bO L p=some r)(hm:r0.may=true)(e:r.ew p=r0.ew p) :base c r p=base c r0 p:=by
 have aD:=DQ e (en.may r (mL ah).1) hm;unfold base;rw[aD.1,aD.2.1];by_cases aj:r.kind=1
 ·rw[if_pos aj,if_pos aj,aD.2.2 aj]
 ·rw[if_neg aj,if_neg aj]
theorem ae6(k:gj h X c ρ K σ)(eU:∀s p,¬c.loose s p){a b:p'}{s:Nat}{L:List aH}{F:Nat->Option Nat}(ae:view c σ=a++(s,L,F)::b)(r:aH) :
  bN (call ai PV (.func 31 [] []) [.ptr s 0,.agg r.vs] h) λv g=>bG ρ h g/\
   ((r.may=false/\v=.int .i64 1/\gj g X c ρ K σ)\/(r.may=true/\(∃y,y∈L/\meets r y=true)/\v=.int .i64 13/\gj g X c ρ K σ)\/
    (r.may=true/\(∀y,y∈L->meets r y=false)/\v=.int .i64 0/\∃aG a8,(∀i,i<h.next->a8 i=ρ i)/\gj g X c a8 K aG/\view c aG=a++(s,(fO r L).foldl c6 [],λp:Nat=>if r.has p then some (base c r p)else F p)::b)):=by
 unfold view at ae;obtain⟨A,K_,au,rfl,mg⟩:=List.map_eq_append_iff.1 ae;obtain⟨x,B,rfl,ab,rfl⟩:=List.map_eq_cons_iff.1 mg;simp only[Prod.mk.injEq]at ab;obtain⟨rfl,rfl,rfl⟩:=ab;have hD:x∈σ.ax:=by rw[au];simp
 have dY:=k.hh.inv.gI x hD;refine bN.mono (Pu k.hh eU au r) ?_;rintro v g ⟨w,⟨h1,aa,av⟩ |⟨h1,aa,av,aO⟩ |⟨h1,aa,av,K7,ah,c8⟩⟩
 ·exact⟨w,.inl ⟨h1,aa,⟨av,k.eN.sys w λ_ _=>rfl⟩⟩⟩
 ·exact⟨w,.inr (.inl ⟨h1,aa,av,⟨aO,k.eN.sys w λ_ _=>rfl⟩⟩)⟩
 ·refine⟨w,.inr (.inr ⟨h1,aa,av,_,K7,ah,⟨c8,k.eN.sys w ah⟩,?_⟩)⟩;obtain⟨cg,cK,_⟩:=Lm dY h1 aa;unfold view;simp only[List.map_append,List.map_cons];rw[show cont c {σ with ax:=A++{x with L:=(fO r x.L).foldl c6 []}::B} {x with L:=(fO r x.L).foldl c6 []}=λp:Nat=>if r.has p then some (base c r p)else cont c σ x p from ?_]
  ·rfl
  refine funext λp=> ?_
  have qJ:=cK p;by_cases aD:r.has p=true
  ·rw[if_pos aD]at qJ|-
   have al:bO x.L p=none:=by
    cases aB:bO x.L (p:Int)with
    |none=>rfl
    |some y=>
     exfalso;have bb:=mL aB;have cp:=aa y bb.1;unfold meets at cp;unfold aH.has at aD;simp only[decide_eq_true_eq,decide_eq_false_iff_not]at cp aD;omega
   have aI:x.T.ent p=.zero:=Classical.byContradiction λqG=>by
    rcases k.hh.inv.mc x p hD qG with gC|gC
    ·exact gC al
    ·exact eU _ _ gC
   cases aB:bO ((fO r x.L).foldl c6 []) (p:Int)with
   |none=>rw[p1.2 aB]at qJ;cases qJ
   |some b9=>
    rw[uk aB]at qJ;rw[L_ (x:={x with L:=(fO r x.L).foldl c6 []}) aI];unfold BJ;rw[aB];exact congrArg some (VO cg aB h1 (Option.some.inj qJ))
  ·rw[if_neg aD]at qJ|-;exact(Ma dY cg qJ).trans rfl
theorem aki(k:gj h X c ρ K σ)(eU:∀s p,¬c.loose s p){a b:p'}{s:Nat}{L:List aH}{F:Nat->Option Nat}(ae:view c σ=a++(s,L,F)::b){p q:Int}(aD:kj p)(ay:kj q)(amq:p<q) :
  bN (call ai PV (.func 220 [] []) [.ptr s 0,.int .i64 p,.int .i64 q] h) λv g=>bG ρ h g/\v=.int .i64 0/\∃aG a8,(∀i,i<h.next->a8 i=ρ i)/\gj g X c a8 K aG/\view c aG=a++(s,qd L p q,λr:Nat=>if p<=r/\(r:Int) <q then none else F r)::b:=by
 unfold view at ae;obtain⟨A,K_,au,rfl,mg⟩:=List.map_eq_append_iff.1 ae;obtain⟨x,B,rfl,ab,rfl⟩:=List.map_eq_cons_iff.1 mg;simp only[Prod.mk.injEq]at ab;obtain⟨rfl,rfl,rfl⟩:=ab;refine bN.mono (akh k.hh eU au aD ay) ?_;rintro v g ⟨w,⟨h1,_⟩ |⟨_,rfl,aG,aK,a8,ah,dg,KD⟩⟩
 ·omega
 refine⟨w,rfl,aG,a8,ah,⟨dg,k.eN.sys w ah⟩,?_⟩;unfold view;rw[KD.ax,List.map_append,List.map_cons]
 have aw:∀l:List bD,(∀y,y∈l->y∈A++B)->(l.map λx=>(x.s,x.L,cont c aG x))=l.map λx=>(x.s,x.L,cont c σ x):=λl ar=>List.map_congr_left λy an=>by rw[show cont c aG y=cont c σ y from funext λr=>KD.t' y r (ar y an)]
 rw[aw A (λy an=>List.mem_append_left _ an),aw B λy an=>List.mem_append_right _ an];rw[show cont c aG {x with L:=qd x.L p q,T:=aK}=_ from funext λr=>KD.own r]
theorem yR(b m:Nat){heap cy:Int}{s:Nat}(af:a6.Obj h b [.ptr m 0])(hm:a6.Obj h m [.ptr s 0,.int .i64 heap,.int .i64 cy])(n:Int) :
  bN (call ai PV (.func 274 [] [.ptr b 0]) [.int .i64 n] h) λv g=>g=h/\v=.int .i64 (bF .i64 (heap+n)):=by
 refine cF ad7 rfl ?_;simp only[sT,af.get (i:=0) rfl,ak,b2,ajn,Nat.zero_add,b6,hm.get (i:=1) rfl,cP];exact aJ.pure ⟨rfl,rfl⟩
def e8(a b:Int) :aH:=⟨a,b,6,3,-1,0⟩
theorem V'(a b:Int) :dW ai 47 [(0,.int .i64 a),(1,.int .i64 b),(2,.int .i64 6),(3,.int .i64 3),(4,.int .i64 (-1))]=some (.agg (e8 a b).vs):=by kernel_rfl
def eB.sK(K:eB)(m:Nat)(n:Int) :eB:={K with ms:=K.ms.map λx=>if x.m=m then{x with cy:=n}else x}
theorem eB.D'(K:eB)(m:Nat)(n:Int) :(K.sK m n).fK=K.fK:=by unfold eB.sK eB.fK;rw[List.map_map];congr 4;exact List.map_congr_left λx _=>by show(if x.m=m then _ else x:oB).m=x.m;split<;>rfl
theorem eB.afn{K:eB}(al:K.fK.Nodup) :(K.ms.map (·.m)).Nodup:=by unfold eB.fK at al;simp only[List.nodup_cons]at al;exact al.2.2.2.2
theorem PG{α β:Type}{f:α->β} :∀{l:List α},(l.map f).Nodup->∀{x y:α},x∈l->y∈l->f x=f y->x=y
 |[],_,_,_,ab,_,_=>by cases ab
 |z::l,al,x,y,ab,an,e=>by
  rw[List.map_cons,List.nodup_cons]at al;rcases List.mem_cons.1 ab with h1|h1
  ·rcases List.mem_cons.1 an with aa|aa
   ·rw[h1,aa]
   ·exact absurd (List.mem_map.2 ⟨y,aa,by rw[<-e,h1]⟩) al.1
  ·rcases List.mem_cons.1 an with aa|aa
   ·exact absurd (List.mem_map.2 ⟨x,h1,by rw[e,aa]⟩) al.1
   ·exact PG al.2 h1 aa e
theorem Lz(g:ag)(gs:List ag)(f:ag->Option J)(v:J)(k:Option br) :hZ (g::gs) f v k=match f g with|some w=>bif J.beq w v then hZ gs f v k else none|none=>none:=rfl
theorem nH.cy(k:nH h X ρ K){m:oB}(hm:m∈K.ms){n:Int}(o:a6.Obj g m.m [.ptr m.s 0,.int .i64 m.heap,.int .i64 n])(u:aF (λj=>j=m.m) h g) :nH g X ρ (K.sK m.m n):=by
 obtain⟨cA,cM,dt,dK⟩:=K.HW;have al:=k.aZ
 have Dy:∀{b:Nat},b∈[K.k,K.t,K.pm,K.own]->b≠m.m:=λ{b} af e=>by unfold eB.fK at al;rw[show K.k::K.t::K.pm::K.own::K.ms.map (·.m)=[K.k,K.t,K.pm,K.own]++K.ms.map (·.m)from rfl]at al;exact(List.nodup_append.1 al).2.2 b af m.m (List.mem_map_of_mem hm) e
 refine⟨k.Ag.aq u (k.lt _ cA).1 (Dy (by simp)),k.am'.aq u (k.lt _ cM).1 (Dy (by simp)),k.pm.aq u (k.lt _ dt).1 (Dy (by simp)),?_,λy an=> ?_,by rw[K.D'];exact k.aZ,λb af=>by rw[K.D']at af;exact⟨Nat.lt_of_lt_of_le (k.lt b af).1 u.next,(k.lt b af).2⟩⟩
 ·have:=k.og.aq u (k.lt _ dK).1 (Dy (by simp))
  have e:(K.sK m.m n).ms.map (λm=>(m.pid,J.ptr m.m 0))=K.ms.map λm=>(m.pid,J.ptr m.m 0):=by unfold eB.sK;rw[List.map_map];exact List.map_congr_left λx _=>by show((if x.m=m.m then _ else x:oB).pid,J.ptr (if x.m=m.m then _ else x:oB).m 0)=_;split<;>rfl
  rw[e];exact this
 ·obtain⟨x,ab,rfl⟩:=List.mem_map.1 an;by_cases e:x.m=m.m
  ·obtain rfl:=PG (eB.afn al) ab hm e;simp only[if_true];exact o
  ·simp only[if_neg e];exact(k.jJ x ab).aq u (k.lt _ (eB.xQ ab)).1 e
def uK(c:cN)(a b:p')(s:Nat)(L:List aH)(F:Nat->Option Nat)(heap cy n:Int) :p':=
 if cy<n then a++(s,(fO (e8 (heap+cy) (heap+n)) L).foldl c6 [],λp:Nat=>if(e8 (heap+cy) (heap+n)).has p then some 0 else F p)::b
 else if n<cy then a++(s,qd L (heap+n) (heap+cy),λr:Nat=>if heap+n<=r/\(r:Int) <heap+cy then none else F r)::b else a++(s,L,F)::b
theorem Wj(k:gj h X c ρ K σ)(eU:∀s p,¬c.loose s p)(b5:oy){m:oB}(hm:m∈K.ms)(aC:0<=m.heap/\m.heap<=4096)(zN:0<=m.cy/\m.cy<=32)
  {a b:p'} {L:List aH} {F:Nat->Option Nat} (ae:view c σ=a++(m.s,L,F)::b) :
  bN (call ai PV (.func 194 [.ptr K.k 0] []) [.ptr m.m 0,.agg b5.vs] h) (yK h X c ρ K λe n t hd aG=>t=0/\
   ((¬(0<=b5.n/\b5.n<=32)/\e=1/\n=0/\hd=K/\view c aG=view c σ)\/
    (0<=b5.n/\b5.n<=32/\m.cy<b5.n/\((e8 (m.heap+m.cy) (m.heap+b5.n)).may=false\/∃y,y∈L/\meets (e8 (m.heap+m.cy) (m.heap+b5.n)) y=true)/\e=13/\n=0/\hd=K/\view c aG=view c σ)\/
    (0<=b5.n/\b5.n<=32/\(m.cy<b5.n->(e8 (m.heap+m.cy) (m.heap+b5.n)).may=true/\∀y,y∈L->meets (e8 (m.heap+m.cy) (m.heap+b5.n)) y=false)/\e=0/\n=(m.heap+b5.n) *64/\hd=K.sK m.m b5.n/\view c aG=uK c a b m.s L F m.heap m.cy b5.n))):=by
 refine cF adz rfl ?_;refine b1 (ai6 (cs:=[.ptr m.m 0]) rfl) λg1 bU dF aW=> ?_
 refine b1 (J1 (cs:=b5.vs) rfl) λg2 cc dS a_=> ?_
 refine b1 v_ λg3 b8 eH bw=> ?_
 have ej:=(aW.trans a_).trans bw;have bY:=k.ext ej;have gG:=(bU.ext a_ (by omega)).ext bw (by omega);have fz:=cc.ext bw (by omega);have fr:∀i,h.next<=i->ρ i=0/\i∉K.fK:=λi U=>⟨k.hh.fresh U,λe=>by have:=(k.eN.lt _ e).1;omega⟩
 have qF:=k.eN.lt _ (eB.xQ hm)
 refine fV (P:=λy vs g=>vs=[]/\jx ρ K h g/\∃aT c3,(∀j,j<g3.next->c3 j=ρ j)/\gj g X c c3 K aT/\g3.next<=g.next/\
  ((y=.ret/\view c aT=view c σ/\∃e,a6.Obj g g2.next [.int .i64 e,.int .i64 0,.int .u64 0]/\((¬(0<=b5.n/\b5.n<=32)/\e=1)\/
    (0<=b5.n/\b5.n<=32/\m.cy<b5.n/\((e8 (m.heap+m.cy) (m.heap+b5.n)).may=false\/∃y,y∈L/\meets (e8 (m.heap+m.cy) (m.heap+b5.n)) y=true)/\e=13)))\/
   (y=.normal/\a6.Obj g h.next [.ptr m.m 0]/\a6.Obj g g1.next b5.vs/\a6.Obj g g2.next [.int .i64 0,.int .i64 0,.int .u64 0]/\0<=b5.n/\b5.n<=32/\
    (m.cy<b5.n->(e8 (m.heap+m.cy) (m.heap+b5.n)).may=true/\∀y,y∈L->meets (e8 (m.heap+m.cy) (m.heap+b5.n)) y=false)/\view c aT=uK c a b m.s L F m.heap m.cy b5.n))) ?_ ?_
 ·simp only[yq,ak,Nat.zero_add,b6,fz.get (i:=3) (v:=.int .i64 b5.n) rfl,cQ,cJ,hO];refine fV (P:=λy vs g=>g=g3/\((b5.n<0/\∃z,vs=[z])\/(¬b5.n<0/\vs=[.bool (decide (32<b5.n))]))) ?_ ?_
  ·by_cases dI:b5.n<0
   ·rw[if_neg (by rw[decide_eq_true dI];decide)];exact aJ.pure ⟨rfl,.inl ⟨dI,_,rfl⟩⟩
   ·rw[if_pos (decide_eq_false dI)];exact aJ.pure ⟨rfl,.inr ⟨dI,rfl⟩⟩
  rintro y vs _ ⟨rfl,hC⟩;rename_i g3
  have aI:∃z,vs=[z]/\iX (.bool (decide (b5.n<0))) (.bool true) z=some (.bool (decide (¬(0<=b5.n/\b5.n<=32)))):=by
   rcases hC with⟨dI,z,rfl⟩ |⟨dI,rfl⟩
   ·refine⟨z,rfl,?_⟩;rw[cB,decide_eq_true dI,decide_eq_true (by omega)];rfl
   ·refine⟨_,rfl,?_⟩;rw[cB,decide_eq_false dI];simp only[Bool.false_eq_true,if_false];congr 2;rw[Bool.eq_iff_iff];simp;omega
  obtain⟨z,rfl,aI⟩:=aI;simp only[bn,bd,aI,ak,a1];by_cases mb:¬(0<=b5.n/\b5.n<=32)
  ·rw[if_pos (decide_eq_true mb)];refine bS (Dr g3 1) ?_;rintro _ g4 ⟨rfl,bA⟩;refine cb (pf (k:=0) (cs:=[.int .i64 1,.int .i64 0,.int .u64 0]) (b8.ext bA (by omega)) rfl (by simp) rfl) λg5 ⟨cS,bZ,n5⟩=> ?_
   have cS:=dC cS rfl;have xt:=bA.next;refine aJ.pure ⟨rfl,(jx.ext (ρ:=ρ) (K:=K) (ej.trans bA)).local bZ λi U e=>by omega,σ,ρ,λ_ _=>rfl,(bY.ext bA).ca bZ λi e U=>by subst e;exact fr _ (by omega),by omega,.inl ⟨rfl,rfl,1,cS,.inl ⟨mb,rfl⟩⟩⟩
  rw[if_neg (by rw[decide_eq_false mb];decide)];replace mb:=Classical.not_not.1 mb;have nx:aX g3 (g3.aV 8):=aF.aV _ _ _;have xL:=bY.ext nx;have gh:=gG.ext nx (by omega);have gi:=fz.ext nx (by omega);simp only[yq,ak,Nat.zero_add,b6,gi.get (i:=3) (v:=.int .i64 b5.n) rfl,sT,gh.get (i:=0) rfl,b2,AZ,(xL.eN.jJ m hm).get (i:=2) rfl,hO,dh,a1];by_cases rD:m.cy<b5.n
  ·rw[if_pos (by simpa using rD)];have bC:aX g3 ((g3.aV 8).aV 17):=nx.trans (aF.aV _ _ _);have j7:=bY.ext bC;have cg:=gG.ext bC (by omega);have cK:=fz.ext bC (by omega);have dG:=b8.ext bC (by omega);have aw:bF .i64 (m.heap+m.cy)=m.heap+m.cy:=wrap_i64 (by omega) (by omega);have aL:bF .i64 (m.heap+b5.n)=m.heap+b5.n:=wrap_i64 (by omega) (by omega);simp only[sT,cg.get (i:=0) rfl,ak,b2,Ep,uy,Nat.zero_add,(j7.eN.jJ m hm).get (i:=0) rfl,AZ,b6,(j7.eN.jJ m hm).get (i:=2) rfl];refine bS (yR _ _ cg (j7.eN.jJ m hm) m.cy) ?_;rintro _ _ ⟨rfl,rfl⟩;simp only[yq,ak,Nat.zero_add,b6,cK.get (i:=3) (v:=.int .i64 b5.n) rfl];refine bS (yR _ _ cg (j7.eN.jJ m hm) b5.n) ?_;rintro _ _ ⟨rfl,rfl⟩;rw[aw,aL];simp only[V',ak];refine bS (ae6 j7 eU ae _) ?_;rintro v g5 ⟨fI,aA⟩;have abJ:g3.next+8+17<=g5.next:=fI.next;have hV:jx ρ K h g5:=aF.local (jx.ext (ρ:=ρ) (K:=K) (ej.trans bC)) fI λi U e=>.inl e
   have CQ:bE g5 m.m 0=some (.ptr m.s 0)/\bE g5 h.next 0=some (.ptr m.m 0):=⟨(((j7.eN.jJ m hm).aq fI (by show m.m<g3.next+8+17;have:=qF.1;have:=ej.next;omega) (λe=>e qF.2))).get (i:=0) rfl,(cg.aq fI (by show h.next<g3.next+8+17;omega) (λe=>e (fr _ (Nat.le_refl _)).1)).get (i:=0) rfl⟩;have pE:∀{g:ag},g=(g3.aV 8).aV 17->bE g g1.next 3=some (.int .i64 b5.n)/\bE g m.m 0=some (.ptr m.s 0)/\bE g h.next 0=some (.ptr m.m 0):=λe=>by subst e;exact⟨cK.get (i:=3) (v:=.int .i64 b5.n) rfl,(j7.eN.jJ m hm).get (i:=0) rfl,cg.get (i:=0) rfl⟩
   obtain⟨bc,bW,dA⟩:=pE rfl;simp only[Lz,dh,b6,uy,sT,bc,bW,dA,J.beq_refl,cond_true];have hH:=dG.aq fI (by show g2.next<g3.next+8+17;omega) (λe=>e (fr _ (by omega)).1);rcases aA with⟨af,rfl,Af⟩ |⟨jk,af,rfl,Af⟩ |⟨aaA,NI,rfl,K9,K8,Hn,d_,tO⟩
   ·simp only[dc,ak,a1];rw[if_pos (by decide)];refine bS (Dr g5 13) ?_;rintro _ g6 ⟨rfl,b3⟩;refine cb (pf (k:=0) (cs:=[.int .i64 13,.int .i64 0,.int .u64 0]) (hH.ext b3 (by omega)) rfl (by simp) rfl) λg7 ⟨dP,dM,n7⟩=> ?_
    have dP:=dC dP rfl;have xu:=b3.next;exact aJ.pure ⟨rfl,(aF.local hV b3 λi U e=>e.elim).local dM λi U e=>by omega,σ,ρ,λ_ _=>rfl,(Af.ext b3).ca dM λi e U=>by subst e;exact fr _ (by omega),by omega,.inl ⟨rfl,rfl,13,dP,.inr ⟨mb.1,mb.2,rD,.inl af,rfl⟩⟩⟩
   ·simp only[dc,ak,a1];rw[if_pos (by decide)];refine bS (Dr g5 13) ?_;rintro _ g6 ⟨rfl,b3⟩;refine cb (pf (k:=0) (cs:=[.int .i64 13,.int .i64 0,.int .u64 0]) (hH.ext b3 (by omega)) rfl (by simp) rfl) λg7 ⟨dP,dM,n7⟩=> ?_
    have dP:=dC dP rfl;have xu:=b3.next;exact aJ.pure ⟨rfl,(aF.local hV b3 λi U e=>e.elim).local dM λi U e=>by omega,σ,ρ,λ_ _=>rfl,(Af.ext b3).ca dM λi e U=>by subst e;exact fr _ (by omega),by omega,.inl ⟨rfl,rfl,13,dP,.inr ⟨mb.1,mb.2,rD,.inr af,rfl⟩⟩⟩
   ·simp only[dc,ak,a1];rw[if_neg (by decide)];refine aJ.pure ⟨rfl,hV,K9,K8,λj az=>Hn j (by show j<g3.next+8+17;omega),d_,by omega,.inr ⟨rfl,cg.aq fI (by show h.next<g3.next+8+17;omega) (λe=>e (fr _ (Nat.le_refl _)).1),cK.aq fI (by show g1.next<g3.next+8+17;omega) (λe=>e (fr _ (by omega)).1),hH,mb.1,mb.2,λ_=>⟨aaA,NI⟩,?_⟩⟩;rw[tO];unfold uK;rw[if_pos rD];rfl
  ·rw[if_neg (by simpa using rD)];have bC:aX g3 ((g3.aV 8).aV 8):=nx.trans (aF.aV _ _ _);have j7:=bY.ext bC;have cg:=gG.ext bC (by omega);have cK:=fz.ext bC (by omega);have dG:=b8.ext bC (by omega);simp only[yq,ak,Nat.zero_add,b6,cK.get (i:=3) (v:=.int .i64 b5.n) rfl,sT,cg.get (i:=0) rfl,b2,AZ,(j7.eN.jJ m hm).get (i:=2) rfl,cQ,dh,a1];by_cases BR:b5.n<m.cy
   ·rw[if_pos (by simpa using BR)];have us:aX g3 (((g3.aV 8).aV 8).aV 15):=bC.trans (aF.aV _ _ _);have f':=bY.ext us;have s1:=gG.ext us (by omega);have s2:=fz.ext us (by omega);have du:=b8.ext us (by omega);have aw:bF .i64 (m.heap+m.cy)=m.heap+m.cy:=wrap_i64 (by omega) (by omega);have aL:bF .i64 (m.heap+b5.n)=m.heap+b5.n:=wrap_i64 (by omega) (by omega);simp only[sT,s1.get (i:=0) rfl,ak,b2,Ep,uy,Nat.zero_add,(f'.eN.jJ m hm).get (i:=0) rfl,yq,b6,s2.get (i:=3) (v:=.int .i64 b5.n) rfl];refine bS (yR _ _ s1 (f'.eN.jJ m hm) b5.n) ?_;rintro _ _ ⟨rfl,rfl⟩;simp only[sT,s1.get (i:=0) rfl,ak,b2,AZ,Nat.zero_add,b6,(f'.eN.jJ m hm).get (i:=2) rfl];refine bS (yR _ _ s1 (f'.eN.jJ m hm) m.cy) ?_;rintro _ _ ⟨rfl,rfl⟩;rw[aw,aL];refine bS (aki f' eU ae (by unfold kj;omega) (by unfold kj;omega) (by omega)) ?_;rintro _ g5 ⟨fI,rfl,K9,K8,CQ,d_,tO⟩;have abJ:g3.next+8+8+15<=g5.next:=fI.next;have hV:jx ρ K h g5:=aF.local (jx.ext (ρ:=ρ) (K:=K) (ej.trans us)) fI λi U e=>.inl e
    simp only[Lz,dh,b6,uy,sT,s2.get (i:=3) (v:=.int .i64 b5.n) rfl,(f'.eN.jJ m hm).get (i:=2) rfl,(f'.eN.jJ m hm).get (i:=0) rfl,s1.get (i:=0) rfl,J.beq_refl,cond_true];refine aJ.pure ⟨rfl,hV,K9,K8,λj az=>CQ j (by show j<g3.next+8+8+15;omega),d_,by omega,.inr ⟨rfl,s1.aq fI (by show h.next<g3.next+8+8+15;omega) (λe=>e (fr _ (Nat.le_refl _)).1),s2.aq fI (by show g1.next<g3.next+8+8+15;omega) (λe=>e (fr _ (by omega)).1),du.aq fI (by show g2.next<g3.next+8+8+15;omega) (λe=>e (fr _ (by omega)).1),mb.1,mb.2,λh=>absurd h rD,?_⟩⟩;rw[tO];unfold uK;rw[if_neg rD,if_pos BR]
   ·rw[if_neg (by simpa using BR)];refine aJ.pure ⟨rfl,jx.ext (ej.trans bC),σ,ρ,λ_ _=>rfl,j7,by show g3.next<=g3.next+8+8;omega,.inr ⟨rfl,cg,cK,dG,mb.1,mb.2,λh=>absurd h rD,?_⟩⟩;rw[ae];unfold uK;rw[if_neg rD,if_neg BR]
 ·rintro y vs g ⟨rfl,hV,aT,c3,hB,a',lu,⟨rfl,iC,e,xZ,u_⟩ |⟨rfl,fj,eS,fY,dI,bc,hT,iC⟩⟩
  ·simp only[bd,B8];rw[we xZ (by simp)];simp only[ak];refine aJ.pure ⟨hV,e,0,0,rfl,c3,K,aT,λj az=>hB j (by omega),λ_ _ e=>e,a',rfl,?_⟩;rcases u_ with⟨h1,aa⟩ |⟨h1,aa,av,aO,bb⟩
   ·exact .inl ⟨h1,aa,rfl,rfl,iC⟩
   ·exact .inr (.inl ⟨h1,aa,av,aO,bb,rfl,rfl,iC⟩)
  ·have jJ:=a'.eN.jJ m hm;have aL:bF .i64 (m.heap+b5.n)=m.heap+b5.n:=wrap_i64 (by omega) (by omega);have bo:bF .i64 ((m.heap+b5.n) *64)=(m.heap+b5.n) *64:=wrap_i64 (by omega) (by omega);have He:=a'.eN.lt _ (eB.xQ hm);have amc:=qF.1;have CY:=ej.next;simp only[bd,hf,sT,fj.get (i:=0) rfl,ak,yq,b6,Nat.zero_add,eS.get (i:=3) (v:=.int .i64 b5.n) rfl,b2,AZ];refine cb (kC (k:=2) (v:=.int .i64 b5.n) jJ (by simp) rfl rfl) λg5 ⟨cS,bZ,n5⟩=> ?_
   have cS:a6.Obj g5 m.m [.ptr m.s 0,.int .i64 m.heap,.int .i64 b5.n]:=cS;have d1:=fj.aq bZ (by omega) (λe=>by omega);have d2:=eS.aq bZ (by omega) (λe=>by omega);have d3:=fY.aq bZ (by omega) (λe=>by omega);have d_:gj g5 X c c3 (K.sK m.m b5.n) aT:=⟨a'.hh.ca bZ λi e _=>by subst e;exact He.2,a'.eN.cy hm cS bZ⟩;simp only[b6,d2.get (i:=3) (v:=.int .i64 b5.n) rfl,ak];refine bS (yR _ _ d1 cS b5.n) ?_;rintro _ _ ⟨rfl,rfl⟩;rename_i g5;rw[aL];simp only[k',bo,ak,show dW ai 71 [(1,.int .i64 ((m.heap+b5.n) *64))]=some (q8 0 ((m.heap+b5.n) *64) 0)by kernel_rfl];refine cb (pf (k:=0) (cs:=[.int .i64 0,.int .i64 ((m.heap+b5.n) *64),.int .u64 0]) d3 rfl (by simp) rfl) λg6 ⟨di,b3,n6⟩=> ?_
   have di:=dC di rfl;rw[we di (by simp)];simp only[ak];refine aJ.pure ⟨(aF.local hV bZ λi U e=>.inr (by subst e;exact eB.xQ hm)).local b3 λi U e=>by omega,0,_,0,rfl,c3,_,aT,λj az=>hB j (by omega),λj _ e=>by rw[eB.D']at e;exact e,d_.ca b3 λi e U=> ?_,rfl,.inr (.inr ⟨dI,bc,hT,rfl,rfl,rfl,iC⟩)⟩;subst e;rw[eB.D'];exact⟨by rw[hB _ (by omega)];exact(fr _ (by omega)).1,(fr _ (by omega)).2⟩
end
end
def UU(h:ag) :Bool:=(List.range 10).all λk=>match bE h 0 k with
 |some v=>sa v (Bo.getD k 0)
 |none=>false
theorem akW{h:ag}(e:UU h=true)(al:0<h.next) :jV h:=by
 refine⟨λk aj=> ?_,al⟩;have:=List.all_eq_true.1 e k (List.mem_range.2 aj);split at this
 ·rename_i v ae;rw[ae,vz this]
 ·cases this
def Ik(r:Option (J×ag)) :Option (Nat×J×ag×Bu):=r.bind λq=>match q.1 with
 | .tuple [a,b]=>(oL a).bind λM=>(Is q.2 M).bind λl=>if UU q.2=true/\0<q.2.next then some (M,b,q.2,l)else none
 |_=>none
section
set_option maxRecDepth 100000
instance amD:db lL:=⟨λf h=>by
 show(bif Nat.beq f 61 then some wh else qV Aw f)=_
 have:Nat.beq f 61=false:=by
  unfold okF at h;cases af:Nat.beq f 61 with
  |false=>rfl
  |true=>rw[af]at h;simp at h
 rw[this];rfl⟩
def cz(O:bp) :ag:={next:=2,c7:=.node (.node .nil (some O) .nil) (some (.ro 10 yH)) .nil}
def po:iL:=λf a h=>(fns (env []) lL 400).call f a h
theorem uN{f:Nat}{a:List J}{h:ag}{r:J×ag}(e:po (.func f [] []) a h=some r) :call ai lL (.func f [] []) a h=some r:=tm.2 ⟨400,e⟩
def yh(C:iL)(a2:J) :List J->ag->Option br:=λvs h_4=>kc vs λET KO=>kc KO λBg akI=>k6 akI (cd (cV ai h_4 .lss 3 Bg a2) λKK=>
 j' KK (eM (C (.func 54 [] []) [.str 0 0,.int .i64 64] h_4) λKL h_5=>gy (gY ai 25 1 [(0,KL)]) h_5 λKI h_6=>eM (fJ ai h_6 25 25 ET KI) λaky h_7=>cd (cV ai h_7 .add 3 Bg (.int .i64 1)) λakz=>
  some (.normal,[aky,akz],h_7)) (some (.exit 2,[ET,Bg],h_4)))
theorem VM{α:Type}{o:Option α}{K hd:α->Option br}{r:br}(k:∀a,K a=some r->hd a=some r)(h:cd o K=some r) :cd o hd=some r:=by
 cases o with
 |none=>exact h
 |some a=>exact k a h
theorem aiv{a2:J}{vs:List J}{h:ag}{r:br}(e:yh po a2 vs h=some r) :yh (call ai lL) a2 vs h=some r:=by
 unfold yh at e|-;cases vs with
 |nil=>exact e
 |cons v6 vs=>
  cases vs with
  |nil=>exact e
  |cons yD vs=>
   cases vs with
   |cons pk vs=>exact e
   |nil=>
    simp only[bn,bd]at e|-;refine VM (λpk e=> ?_) e;cases pk with
    |bool b=>
     cases b with
     |false=>exact e
     |true=>
      change eM (po (.func 54 [] []) [.str 0 0,.int .i64 64] h) _=some r at e;change eM (call ai lL (.func 54 [] []) [.str 0 0,.int .i64 64] h) _=some r;cases aA:po (.func 54 [] []) [.str 0 0,.int .i64 64] h with
      |none=>rw[aA]at e;cases e
      |some q=>rw[aA]at e;rw[uN aA];exact e
    |_=>exact e
theorem H'{f fo:List J->ag->Option br}(m:∀vs h r,f vs h=some r->fo vs h=some r) :∀{n:Nat} {vs:List J} {h:ag} {r:br},fy n f vs h=some r->fy n fo vs h=some r
 |0,vs,h,r,e=>m _ _ _ e
 |n+1,vs,h,r,e=>by
  unfold fy at e|-;cases aA:fy n f vs h with
  |none=>rw[aA]at e;cases e
  |some q=>
   rw[aA]at e;rw[H' m aA];obtain⟨x,c9,bg⟩:=q;cases x with
   |normal=>exact H' m e
   |_=>exact e
section
variable(O:bp)
def wz(r:Option (J×ag))(i:Nat) :J:=match r with|some (.tuple l,_)=>l.getD i .undef|_=>.undef
def rS(r:Option (J×ag)) :ag:=match r with|some (_,h)=>h|_=>en
def vC:=po (.func 57 [] []) [.bh,.int .i64 2] (cz O)
def HV:=fy 14 (yh po (.int .i64 10)) [wz (vC O) 0,.int .i64 0] (rS (vC O))
def kd:J:=match HV O with|some (_,v::_,_)=>v|_=>.undef
def OM:ag:=match HV O with|some (_,_,h)=>h|_=>en
def Dh:=po (.func 44 [] []) [kd O] (OM O)
def Di:=po (.func 23 [] []) [kd O] (rS (Dh O))
def HX:J:=match Di O with|some (v,_)=>v|_=>.undef
def xM:=po (.func 50 [] []) [HX O] (rS (Di O))
def OI:=po (.func 51 [] []) [HX O,wz (xM O) 0,.int .i64 300,.int .i64 10] (rS (xM O))
theorem a':po (.func 73 [] []) [.bh] (cz O)=some (.bh,cz O):=by kernel_rfl
theorem bR:vC O=some (.tuple [wz (vC O) 0,.int .i64 0],rS (vC O)):=by kernel_rfl
theorem bY:HV O=some (.exit 2,[kd O,.int .i64 10],OM O):=by kernel_rfl
theorem c8:Dh O=some (.tuple [wz (Dh O) 0,.int .i64 0],rS (Dh O)):=by kernel_rfl
theorem d_:Di O=some (HX O,rS (Di O)):=by kernel_rfl
theorem eG:xM O=some (.tuple [wz (xM O) 0,.int .i64 0],rS (xM O)):=by kernel_rfl
theorem ng:(Ik (OI O)).map (λq=>(q.2.2.2.A.n,q.2.2.2.R.cG,uZ q.2.2.2.F.cx,J.ptr q.2.2.2.F.f 0,q.2.1,D0 q.2.2.2 1,q.2.2.1.get 1,Nat.ble 2 q.2.2.1.next))=some (300,10,0,wz (xM O) 0,.int .i64 0,false,O,true):=by kernel_rfl
end
end
section
variable{PV:cw} [db PV]
def fW(h:ag)(id n:Nat)(A:Nat->Nat) :Prop:=a6.Obj h id ((List.range n).map λf=>J.int .i64 ((A f:Nat) :Int))
theorem fW.get{h:ag}{id n:Nat}{A:Nat->Nat}(k:fW h id n A){i:Nat}(U:i<n) :bE h id i=some (.int .i64 ((A i:Nat) :Int)):=by rw[k.rd,List.getElem?_map,List.getElem?_range U];rfl
theorem fW.inc{h:ag}{id n:Nat}{A:Nat->Nat}(k:fW h id n A){i:Nat}(U:i<n) :
  ∃g,dU ai h 3 (.ptr id i) (.int .i64 ((A i+1:Nat) :Int))=some g/\(fW g id n (aq A i (A i+1))/\aF (λj=>j=id) h g/\g.next=h.next):=by
 obtain⟨g,e,o,u,ga⟩:=kC (k:=i) (v:=.int .i64 ((A i+1:Nat) :Int)) k (by simpa using U) rfl rfl;rw[QL U A (A i+1)]at o;exact⟨g,e,o,u,ga⟩
theorem fW.wv{h g:ag}{id n:Nat}{A:Nat->Nat}(k:fW h id n A){S:Nat->Prop}(u:aF S h g)(U:id<h.next)(au:¬S id) :fW g id n A:=a6.Obj.aq k u U au
theorem PF:∀l:List bD,j9 l<=585*l.length
 |[]=>Nat.le_refl _
 |x::l=>by have h1:=PF l;have aa:=BU x.T;have:j9 (x::l)=x.T.dX+j9 l:=rfl;rw[this,List.length_cons];omega
theorem afx(a b:List bD) :j9 (a++b)=j9 a+j9 b:=by simp[j9]
theorem L4{ent:Nat->ba}{P:ba->Bool}(h0:P .zero=false) :∀n,dZ (λp=>P (ent p)) (dm ent 0 n)=b' (λp=>P (ent p)) n
 |0=>rfl
 |n+1=>by
  have bI:=L4 (ent:=ent) h0 n;unfold dm;rw[qc,bI,Nat.zero_add];show _=b' (λp=>P (ent p)) n+(P (ent n)).toNat;by_cases h:ent n=.zero
  ·rw[if_pos h,h,h0];rfl
  ·rw[if_neg h];rw[py];rfl
theorem ahX{T:c0}{h:ag}{lo:Nat}{v:J}(aD:∀p,T.ent p≠.zero->p<4096)(r:Row h 6 lo v ((dm T.ent 0 4096).map (ey T))) :
  ∃L:List Nat,L.length<=4096/\(∀P:ba->Bool,P .zero=false->dZ (λp=>P (T.ent p)) L=T.iw P)/\(∀p,p∈L↔T.ent p≠.zero)/\Row h 6 lo v (L.map (ey T)):=
 ⟨_,JO _,λP h0=>L4 h0 _,λp=>Iu (aD p),r⟩
section
variable{h g:ag}{X:dQ}{c:cN}{ρ a8:Nat->Nat}{σ aG:b0}
theorem aiC(k:Good h X c ρ σ (λ_=>0) (λ_=>0)) :bN (call ai PV (.func 34 [] []) [.ptr X.M 0] h) λv g=>v=.bool true/\aX h g:=by
 refine cF aej rfl ?_;have al:=k.n;have jm:=k.cG;have dO:=k.AN;simp only[Kh,ak,a1,Bool.false_eq_true,if_false,b2,lF,gK,k.sys.field.1,YI k.sys.core.ps.p,c1];rw[k.dn.n];refine KW (Py c.n (by omega)) λg1 aw=> ?_
 have dF:g1.next=h.next+1:=by rw[aw];rfl
 have aW:aX h g1:=by rw[aw];exact aF.new _ _ _
 have U7:fW g1 h.next c.n λ_=>0:=P6 (by rw[aw,mf])
 have a':=k.ext aW;simp only[b2,v',Nat.zero_add,ak,pc,a'.sys.field.2.2.2,aiw a'.sys.core.gM,c1];rw[k.dn.cG];refine KW (Py c.cG (by omega)) λg2 aL=> ?_
 have dS:g2.next=g1.next+1:=by rw[aL];rfl
 have a_:aX g1 g2:=by rw[aL];exact aF.new _ _ _
 have Vl:fW g2 g1.next c.cG λ_=>0:=P6 (by rw[aL,mf])
 have U8:fW g2 h.next c.n λ_=>0:=a6.Obj.ext U7 a_ (by omega)
 have bR:=a'.ext a_;obtain⟨ec,os,hL,_,_⟩:=bR.sys.mem;have ar:=hL.len (T:=75) (si:=A_) (by kernel_rfl) rfl;rw[List.length_map,List.length_map]at ar;simp only[b2,Es,Nat.zero_add,ak,Ke,Obj.get os (i:=4) rfl,ar];let p9:Nat->Prop:=λi=>i=h.next\/i=g1.next
 have Cp:∀{g:ag},aF p9 g2 g->Good g X c ρ σ (λ_=>0) (λ_=>0):=λu=>bR.ca u λi U _=>by
  rcases U with rfl|rfl
  ·exact k.fresh (by omega)
  ·exact k.fresh (by omega)
 have XT:∀{g:ag},aF p9 g2 g->aX h g:=λu=>(aW.trans a_).local u λi U e=>by rcases e with e|e<;>omega
 refine gW (n:=14) (I:=λi vs g=>vs=[.int .i64 (j9 (σ.ax.take i) :Nat),.int .i64 (i:Nat)]/\aF p9 g2 g/\i<=σ.ax.length/\fW g h.next c.n (λf=>cU (σ.ax.take i) (bJ f))/\fW g g1.next c.cG (λf=>cU (σ.ax.take i) (cZ f))) (m:=σ.ax.length)
  (P:=λx vs g=>x=.exit 0/\(∃d,vs=[.int .i64 (j9 σ.ax:Nat),d])/\aF p9 g2 g/\fW g h.next c.n (λf=>cU σ.ax (bJ f))/\fW g g1.next c.cG (λf=>cU σ.ax (cZ f))) (Nat.lt_of_le_of_lt (Nat.le_trans dO al) (by decide)) ⟨rfl,aF.refl _ _,Nat.zero_le _,U8,Vl⟩ ?_ ?_
 ·rintro i _ g U ⟨rfl,ja,_,FH,yU⟩;simp only[bn,bd,cQ,ak,a1];by_cases ci:i<σ.ax.length
  ·rw[if_pos (by simp;omega)];obtain⟨x,ab⟩ :∃x,σ.ax[i]? =some x:=⟨_,List.getElem?_eq_getElem ci⟩;have pN:σ.ax.take (i+1)=σ.ax.take i++[x]:=by rw[List.take_add_one,ab];rfl
   have hD:x∈σ.ax:=List.mem_of_getElem? ab;have jo:=Cp ja
   have akO:=hL.aq ja (λb af e=>by
    have bK:b<g2.next/\ρ b=14:=by
     obtain⟨El,I3,_,_,QM⟩:=bR.sys.mem
     have:El=ec:=by have h1:=Obj.get I3 (i:=4) rfl;rw[Obj.get os (i:=4) rfl]at h1;simpa using h1.symm
     have GH:=QM b (this▸af);exact⟨bR.sys.core.lt b (by omega),GH⟩
    have h0:ρ b=0:=by
     rcases e with rfl|rfl
     ·exact k.fresh (by omega)
     ·exact k.fresh (by omega)
    omega)
   have jE:((σ.ax.map (λx=>J.ptr x.s 0)).map one)[i]? =some [J.ptr x.s 0]:=by simp[ab,one]
   obtain⟨b,cap,Ca,l,ae,af,ol,m7,_,_,h_⟩:=akO.at jE;rw[List.length_map,List.length_map]at ae m7;have hk:=h_ 0 (by decide);rw[Nat.mul_one,Nat.add_zero]at hk;have mz:eV ai 75 ec (.int .i64 (i:Nat))=some (.ptr b (0+i)):=by rw[ae];exact Sg m7
   have mQ:=(jo.sys.ax x hD);have ajm:fP g X.A x.t (nodeAt x.T 0 0) x.T.dX:=mQ.lD
   have XK:bF .i64 (((j9 (σ.ax.take i) :Nat) :Int) +(x.T.dX:Nat))=((j9 (σ.ax.take (i+1)) :Nat) :Int):=by have h1:=PF (σ.ax.take i);have aa:=BU x.T;have av:(σ.ax.take i).length<=i:=List.length_take_le _ _;rw[wrap_i64 (by omega) (by omega),pN,afx];show _=((j9 (σ.ax.take i) +(x.T.dX+0) :Nat) :Int);omega
   rw[mz];simp only[ak,Nat.zero_add,uy,hk,List.getElem?_cons_zero,b2,uv,ov,mQ.field.2,afA ajm,c1,cP,XK];refine bS (Fl jo.ps (jo.lD hD)) ?_;rintro v29 g4 ⟨dY,bA⟩;obtain⟨L,en,rX,er,dY⟩:=ahX (λp aD=>k.inv.lt hD aD) dY;have hlen:=dY.len (T:=175) (E:=ai) (si:=wm) (by kernel_rfl) rfl;rw[List.length_map]at hlen;rw[hlen];simp only[ak];have xv:=ja.next;have FI:fW g4 h.next c.n (λf=>cU (σ.ax.take i) (bJ f)):=a6.Obj.ext FH bA (by omega);have FK:fW g4 g1.next c.cG (λf=>cU (σ.ax.take i) (cZ f)):=a6.Obj.ext yU bA (by omega)
   have hbound:∀P,cU (σ.ax.take i) P<=4096*4096:=λP=>by have h1:=AE P (σ.ax.take i);have aa:(σ.ax.take i).length<=i:=List.length_take_le _ _;have:4096*(σ.ax.take i).length<=4096*4096:=Nat.mul_le_mul_left _ (by omega);omega
   refine gW (n:=14) (I:=λj vs g=>vs=[.int .i64 (j:Nat)]/\aF p9 g4 g/\j<=L.length/\fW g h.next c.n (λf=>cU (σ.ax.take i) (bJ f) +dZ (λp=>bJ f (x.T.ent p)) (L.take j))/\fW g g1.next c.cG (λf=>cU (σ.ax.take i) (cZ f) +dZ (λp=>cZ f (x.T.ent p)) (L.take j))) (m:=L.length)
    (P:=λy vs g=>y=.exit 2/\(∃d,vs=[d])/\aF p9 g4 g/\fW g h.next c.n (λf=>cU (σ.ax.take (i+1)) (bJ f))/\fW g g1.next c.cG (λf=>cU (σ.ax.take (i+1)) (cZ f))) (Nat.lt_of_le_of_lt en (by decide)) ⟨rfl,aF.refl _ _,Nat.zero_le _,FI,FK⟩ ?_ ?_
   ·rintro j _ g5 az ⟨rfl,bZ,_,tl,uL⟩;simp only[bn,bd,cQ,ak,a1];by_cases rE:j<L.length
    ·rw[if_pos (by simp;omega)];obtain⟨p,aD⟩ :∃p,L[j]? =some p:=⟨_,List.getElem?_eq_getElem rE⟩;have oU:L.take (j+1)=L.take j++[p]:=by rw[List.take_add_one,aD];rfl
     have h9:x.T.ent p≠.zero:=(er p).1 (List.mem_of_getElem? aD);have lx:=k.inv.kX hD h9;have hm:=l1 lx;have zQ:Row g5 6 g.next v29 (L.map (ey x.T)):=dY.aq bZ (λq ay _ e=>by rcases e with e|e<;>omega);obtain⟨ea,e9,Ha,hi,kZ,kU,pK,rY⟩:=zQ.at (i:=j) (x:=ey x.T p) (by simp[aD]);rw[List.length_map]at e9 kU;rw[e9];have abB:=bZ.next;have abA:=bA.next;have eK:(((x.T.ent p).n.toNat:Nat) :Int)=(x.T.ent p).n:=by have:=hm.1;omega
     have zl:∀P:Nat->Bool,dZ P (L.take j)<=4096:=λP=>by have h1:=BW P (L.take j);have aa:(L.take j).length<=j:=List.length_take_le _ _;omega
     refine fV (P:=λy vs bH=>y=.normal/\vs=[]/\aF p9 g4 bH/\fW bH h.next c.n (λf=>cU (σ.ax.take i) (bJ f) +dZ (λp=>bJ f (x.T.ent p)) (L.take (j+1)))/\fW bH g1.next c.cG (λf=>cU (σ.ax.take i) (cZ f) +dZ (λp=>cZ f (x.T.ent p)) (L.take (j+1)))) ?_ ?_
     ·simp only[J' kU,ak,Nat.zero_add];rw[ux kZ (by omega),rY];simp only[ak];refine b1 sO λg6 di n6 b3=> ?_
      refine cb (q6 (k:=0) (cs:=ey x.T p) di rfl (by simp[ey,ba.vs]) rfl) λg7 ⟨dP,dM,n7⟩=> ?_
      have dP:=dC dP rfl;have p2:aX g5 g7:=b3.local dM (λj az e=>by omega);have cg:bE g7 g5.next 1=some (.bool (x.T.ent p).here):=dP.rd 1;have gS:bE g7 g5.next 5=some (.int .i64 (x.T.ent p).n):=dP.rd 5;have FJ:=fW.wv tl p2 (by omega) (λe=>e);have FL:=fW.wv uL p2 (by omega) (λe=>e);have Uy:aF p9 g4 g7:=bZ.trans (aF.ext p2);simp only[yo,k4,lG,Nat.zero_add,ak,kB,cg,a1];by_cases aC:(x.T.ent p).here=true
      ·rw[if_pos aC];have kV:=k.inv.here x p hD aC;have F7:∀f,bJ f (x.T.ent p)=decide (f=(x.T.ent p).n.toNat):=z8 aC hm.1;have tr:∀f,cZ f (x.T.ent p)=false:=Da lx aC;have h_:=FJ.get kV;have jk:=hbound (bJ (x.T.ent p).n.toNat);have m4:=zl (λq=>bJ (x.T.ent p).n.toNat (x.T.ent q));have rK:bF .i64 (((cU (σ.ax.take i) (bJ (x.T.ent p).n.toNat) +dZ (λq=>bJ (x.T.ent p).n.toNat (x.T.ent q)) (L.take j) :Nat) :Int) +1)=((cU (σ.ax.take i) (bJ (x.T.ent p).n.toNat) +dZ (λq=>bJ (x.T.ent p).n.toNat (x.T.ent q)) (L.take j) +1:Nat) :Int):=by rw[wrap_i64 (by omega) (by omega)];omega
       simp only[b6,gS];rw[<-eK];simp only[ak,pb kV,Nat.zero_add,b6,h_,cP,rK];refine cb (FJ.inc kV) λg8 ⟨rC,u8,n8⟩=> ?_
       refine aJ.pure ⟨rfl,rfl,Uy.trans (u8.mono λq _ e=>.inl e),?_,?_⟩
       ·have:(λf=>cU (σ.ax.take i) (bJ f) +dZ (λp=>bJ f (x.T.ent p)) (L.take (j+1)))=aq (λf=>cU (σ.ax.take i) (bJ f) +dZ (λp=>bJ f (x.T.ent p)) (L.take j)) (x.T.ent p).n.toNat (cU (σ.ax.take i) (bJ (x.T.ent p).n.toNat) +dZ (λq=>bJ (x.T.ent p).n.toNat (x.T.ent q)) (L.take j) +1):=funext λf=>by
         rw[oU,qc,py,uQ,F7];by_cases e:f=(x.T.ent p).n.toNat
         ·subst e;rw[e3];simp;omega
         ·rw[ed _ _ e,decide_eq_false e];simp
        rw[this];exact rC
       ·have:(λf=>cU (σ.ax.take i) (cZ f) +dZ (λp=>cZ f (x.T.ent p)) (L.take (j+1)))=(λf=>cU (σ.ax.take i) (cZ f) +dZ (λp=>cZ f (x.T.ent p)) (L.take j)):=funext λf=>by
         rw[oU,qc,py,uQ,tr];simp
        rw[this];exact FL.wv u8 (by omega) (λe=>by omega)
      ·rw[if_neg aC];have lV:(x.T.ent p).here=false:=by simpa using aC
       have aY:(x.T.ent p).out=true:=by
        cases aY:(x.T.ent p).out with
        |true=>rfl
        |false=>exact absurd (F' (λ_=>lx) aY lV) h9
       have jm:=k.inv.out x p hD aY;have F7:∀f,bJ f (x.T.ent p)=false:=λf=>by unfold bJ;rw[lV];rfl
       have tr:∀i,cZ i (x.T.ent p)=decide (i=(x.T.ent p).n.toNat):=λi=>by unfold cZ;rw[aY,Bool.true_and,Bool.eq_iff_iff];simp;have:=hm.1;omega
       have h_:=FL.get jm;have jk:=hbound (cZ (x.T.ent p).n.toNat);have m4:=zl (λq=>cZ (x.T.ent p).n.toNat (x.T.ent q));have rK:bF .i64 (((cU (σ.ax.take i) (cZ (x.T.ent p).n.toNat) +dZ (λq=>cZ (x.T.ent p).n.toNat (x.T.ent q)) (L.take j) :Nat) :Int) +1)=((cU (σ.ax.take i) (cZ (x.T.ent p).n.toNat) +dZ (λq=>cZ (x.T.ent p).n.toNat (x.T.ent q)) (L.take j) +1:Nat) :Int):=by rw[wrap_i64 (by omega) (by omega)];omega
       simp only[b6,gS];rw[<-eK];simp only[ak,pb jm,Nat.zero_add,b6,h_,cP,rK];refine cb (FL.inc jm) λg8 ⟨rC,u8,n8⟩=> ?_
       refine aJ.pure ⟨rfl,rfl,Uy.trans (u8.mono λq _ e=>.inr e),?_,?_⟩
       ·have:(λf=>cU (σ.ax.take i) (bJ f) +dZ (λp=>bJ f (x.T.ent p)) (L.take (j+1)))=(λf=>cU (σ.ax.take i) (bJ f) +dZ (λp=>bJ f (x.T.ent p)) (L.take j)):=funext λf=>by
         rw[oU,qc,py,uQ,F7];simp
        rw[this];exact FJ.wv u8 (by omega) (λe=>by omega)
       ·have:(λf=>cU (σ.ax.take i) (cZ f) +dZ (λp=>cZ f (x.T.ent p)) (L.take (j+1)))=aq (λf=>cU (σ.ax.take i) (cZ f) +dZ (λp=>cZ f (x.T.ent p)) (L.take j)) (x.T.ent p).n.toNat (cU (σ.ax.take i) (cZ (x.T.ent p).n.toNat) +dZ (λq=>cZ (x.T.ent p).n.toNat (x.T.ent q)) (L.take j) +1):=funext λf=>by
         rw[oU,qc,py,uQ,tr];by_cases e:f=(x.T.ent p).n.toNat
         ·subst e;rw[e3];simp;omega
         ·rw[ed _ _ e,decide_eq_false e];simp
        rw[this];exact rC
     ·rintro _ _ g9 ⟨rfl,rfl,e2,WH,WK⟩;have aw:bF .i64 ((j:Int) +1)=((j+1:Nat) :Int):=by rw[wrap_i64 (by omega) (by omega)];omega
      simp only[bd,hf,cP,aw,ak];exact aJ.pure (.inl ⟨rfl,rE,rfl,e2,rE,WH,WK⟩)
    ·rw[if_neg (by simp;omega)];refine aJ.pure (.inr ⟨by simp,rfl,⟨_,rfl⟩,bZ,?_,?_⟩)
     ·have:(λf=>cU (σ.ax.take (i+1)) (bJ f))=λf=>cU (σ.ax.take i) (bJ f) +dZ (λp=>bJ f (x.T.ent p)) (L.take j):=funext λf=>by
       rw[pN,DV,uh,DW,List.take_of_length_le (show L.length<=j by omega),rX (bJ f) rfl,Nat.add_zero]
      rw[this];exact tl
     ·have:(λf=>cU (σ.ax.take (i+1)) (cZ f))=λf=>cU (σ.ax.take i) (cZ f) +dZ (λp=>cZ f (x.T.ent p)) (L.take j):=funext λf=>by
       rw[pN,DV,uh,DW,List.take_of_length_le (show L.length<=j by omega),rX (cZ f) rfl,Nat.add_zero]
      rw[this];exact uL
   ·rintro y _ g6 ⟨rfl,⟨eC,rfl⟩,b3,WG,WJ⟩;have aw:bF .i64 ((i:Int) +1)=((i+1:Nat) :Int):=by rw[wrap_i64 (by omega) (by omega)];omega
    simp only[bn,bd,fZ,if_true,cP,aw,ak];exact aJ.pure (.inl ⟨rfl,ci,rfl,(ja.trans (aF.ext bA)).trans b3,ci,WG,WJ⟩)
  ·rw[if_neg (by simp;omega)];rw[List.take_of_length_le (show σ.ax.length<=i by omega)];have h1:σ.ax.take i=σ.ax:=List.take_of_length_le (by omega);rw[h1]at FH yU;exact aJ.pure (.inr ⟨by simp,rfl,⟨_,rfl⟩,ja,FH,yU⟩)
 rintro y _ g3 ⟨rfl,⟨eC,rfl⟩,bw,WE,WI⟩;have bY:=Cp bw;simp only[bn,bd,fZ,if_true,ak,b2,Er,Nat.zero_add,ou,bY.sys.field.2.2.1];refine bS (acF bY.sys.core) ?_;rintro akw g4 ⟨dY,bA⟩;have hlen:=dY.len (T:=179) (E:=ai) (si:=EK) (by kernel_rfl) rfl;rw[List.length_map]at hlen;rw[hlen];simp only[ak];have r5:=bw.next;have xt:=bA.next;have FI:fW g4 h.next c.n (λf=>cU σ.ax (bJ f)):=a6.Obj.ext WE bA (by omega);have FK:fW g4 g1.next c.cG (λf=>cU σ.ax (cZ f)):=a6.Obj.ext WI bA (by omega);have tG:=bY.sys.core.dd.oK
 have hbound:∀P,cU σ.ax P<=4096*4096:=λP=>by have h1:=AE P σ.ax;have:4096*σ.ax.length<=4096*4096:=Nat.mul_le_mul_left _ (by omega);omega
 refine gW (n:=14) (I:=λj vs g=>vs=[.int .i64 (j:Nat)]/\aF p9 g4 g/\j<=σ.ring.length/\fW g h.next c.n (λf=>cU σ.ax (bJ f) +dZ (λy:cH=>y.fr==f) (σ.ring.take j))/\fW g g1.next c.cG (λf=>cU σ.ax (cZ f))) (m:=σ.ring.length)
  (P:=λy vs g=>y=.exit 4/\(∃d,vs=[d])/\aF p9 g4 g/\fW g h.next c.n (λf=>refs σ f)/\fW g g1.next c.cG (λf=>cU σ.ax (cZ f))) (Nat.lt_of_le_of_lt tG (by decide)) ⟨rfl,aF.refl _ _,Nat.zero_le _,FI,FK⟩ ?_ ?_
 ·rintro j _ g5 az ⟨rfl,bZ,_,tl,uL⟩;simp only[bn,bd,cQ,ak,a1];by_cases rE:j<σ.ring.length
  ·rw[if_pos (by simp;omega)];obtain⟨y,an⟩ :∃y,σ.ring[j]? =some y:=⟨_,List.getElem?_eq_getElem rE⟩;have oU:σ.ring.take (j+1)=σ.ring.take j++[y]:=by rw[List.take_add_one,an];rfl
   have zX:=List.mem_of_getElem? an;have r7:=(k.inv.ring y zX).1;have zQ:Row g5 2 g3.next akw (σ.ring.map sc):=dY.aq bZ (λq ay _ e=>by rcases e with e|e<;>omega);obtain⟨ea,e9,Ha,hi,kZ,kU,pK,rY⟩:=zQ.at (i:=j) (x:=sc y) (by simp[an]);rw[List.length_map]at e9 kU;rw[e9];have abB:=bZ.next;simp only[ajH kU,ak,Nat.zero_add];rw[nu kZ (by omega),rY];simp only[ak];refine b1 AW λg6 di n6 b3=> ?_
   refine cb (yu (k:=0) (cs:=sc y) di rfl (by simp[sc]) rfl) λg7 ⟨dP,dM,n7⟩=> ?_
   have dP:=dC dP rfl;have p2:aX g5 g7:=b3.local dM (λj az e=>by omega);have bC:aX g7 (g7.aV 11):=aF.aV _ _ _;have UA:=p2.trans bC;have ng:=Cp (((bw.trans (aF.ext bA)).trans bZ).trans (aF.ext UA));have IL:=dP.ext bC (by have:=p2.next;omega);have cM:=ng.sys.field.2.2.1;rw[cT]at cM;simp only[b2,Er,Nat.zero_add,ak,ou,cT,cM];rw[nu IL (by simp[sc])];simp only[ak];rw[show(J.agg (List.take 2 (List.drop 0 (sc y))))=gr y.file y.bq from rfl];refine bS (Zl ng.sys.core zX) ?_;rintro _ g8 ⟨rfl,u8⟩;have EO:=UA.trans u8;have LU:=fW.wv tl EO (by omega) (λe=>e);have h_:=LU.get r7;have jk:=hbound (bJ y.fr);have m4:=BW (λz:cH=>z.fr==y.fr) (σ.ring.take j);have alS:(σ.ring.take j).length<=j:=List.length_take_le _ _;have rK:bF .i64 (((cU σ.ax (bJ y.fr) +dZ (λz:cH=>z.fr==y.fr) (σ.ring.take j) :Nat) :Int) +1)=((cU σ.ax (bJ y.fr) +dZ (λz:cH=>z.fr==y.fr) (σ.ring.take j) +1:Nat) :Int):=by rw[wrap_i64 (by omega) (by omega)];omega
   have aw:bF .i64 ((j:Int) +1)=((j+1:Nat) :Int):=by rw[wrap_i64 (by omega) (by omega)];omega
   simp only[hg,ak,dh,pb r7,Nat.zero_add,b6,h_,cP,rK];refine cb (LU.inc r7) λg9 ⟨kl,e2,n9⟩=> ?_
   simp only[aw,ak];refine aJ.pure (.inl ⟨rfl,rE,rfl,(bZ.trans (aF.ext EO)).trans (e2.mono λq _ e=>.inl e),rE,?_,(fW.wv uL EO (by omega) (λe=>e)).wv e2 (by have:=EO.next;omega) (λe=>by omega)⟩)
   have:(λf=>cU σ.ax (bJ f) +dZ (λy:cH=>y.fr==f) (σ.ring.take (j+1)))=aq (λf=>cU σ.ax (bJ f) +dZ (λy:cH=>y.fr==f) (σ.ring.take j)) y.fr (cU σ.ax (bJ y.fr) +dZ (λz:cH=>z.fr==y.fr) (σ.ring.take j) +1):=funext λf=>by
    rw[oU,qc,py,uQ];by_cases e:f=y.fr
    ·subst e;rw[e3];simp;omega
    ·rw[ed _ _ e,show(y.fr==f)=false by simpa using λh=>e h.symm];simp
   rw[this];exact kl
  ·rw[if_neg (by simp;omega)];refine aJ.pure (.inr ⟨by simp,rfl,⟨_,rfl⟩,bZ,?_,uL⟩);rw[List.take_of_length_le (show σ.ring.length<=j by omega)]at tl;exact tl
 rintro y _ g5 ⟨rfl,⟨eC,rfl⟩,bZ,tl,uL⟩;have tJ:=bZ.next;have Uw:=(bw.trans (aF.ext bA)).trans bZ;have d_:=Cp Uw;simp only[bn,bd,fZ,if_true,q5,ak]
 have own:∀f,f<c.n->∃t:Nat,t<=1/\σ.held f=refs σ f+t/\(t=1->refs σ f=0):=λf aB=>by
  have h1:=k.inv.own aB;refine⟨_,Bool.toNat_le _,h1,λaN=> ?_⟩;by_cases cL:∃x,x∈σ.ax/\IsNode x.T f
  ·obtain⟨x,ab,qz⟩:=cL;exact(k.inv.node x f ab qz).2.1
  ·exfalso;revert aN;simp[cL]
 have CW:=k.inv.sum
 have abu:∀i,i<=c.n->de (λf=>σ.held f-refs σ f) i<=i:=λi U=>by
  have h1:de (λf=>σ.held f-refs σ f) i<=de (λ_=>1) i:=by
   clear CW;induction i with
   |zero=>exact Nat.le_refl _
   |succ i bI=>
    obtain⟨t,t1,t2,_⟩:=own i (by omega);have:=bI (by omega);show de (λf=>σ.held f-refs σ f) i+(σ.held i-refs σ i)<=de (λ_=>1) i+1;omega
  have aa:de (λ_=>1) i=i:=by
   clear h1 CW U;induction i with
   |zero=>rfl
   |succ i bI=>show de (λ_=>1) i+1=i+1;rw[bI]
  omega
 refine gW (n:=14) (I:=λi vs g=>vs=[.bool false,.int .i64 (de (λf=>σ.held f-refs σ f) i:Nat),.int .i64 (i:Nat)]/\g=g5/\i<=c.n) (m:=c.n)
  (P:=λy vs g=>y=.exit 6/\(∃d,vs=[.bool false,.int .i64 (j9 σ.ax:Nat),d])/\g=g5) (Nat.lt_of_le_of_lt al (by decide)) ⟨rfl,rfl,Nat.zero_le _⟩ ?_ ?_
 ·rintro i _ _ U ⟨rfl,rfl,_⟩;simp only[bn,bd,cQ,ak,a1];by_cases ci:i<c.n
  ·rw[if_pos (by simp;omega)];have h_:=tl.get ci;obtain⟨t,t1,t2,t3⟩:=own i ci;have aC:=Cw d_.sys.core.ps.p (f:=i) (by rw[k.dn.n];exact ci);have bK:=k.Cv (λf=>by show(0:Int)<=16;omega) ci;have XP:bF .i64 ((σ.held i:Int) -(refs σ i:Nat))=((t:Nat) :Int):=by rw[wrap_i64 (by omega) (by omega)];omega
   have Ht:=abu i U
   have Mo:bF .i64 (((de (λf=>σ.held f-refs σ f) i:Nat) :Int) +(t:Nat))=((de (λf=>σ.held f-refs σ f) (i+1) :Nat) :Int):=by rw[wrap_i64 (by omega) (by omega)];show _=((de (λf=>σ.held f-refs σ f) i+(σ.held i-refs σ i) :Nat) :Int);omega
   have aw:bF .i64 ((i:Int) +1)=((i+1:Nat) :Int):=by rw[wrap_i64 (by omega) (by omega)];omega
   have dI:¬((t:Nat) :Int) <0:=by omega
   have bc:¬((t:Nat) :Int) >1:=by omega
   simp only[pb ci,ak,Nat.zero_add,b6,h_,b2,lF,gK,d_.sys.field.1,aC,c1,e4,XP,decide_eq_false dI,cJ,if_true,hO,decide_eq_false bc,cO,bn,bd,cB,Bool.false_eq_true,if_false,c2];by_cases aN:t=1
   ·have hk:=t3 aN;have bW:¬((refs σ i:Nat) :Int) >0:=by omega
    have FX:((t:Nat) :Int)=1:=by omega
    simp only[decide_eq_true FX,cJ,if_true,ak,decide_eq_false bW,cO,bn,bd,cB,Bool.false_eq_true,if_false,a1,cP,Mo,aw];exact aJ.pure (.inl ⟨rfl,ci,rfl,rfl,ci⟩)
   ·have FX:¬((t:Nat) :Int)=1:=by omega
    simp only[decide_eq_false FX,cJ,if_true,ak,cO,bn,bd,cB,Bool.false_eq_true,if_false,a1,cP,Mo,aw];exact aJ.pure (.inl ⟨rfl,ci,rfl,rfl,ci⟩)
  ·rw[if_neg (by simp;omega)];have:i=c.n:=by omega
   subst this;rw[CW];exact aJ.pure (.inr ⟨by simp,rfl,⟨_,rfl⟩,rfl⟩)
 rintro y _ g6 ⟨rfl,⟨eC,rfl⟩,jC⟩;have F6:=jC.symm;subst F6;simp only[bn,bd,fZ,if_true,q5,ak]
 refine gW (n:=14) (I:=λi vs g=>vs=[.bool false,.int .i64 (i:Nat)]/\g=g5/\i<=c.cG) (m:=c.cG)
  (P:=λy vs g=>y=.exit 8/\(∃d,vs=[.bool false,d])/\g=g5) (Nat.lt_of_le_of_lt jm (by decide)) ⟨rfl,rfl,Nat.zero_le _⟩ ?_ ?_
 ·rintro i _ _ U ⟨rfl,rfl,_⟩;simp only[bn,bd,cQ,ak,a1];by_cases ci:i<c.cG
  ·rw[if_pos (by simp;omega)];have h_:=uL.get ci;have aC:=Rz d_.sys.core.gM (i:=i) (by rw[k.dn.cG];exact ci);have au:=k.inv.slot i ci;have he:((σ.bQ i:Nat) :Int)=((cU σ.ax (cZ i) :Nat) :Int):=by unfold l5 at au;omega
   have aw:bF .i64 ((i:Int) +1)=((i+1:Nat) :Int):=by rw[wrap_i64 (by omega) (by omega)];omega
   have dI:¬((σ.bQ i:Nat) :Int)≠((cU σ.ax (cZ i) :Nat) :Int):=λh=>h he
   simp only[pb ci,ak,Nat.zero_add,b6,h_,b2,v',pc,d_.sys.field.2.2.2,aC,c1,dc,decide_eq_false dI,a1,Bool.false_eq_true,if_false,cP,aw];exact aJ.pure (.inl ⟨rfl,ci,rfl,rfl,ci⟩)
  ·rw[if_neg (by simp;omega)];exact aJ.pure (.inr ⟨by simp,rfl,⟨_,rfl⟩,rfl⟩)
 ·rintro y _ _ ⟨rfl,⟨eC,rfl⟩,rfl⟩;simp only[bn,bd,fZ,if_true,c2,decide_true,ak];exact aJ.pure ⟨rfl,XT Uw⟩
end
end
section
variable{PV:cw} [db PV]
section
variable{h g:ag}{X:dQ}{c:cN}{ρ a8:Nat->Nat}{σ aG:b0}{d e:Nat->Int}{a b:List bD}{x cn:bD}{aS ew:Nat}{aT b_:b0}
theorem ids(k:Good h X c ρ σ (λ_=>0) (λ_=>0)) :(σ.ax.map (·.s)).Nodup:=List.pairwise_map.2 (k.sys.pY.imp λh=>h.1)
end
end
theorem Oq(r:aH)(h:r.lo<r.U) :(fO r []).foldl c6 []=[r]:=by show c6 [] r=[r];unfold c6;rw[if_neg (by omega)];rfl
section
variable{h g:ag}{X:dQ}{c:cN}{ρ a8:Nat->Nat}{σ aG:b0}{PV:cw} [db PV]
theorem aiE(k:Good h X c ρ σ (λ_=>0) (λ_=>0))(aB:0<σ.free) :bN (call ai PV (.func 30 [] []) [.ptr X.M 0] h) λv g=>bG ρ h g/\∃s t f a8,v=.tuple [.ptr s 0,.int .i64 0]/\h.next<=s/\(∀i,i<h.next->a8 i=ρ i)/\
  Good g X c a8 {σ with mem:=aq σ.mem f 0,held:=aq σ.held f 1,free:=σ.free-1,ax:=σ.ax++[⟨s,t,eP f,[]⟩]} (λ_=>0) (λ_=>0)/\
  view c {σ with mem:=aq σ.mem f 0,held:=aq σ.held f 1,free:=σ.free-1,ax:=σ.ax++[⟨s,t,eP f,[]⟩]}=view c σ++[(s,[],λ_=>none)]:=by
 refine bN.mono (aiD k (.inl aB)) ?_;rintro v g ⟨w,⟨aT,a',ae,au,_,_,h0,_⟩ |⟨aT,f,s,t,a8,ah,ae,au,_,_,_,rfl,al,a',iC⟩⟩
 ·have:=au aB;subst this;omega
 ·have:=au aB;subst this;exact⟨w,s,t,f,a8,rfl,al,ah,a',iC⟩
end
section
structure Vi(r:Option (J×ag))(O:bp)(fv:J)(vI afB ew:Nat)(g:ag)(X:dQ)(c:cN)(ρ:Nat->Nat)(σ:b0) :Prop where
 cm:r=some (.tuple [.ptr X.M 0,.int .i64 0],g)
 hh:Good g X c ρ σ (λ_=>0) (λ_=>0)
 n:c.n=vI
 cG:c.cG=afB
 xa:∃cx sec,c.hy=fileAt cx sec/\uZ cx=ew
 loose:∀s p,¬c.loose s p
 ax:σ.ax=[]
 free:σ.free=vI
 f:fv=.ptr X.F.f 0
 bU:g.get 1=O
 dF:1<g.next
 cg:ρ 1=0
theorem ae2{r:Option (J×ag)}{O:bp}{fv:J}{n s ew:Nat}(h:(Ik r).map (λq=>(q.2.2.2.A.n,q.2.2.2.R.cG,uZ q.2.2.2.F.cx,J.ptr q.2.2.2.F.f 0,q.2.1,D0 q.2.2.2 1,q.2.2.1.get 1,Nat.ble 2 q.2.2.1.next))=some (n,s,ew,fv,.int .i64 0,false,O,true)) :
  ∃g X c ρ σ,Vi r O fv n s ew g X c ρ σ:=by
 obtain⟨q,e,h⟩:=Option.map_eq_some_iff.1 h;simp only[Prod.mk.injEq]at h;obtain⟨rfl,rfl,rfl,rfl,bb,cp,gC,dR⟩:=h;unfold Ik at e;obtain⟨⟨v,g⟩,h1,e⟩:=Option.bind_eq_some_iff.1 e;dsimp only at e;split at e
 ·rename_i a b;obtain⟨M,aa,e⟩:=Option.bind_eq_some_iff.1 e;obtain⟨l,av,e⟩:=Option.bind_eq_some_iff.1 e;split at e
  ·rename_i aA;simp only[Option.some.injEq]at e;subst e;dsimp only at bb cp gC dR;obtain⟨X,ρ,bB,kG,Bp,p4,ak7,yI⟩:=afb av (akW aA.1 aA.2);refine⟨g,X,_,ρ,_,⟨?_,yI,rfl,rfl,⟨_,_,rfl,rfl⟩,λ_ _ h=>h,rfl,rfl,by rw[Bp],gC,dr.1 dR,?_⟩⟩
   ·rw[h1,rP aa,bB,bb]
   ·exact Classical.byContradiction λal=>by have:=ak7 1 al;rw[cp]at this;cases this
  ·cases e
 ·cases e
section
variable{h g:ag}{X:dQ}{c:cN}{ρ a8:Nat->Nat}{σ aG:b0}{K:eB}{PV:cw} [db PV]
theorem UQ{Q:cW->List J->ag->Prop}{K:J->ag->Option br}{h:ag}(k:∀g m,m=h.next->pq g m []->g.next=h.next+1->aX h g->aJ (K (.map m) g) Q) :aJ (gy mF h K) Q:=
 k _ _ rfl ⟨[],0,mf _ _,rfl,rfl⟩ rfl (aF.new _ _ _)
theorem agS(h:ag) :bN (call ai PV (.func 74 [] []) [] h) λv g=>∃T P,v=.ptr T 0/\h.next<=T/\h.next<=P/\T<g.next/\P<g.next/\T≠P/\a6.Obj g T [.map P]/\pq g P ([(⟨1,0,1,0⟩ :lM)].map λp=>(p.pid,.agg p.vs))/\aX h g:=by
 refine cF aes rfl ?_;refine UQ λg1 P nP cA dF aW=> ?_
 refine cD (show dW ai 63 [(0,.int .i64 1),(2,.int .i64 1)]=some (.agg (⟨1,0,1,0⟩ :lM).vs)by kernel_rfl) ?_;refine cb (UG 263 (z:=.agg [.int .i64 0,.int .i64 0,.int .i64 0,.int .i64 0]) cA 1 _) λg2 ⟨cM,a_,dS⟩=> ?_
 refine cD (show dW ai 265 [(0,.map P)]=some (.agg [.map P])by kernel_rfl) ?_;refine b1 (aje (cs:=[.map P]) rfl) λg3 b8 eH bw=> ?_
 exact aJ.pure ⟨g2.next,P,rfl,by omega,by omega,by omega,by omega,by omega,b8,cM.aq bw (by omega) (λe=>e),(aW.local a_ λi U e=>by omega).trans bw⟩
theorem acL{F5:J}{n s:Int}{h1 g1:ag}(XN:call ai PV (.func 50 [] []) [F5] h=some (.tuple [.ptr X.F.f 0,.int .i64 0],h1))(XO:call ai PV (.func 51 [] []) [F5,.ptr X.F.f 0,.int .i64 n,.int .i64 s] h1=some (.tuple [.ptr X.M 0,.int .i64 0],g1))
  (k:Good g1 X c ρ σ (λ_=>0) (λ_=>0)) (au:σ.ax=[]) (aB:0<σ.free) :
  bN (call ai PV (.func 22 [] []) [F5,.int .i64 n,.int .i64 s] h) λv g=>∃K a8 aG m sp,v=.tuple [.ptr K.k 0,.int .i64 0]/\gj g X c a8 K aG/\K.ps=[⟨1,0,1,0⟩]/\K.ms=[⟨1,m,sp,16,0⟩]/\view c aG=[(sp,[],λ_=>none)]/\bG ρ g1 g/\(∀i,i<g1.next->a8 i=ρ i)/\∀b,b∈K.fK->g1.next<=b:=by
 refine cF adF rfl ?_;have z0:¬((0:Int)≠0):=λe=>e rfl
 simp only[XN,XO,c1,fM,List.getElem?_cons_zero,List.getElem?_cons_succ,ak,dc,decide_eq_false z0,a1,Bool.false_eq_true,if_false];refine bS (aiE k aB) ?_;rintro _ g2 ⟨dV,sp,t,f,ek,rfl,qJ,mx,bR,n0⟩;simp only[fM,List.getElem?_cons_zero,List.getElem?_cons_succ,ak,dc,decide_eq_false z0,a1,Bool.false_eq_true,if_false];refine bS (agS g2) ?_;rintro _ g3 ⟨T,P,rfl,t1,t2,t3,t4,t5,af2,ae1,bw⟩;refine UQ λg4 O qq dK gb bA=> ?_
 refine cD (show dW ai 142 [(0,.ptr sp 0),(1,.int .i64 16)]=some (.agg [.ptr sp 0,.int .i64 16,.int .i64 0])by kernel_rfl) ?_;refine b1 (ai7 (cs:=[.ptr sp 0,.int .i64 16,.int .i64 0]) rfl) λg5 cS n5 bZ=> ?_
 refine cb (UG 143 (z:=.nilPtr) (dK.aq bZ (by omega) (λe=>e)) 1 _) λg6 ⟨Ij,b3,n6⟩=> ?_
 refine cD (show dW ai 145 [(0,.ptr X.F.f 0),(1,.ptr X.M 0),(2,.ptr T 0),(3,.map O)]=some (.agg [.ptr X.F.f 0,.ptr X.M 0,.ptr T 0,.map O])by kernel_rfl) ?_;refine b1 (ai8 (cs:=[.ptr X.F.f 0,.ptr X.M 0,.ptr T 0,.map O]) rfl) λg7 dP n7 dM=> ?_
 have r5:=bw.next;have Hz:=dV.next;have Ux:aX g2 g7:=((((bw.trans bA).trans bZ).local b3 λi U e=>by omega)).trans dM;have Af:=bR.ext Ux;refine aJ.pure ⟨⟨g6.next,T,P,O,[⟨1,0,1,0⟩],[⟨1,g4.next,sp,16,0⟩]⟩,ek,_,g4.next,sp,rfl,⟨Af,⟨dP,?_,?_,Ij.aq dM (by omega) (λe=>e),λm hm=> ?_,?_,λb af=> ?_⟩⟩,rfl,rfl,?_,dV.trans (bG.ext (ρ:=ek) Ux) (λi U=>mx i U),mx,λb af=> ?_⟩
 ·exact(((af2.ext bA t3).ext bZ (by omega)).aq b3 (by omega) (λe=>by omega)).ext dM (by omega)
 ·exact(((ae1.aq bA t4 (λe=>e)).aq bZ (by omega) (λe=>e)).aq b3 (by omega) (λe=>by omega)).aq dM (by omega) (λe=>e)
 ·rw[List.mem_singleton]at hm;subst hm;exact(cS.aq b3 (by omega) (λe=>by omega)).ext dM (by omega)
 ·show[g6.next,T,P,O,g4.next].Nodup;simp only[List.nodup_cons,List.mem_cons,List.not_mem_nil,or_false,not_or,not_false_eq_true,List.nodup_nil,and_true];omega
 ·have af:b=g6.next\/b=T\/b=P\/b=O\/b=g4.next:=by simpa [eB.fK]using af
  exact⟨by omega,bR.fresh (by omega)⟩
 ·rw[n0];unfold view;rw[au];rfl
 ·have af:b=g6.next\/b=T\/b=P\/b=O\/b=g4.next:=by simpa [eB.fK]using af
  omega
theorem ahg(h:ag)(a:J)(aU:dT a=true) :bN (call ai PV (.func 45 [] []) [a] h) λv g=>(∃r,v=.ptr r 0)/\aX h g:=by
 refine cF aen rfl ?_;refine bS (P:=λv g=>(∃r,v=.ptr r 0)/\aX h g) ?_ ?_
 ·refine cF ac2 rfl ?_;refine cD (show dW ai 63 [(0,.int .i64 1),(2,.int .i64 1)]=some (.agg [.int .i64 1,.int .i64 0,.int .i64 1,.int .i64 0])by kernel_rfl) ?_;refine b1 (show gY ai 60 1 [(0,.agg [.int .i64 1,.int .i64 0,.int .i64 1,.int .i64 0])]=some (λid=>.slice id 0 1 1 4 true,.cells ([J.int .i64 1,J.int .i64 0,J.int .i64 1,J.int .i64 0] :List J).length false [] (bj.ofList [J.int .i64 1,J.int .i64 0,J.int .i64 1,J.int .i64 0]))by kernel_rfl) λg1 bU dF aW=> ?_
  refine cD (show dW ai 312 [(0,.slice h.next 0 1 1 4 true)]=some (.agg [.slice h.next 0 1 1 4 true])by kernel_rfl) ?_;refine b1 (ajh (cs:=[.slice h.next 0 1 1 4 true]) rfl) λg2 cc dS a_=> ?_
  exact aJ.pure ⟨⟨_,rfl⟩,aW.trans a_⟩
 rintro _ g1 ⟨⟨r,rfl⟩,aW⟩;have aw:a.cells=[a]:=by cases a<;>first|rfl|cases aU
 refine cD (show dW ai 213 [(0,a)]=some (.agg [a,.bh,.bh])by
  have:dW ai 213 [(0,a)]=(match kQ (λk=>A8.parts[k]?) A8.zero [(0,a)]with|some cs=>some (.agg cs) |none=>none):=by kernel_rfl
  rw[this];show(match(bif Nat.beq a.cells.length 1&&Nat.ble (0+a.cells.length) 3 then some (uu A8.zero 0 a.cells)else none)with|some cs=>some (J.agg cs) |none=>none)=_
  rw[aw];rfl) ?_
 refine b1 (ajc (cs:=[a,.bh,.bh]) rfl) λg2 cc dS a_=> ?_
 refine cD (show dW ai 215 [(0,.int .i64 1),(1,.ptr g1.next 0),(2,.int .i64 16)]=some (.agg [.int .i64 1,.ptr g1.next 0,.int .i64 16,.int .i64 0])by kernel_rfl) ?_;refine b1 (show gY ai 216 1 [(0,.agg [.int .i64 1,.ptr g1.next 0,.int .i64 16,.int .i64 0])]=some (λid=>.slice id 0 1 1 4 true,.cells ([J.int .i64 1,J.ptr g1.next 0,J.int .i64 16,J.int .i64 0] :List J).length false [] (bj.ofList [J.int .i64 1,J.ptr g1.next 0,J.int .i64 16,J.int .i64 0]))by kernel_rfl) λg3 b8 eH bw=> ?_
 refine cD (show dW ai 218 [(0,a),(1,.ptr r 0),(2,.slice g2.next 0 1 1 4 true)]=some (.agg [a,.ptr r 0,.slice g2.next 0 1 1 4 true])by
  have:dW ai 218 [(0,a),(1,.ptr r 0),(2,.slice g2.next 0 1 1 4 true)]=(match kQ (λk=>yy.parts[k]?) yy.zero [(0,a),(1,.ptr r 0),(2,.slice g2.next 0 1 1 4 true)]with|some cs=>some (.agg cs) |none=>none):=by kernel_rfl
  rw[this];show(match(bif Nat.beq a.cells.length 1&&Nat.ble (0+a.cells.length) 3 then kQ (λk=>yy.parts[k]?) (uu yy.zero 0 a.cells) [(1,.ptr r 0),(2,.slice g2.next 0 1 1 4 true)]else none)with|some cs=>some (J.agg cs) |none=>none)=_
  rw[aw];rfl) ?_
 refine b1 (ajd (cs:=[a,.ptr r 0,.slice g2.next 0 1 1 4 true]) rfl) λg4 c5 gb bA=> ?_
 exact aJ.pure ⟨⟨_,rfl⟩,((aW.trans a_).trans bw).trans bA⟩
end
theorem acK(O:bp) :bN (call ai lL (.func 62 [] []) [.bh,.int .i64 300,.int .i64 10] (cz O)) λv g=>∃X c ρ K σ m sp r cx sec,v=.tuple [.ptr K.k 0,.ptr r 0]/\gj g X c ρ K σ/\K.ps=[⟨1,0,1,0⟩]/\K.ms=[⟨1,m,sp,16,0⟩]/\view c σ=[(sp,[],λ_=>none)]/\
  c.n=300/\c.hy=fileAt cx sec/\uZ cx=0/\(∀s p,¬c.loose s p)/\g.get 1=O/\1<g.next/\ρ 1=0/\1∉K.fK:=by
 refine cF aer rfl ?_;have z0:¬((0:Int)≠0):=λe=>e rfl
 have lh:∀C:iL,fy 14 (λvs h_1=>kc vs λv akF=>kc akF λBf akG=>k6 akG (cd (eW ai h_1 104 .bh) λakA=>cd (cV ai h_1 .lss 3 Bf akA) λUK=>
  jg (iG UK true (cd (cV ai h_1 .lss 3 Bf (.int .i64 5)) λKJ=>some (.normal,[KJ],h_1)) (some (.normal,[.undef],h_1))) λx akH h_2=>kc akH λKJ KO=>k6 KO (cd (iX UK KJ (.bool false)) λakB=>
   j' akB (cd (eV ai 104 .bh Bf) λET=>cd (dJ ai h_2 103 ET) λBg=>gy (gY ai 130 1 [(0,Bg)]) h_2 λKK h_3=>eM (fJ ai h_3 130 130 v KK) λKL h_4=>cd (cV ai h_4 .add 3 Bf (.int .i64 1)) λKI=>some (.normal,[KL,KI],h_4))
    (some (.exit 0,[v,Bf],h_2))))) [.bh,.int .i64 0] (cz O)=some (.exit 0,[.bh,.int .i64 0],cz O):=λC=>by kernel_rfl
 rw[lh (call ai lL)];have ao:=H' (λvs h r e=>aiv (a2:=.int .i64 10) e) (bY O);have ao:fy 14 (yh (call ai lL) (.int .i64 10)) [wz (vC O) 0,.int .i64 0] (rS (vC O))=_:=ao;unfold yh at ao;obtain⟨g1,X,c,ρ,σ,mk⟩:=ae2 (ng O);obtain⟨cx,sec,zr,mn⟩:=mk.xa;simp only[cO,bn,bd,fZ,if_true,uN (a' O),c1,uN (bR O),fM,List.getElem?_cons_zero,List.getElem?_cons_succ,ak,ao,uN (c8 O),uN (d_ O)];have jC:=eG O;rw[mk.f]at jC;have oH:=mk.cm;unfold OI at oH;rw[mk.f]at oH;refine bS (acL (uN jC) (uN oH) mk.hh mk.ax (by rw[mk.free];decide)) ?_;rintro _ g ⟨K,a8,aG,m,sp,rfl,iW,h1,aa,av,w,ah,af⟩;simp only[fM,List.getElem?_cons_zero,List.getElem?_cons_succ,ak,dc,decide_eq_false z0,cJ,if_true,cO,bn,bd,cB,Bool.false_eq_true,if_false,a1];refine bS (ahg (PV:=lL) g _ (by kernel_rfl)) ?_;rintro _ g2 ⟨⟨r,rfl⟩,a_⟩;have mr:=mk.dF;have al:=w.next;refine aJ.pure ⟨X,c,a8,K,aG,m,sp,r,cx,sec,rfl,iW.ext a_,h1,aa,av,mk.n,zr,mn,mk.loose,?_,Nat.lt_of_lt_of_le (Nat.lt_of_lt_of_le mr al) a_.next,by rw[ah _ mr];exact mk.cg,λe=>by have:=af _ e;omega⟩;rw[a_.get 1 (by omega) (λe=>e),w.get 1 mr (λe=>e mk.cg),mk.bU]
end
def Vk:cw:=qV ((28,wh)::Aw)
instance amC:db Vk:=⟨λf h=>by
 show(bif Nat.beq f 28 then some wh else qV Aw f)=_
 have:Nat.beq f 28=false:=by
  unfold okF at h;cases af:Nat.beq f 28 with
  |false=>rfl
  |true=>rw[af]at h;cases h
 rw[this];rfl⟩
theorem ajT(a:Int){b:Int}(af:0<b) : -b<a.tmod b/\a.tmod b<b:=by
 by_cases h:0<=a
 ·rw[Int.tmod_eq_emod_of_nonneg h];exact⟨by have:=Int.emod_nonneg a (show b≠0 by omega);omega,Int.emod_lt_of_pos a af⟩
 ·obtain⟨c,rfl⟩ :∃c,a= -c:=⟨-a,by omega⟩;rw[Int.neg_tmod,Int.tmod_eq_emod_of_nonneg (by omega)];have h1:=Int.emod_nonneg c (show b≠0 by omega);have aa:=Int.emod_lt_of_pos c af;omega
theorem ahM(a:Int){b:Int}(af:0<b)(m4:b<=1000000) :∃n:Nat,(n:Int) <b/\(bF .i64 (a.tmod b+b)).tmod b=n:=by have h:=ajT a af;rw[wrap_i64 (by omega) (by omega),Int.tmod_eq_emod_of_nonneg (by omega)];have h1:=Int.emod_nonneg (a.tmod b+b) (show b≠0 by omega);have aa:=Int.emod_lt_of_pos (a.tmod b+b) af;exact⟨((a.tmod b+b) %b).toNat,by omega,by omega⟩
theorem Q1(r:aH)(p:Int) :bO [r] p=if r.has p then some r else none:=by unfold bO;rw[List.find?_cons];cases r.has p<;>rfl
section
variable{h g:ag}{X:dQ}{c:cN}{ρ a8:Nat->Nat}{σ aG:b0}{PV:cw} [db PV]
theorem Cd(k:Good h X c ρ σ (λ_=>0) (λ_=>0))(eU:∀s p,¬c.loose s p)(h0:σ.ax=[]){s t f:Nat}{g2:ag}{ek:Nat->Nat}
  (bR:Good g2 X c ek {σ with mem:=aq σ.mem f 0,held:=aq σ.held f 1,free:=σ.free-1,ax:=σ.ax++[⟨s,t,eP f,[]⟩]} (λ_=>0) (λ_=>0)) {r:aH} (hm:r.may=true) (aj:r.kind≠1) :
  bN (call ai PV (.func 31 [] []) [.ptr s 0,.agg r.vs] g2) λv g=>v=.int .i64 0/\bG ek g2 g/\∃nB U6,Good g X c U6 nB (λ_=>0) (λ_=>0)/\nB.free=σ.free-1/\nB.ring=σ.ring/\nB.used=σ.used/\view c nB=[(s,[r],λp:Nat=>if r.has p then some 0 else none)]:=by
 have dO:({σ with mem:=aq σ.mem f 0,held:=aq σ.held f 1,free:=σ.free-1,ax:=σ.ax++[⟨s,t,eP f,[]⟩]} :b0).ax=[]++(⟨s,t,eP f,[]⟩ :bD)::[]:=by rw[h0]
 refine bN.mono (Pu bR eU dO r) ?_;rintro v g ⟨w,⟨hU,_⟩ |⟨_,⟨y,an,_⟩,_⟩ |⟨_,_,rfl,K7,_,c8⟩⟩
 ·rw[hm]at hU;cases hU
 ·cases an
 ·refine⟨rfl,w,_,K7,c8,rfl,rfl,rfl,?_⟩
  have ae:∀aG:b0,aG.ax=[]++({(⟨s,t,eP f,[]⟩ :bD)with L:=(fO r []).foldl c6 []} :bD)::[]->view c aG=[(s,[r],λp:Nat=>if r.has p then some 0 else none)]:=λaG h=>by
   unfold view;rw[h];have aw:(fO r []).foldl c6 []=[r]:=Oq r (lB hm).2.1;rw[aw]
   have aL:cont c aG ⟨s,t,eP f,[r]⟩=λp:Nat=>if r.has p then some 0 else none:=funext λp=>by
    rw[L_ (show(eP f).ent p=.zero from rfl)];unfold BJ;show(bO [r] p).map _=_;rw[Q1];by_cases aC:r.has p=true
    ·rw[if_pos aC,if_pos aC];show some (base c r p)=_;unfold base;rw[if_neg aj]
    ·rw[if_neg aC,if_neg aC];rfl
   show[(s,[r],cont c aG ⟨s,t,eP f,[r]⟩)]=_;rw[aL]
  exact ae _ rfl
end
section
attribute [local instance 2000] amD
def lK(n:Nat) :List aH:=if n=0 then[]else[e8 16 (16+n)]
theorem Vh:∀n,n<=32->D1 [lK n]<=200:=by decide+kernel
theorem Vf{n j:Nat}(az:j<4096){use:Int}(hu:use=1\/use=2) :ke (lK n) j use↔16<=j/\j<16+n:=by
 unfold ke lK;by_cases h0:n=0
 ·rw[if_pos h0];constructor
  ·rintro⟨r,h,_⟩;cases h
  ·omega
 ·rw[if_neg h0];constructor
  ·rintro⟨r,h,_⟩;have:=(mL h).2;have h1:=(mL h).1;rw[List.mem_singleton]at h1;subst h1;have aa:(16:Int)<=j/\(j:Int) <16+n:=this;omega
  ·intro h;refine⟨e8 16 (16+n),?_,?_⟩
   ·rw[Q1,if_pos];show decide ((16:Int)<=(j:Int)/\(j:Int) <16+n)=true;rw[decide_eq_true_eq];omega
   ·rcases hu with rfl|rfl
    ·show kh 6 1=true;decide
    ·show kh 6 2=true;decide
theorem Le{n m:Nat}(h:n<m)(hm:m<=32) :(e8 (16+n) (16+m)).may=true/\(∀y,y∈lK n->meets (e8 (16+n) (16+m)) y=false)/\(fO (e8 (16+n) (16+m)) (lK n)).foldl c6 []=lK m:=by
 refine⟨?_,λy an=> ?_,?_⟩
 ·exact Ip ⟨by show(0:Int)<=16+n;omega,by show(16:Int) +n<16+m;omega,by show(16:Int) +m<=4096;omega,by show(0:Int)<=6;decide,by show(6:Int)<=7;decide,by show(1:Int) <3/\(3:Int)<=4/\(-1:Int)= -1/\(0:Int)=0;decide⟩
 ·unfold lK at an;by_cases h0:n=0
  ·rw[if_pos h0]at an;cases an
  ·rw[if_neg h0,List.mem_singleton]at an;subst an;unfold meets e8;simp only[decide_eq_false_iff_not];omega
 ·unfold lK;rw[if_neg (show¬m=0 by omega)];by_cases h0:n=0
  ·rw[if_pos h0,Oq _ (by show(16:Int) +n<16+m;omega),h0];rfl
  ·rw[if_neg h0]
   have aw:fO (e8 (16+n) (16+m)) [e8 16 (16+n)]=[e8 16 (16+n),e8 (16+n) (16+m)]:=by unfold fO;rw[if_neg (by show¬(16:Int) +m<=16;omega)];rfl
   rw[aw];show c6 (c6 [] (e8 16 (16+n))) (e8 (16+n) (16+m))=_
   have aL:c6 [] (e8 16 (16+n))=[e8 16 (16+n)]:=by unfold c6;rw[if_neg (by show¬(16:Int) +n<=16;omega)];rfl
   rw[aL];unfold c6;rw[if_neg (by show¬(16:Int) +m<=16+n;omega)];show(if(e8 16 (16+n)).one (e8 (16+n) (16+m))=true then _ else _)=_;rw[if_pos (by unfold aH.one e8;simp)];rfl
theorem Vg{n m:Nat}(h:m<n)(al:n<=32) :qd (lK n) (16+m) (16+n)=lK m:=by
 unfold qd lK;rw[if_neg (show¬n=0 by omega)]
 have aw:[e8 16 (16+n)].flatMap (fT (16+m) (16+n))=[(e8 16 (16+n)).part 16 (16+m),(e8 16 (16+n)).part (16+n) (16+n)]:=by show fT (16+m) (16+n) (e8 16 (16+n))++[]=_;unfold fT;rw[if_neg (by show¬((16:Int) +n<=16+m\/(16:Int) +n<=16+m\/(16:Int) +n<=16);omega)];rfl
 rw[aw];show c6 (c6 [] ((e8 16 (16+n)).part 16 (16+m))) ((e8 16 (16+n)).part (16+n) (16+n))=_
 have bo:∀l,c6 l ((e8 16 (16+n)).part (16+n) (16+n))=l:=λl=>by unfold c6;rw[if_pos (by show(16:Int) +n<=16+n;omega)]
 rw[bo];by_cases h0:m=0
 ·rw[if_pos h0];unfold c6;rw[if_pos (by show(16:Int) +m<=16;omega)]
 ·rw[if_neg h0];unfold c6;rw[if_neg (by show¬(16:Int) +m<=16;omega)];rfl
theorem UP{x w:Bool}{a b:Option br}{Q:cW->List J->ag->Prop}(h:aJ (if x=w then a else b) Q) :aJ (iG (.bool x) w a b) Q:=by rw[cJ];exact h
theorem KV{w:Bool}{a b:Option br}{Q:cW->List J->ag->Prop}(h:aJ b Q) :aJ (iG .undef w a b) Q:=h
def Ld(n:Nat)(W:Nat->Nat)(F:Nat->Option Nat) :Prop:=∀j,j<n->∃m,F (16+j)=some m/\m<2^512/\bT m 8 8=W j
theorem Wa(n:Int) :dW ai 69 [(0,.int .i64 8),(1,.int .i64 1),(3,.int .i64 n)]=some (.agg (⟨8,1,0,n,0,0,0,.bh,.bh,0,rfl,rfl⟩ :oy).vs):=by kernel_rfl
theorem Wb(a:Int) :dW ai 69 [(0,.int .i64 5),(1,.int .i64 1),(2,.int .i64 a),(4,.int .i64 4)]=some (.agg (⟨5,1,a,0,4,0,0,.bh,.bh,0,rfl,rfl⟩ :oy).vs):=by kernel_rfl
theorem Wc(a b:Int) :dW ai 69 [(0,.int .i64 6),(1,.int .i64 1),(2,.int .i64 a),(4,.int .i64 4),(8,.int .u64 b)]=some (.agg (⟨6,1,a,0,4,0,0,.bh,.bh,b,rfl,rfl⟩ :oy).vs):=by kernel_rfl
theorem aj2(O:bp) :call ai lL (.func 61 [] []) [] (cz O)=some (.bool true,cz O):=QB (q:=wh) (by kernel_rfl) (by kernel_rfl)
def rb(W:Nat->Nat) :List J:=(List.range 32).map λj=>J.int .u64 (W j:Nat)
theorem Bl(W:Nat->Nat) :(rb W).length=32:=by simp[rb]
theorem EZ{W:Nat->Nat}{j:Nat}(az:j<32) :(rb W)[j]? =some (.int .u64 (W j:Nat)):=by simp[rb,az]
theorem akT{W:Nat->Nat}{j n:Nat}(az:j<32) :(rb W).set j (.int .u64 (n:Nat))=rb (λk=>if k=j then n else W k):=by
 refine List.ext_getElem? λi=> ?_
 rw[List.getElem?_set,Bl];by_cases U:i<32
 ·rw[EZ U,EZ U];by_cases e:j=i
  ·subst e;simp[U]
  ·rw[if_neg e,if_neg (λh=>e h.symm)]
 ·rw[List.getElem?_eq_none (by rw[Bl];omega),List.getElem?_eq_none (by rw[Bl];omega),if_neg (by omega)]
section
variable{X:dQ}{c:cN}
structure hs(X:dQ)(c:cN)(O:bp)(A:Nat)(fD sp:Nat)(cq:Nat)(V W:Nat->Nat)(g:ag) :Prop where
 ex:∃ρ K σ F m,gj g X c ρ K σ/\K.k=fD/\K.ps=[⟨1,0,1,0⟩]/\K.ms=[⟨1,m,sp,16,cq⟩]/\view c σ=[(sp,lK cq,F)]/\Ld cq V F/\ρ 1=0/\1∉K.fK/\ρ A=0/\A∉K.fK
 arr:a6.Obj g A (rb W)
 lt:A<g.next/\1<g.next/\A≠1
 bU:g.get 1=O
theorem hs.ca{O:bp}{A fD sp cq:Nat}{V W:Nat->Nat}{g bH:ag}(s:hs X c O A fD sp cq V W g)(u:aX g bH) :hs X c O A fD sp cq V W bH:=by obtain⟨ρ,K,σ,F,m,h1,aa⟩:=s.ex;exact⟨⟨ρ,K,σ,F,m,h1.ext u,aa⟩,s.arr.ext u s.lt.1,⟨Nat.lt_of_lt_of_le s.lt.1 u.next,Nat.lt_of_lt_of_le s.lt.2.1 u.next,s.lt.2.2⟩,by rw[u.get _ s.lt.2.1 (λe=>e)];exact s.bU⟩
theorem hs.Ls{O:bp}{A fD sp cq:Nat}{V W:Nat->Nat}{g bH:ag}(s:hs X c O A fD sp cq V W g){j n:Nat}(az:j<32)(o:a6.Obj bH A ((rb W).set j (.int .u64 (n:Nat))))(u:aF (λi=>i=A) g bH) :hs X c O A fD sp cq V (λk=>if k=j then n else W k) bH:=by obtain⟨ρ,K,σ,F,m,h1,aa,av,aO,bb,cp,gC,dR,kr,lp⟩:=s.ex;exact⟨⟨ρ,K,σ,F,m,h1.ca u (λi e _=>by subst e;exact⟨kr,lp⟩),aa,av,aO,bb,cp,gC,dR,kr,lp⟩,by rw[<-akT az];exact o,⟨Nat.lt_of_lt_of_le s.lt.1 u.next,Nat.lt_of_lt_of_le s.lt.2.1 u.next,s.lt.2.2⟩,by rw[u.get _ s.lt.2.1 (λe=>s.lt.2.2 e.symm)];exact s.bU⟩
theorem hs.back{O:bp}{A fD sp cq Cr:Nat}{V tf W:Nat->Nat}{g bH:ag}(s:hs X c O A fD sp cq V W g){ρ a8:Nat->Nat}{K hd:eB}{aG:b0}(gC:ρ 1=0)(dR:1∉K.fK)(kr:ρ A=0)(lp:A∉K.fK)(hV:jx ρ K g bH)(ah:∀i,i<g.next->a8 i=ρ i)(aj:∀i,i<g.next->i∈hd.fK->i∈K.fK)(iW:gj bH X c a8 hd aG)
  (aw:hd.k=fD) (aL:hd.ps=[⟨1,0,1,0⟩]) {m:Nat} (bo:hd.ms=[⟨1,m,sp,16,(Cr:Nat)⟩]) {E':Nat->Option Nat} (eh:view c aG=[(sp,lK Cr,E')]) (e6:Ld Cr tf E') :hs X c O A fD sp Cr tf W bH:=
 ⟨⟨a8,hd,aG,E',m,iW,aw,aL,bo,eh,e6,by rw[ah 1 s.lt.2.1];exact gC,λe=>dR (aj 1 s.lt.2.1 e),by rw[ah A s.lt.1];exact kr,λe=>lp (aj A s.lt.1 e)⟩,
  s.arr.aq hV s.lt.1 (λe=>e.elim (λe=>e kr) lp),⟨Nat.lt_of_lt_of_le s.lt.1 hV.next,Nat.lt_of_lt_of_le s.lt.2.1 hV.next,s.lt.2.2⟩,by rw[hV.get 1 s.lt.2.1 (λe=>e.elim (λe=>e gC) dR)];exact s.bU⟩
theorem Zx{O:bp}{A fD sp cq n:Nat}{V W:Nat->Nat}{g:ag}(s:hs X c O A fD sp cq V W g)(eU:∀s p,¬c.loose s p)(aC:cq<=32)(al:n<=32) :
  bN (call ai lL (.func 46 [] []) [.ptr fD 0,.agg (⟨8,1,0,n,0,0,0,.bh,.bh,0,rfl,rfl⟩ :oy).vs] g) λv bH=>v=q8 0 ((16+n) *64) 0/\hs X c O A fD sp n (λj=>if j<cq then V j else 0) W bH:=by
 obtain⟨ρ,K,σ,F,m,iW,rfl,av,aO,bb,cp,gC,dR,kr,lp⟩:=s.ex;refine bN.mono (Mk (f:=194) (p:=⟨1,0,1,0⟩) (m:=⟨1,m,sp,16,cq⟩) iW ⟨8,1,0,n,0,0,0,.bh,.bh,0,rfl,rfl⟩ rfl (by rw[av];rfl) rfl (by rw[aO];rfl) λg1 a'=>Wj (a:=[]) (b:=[]) (m:=⟨1,m,sp,16,cq⟩) a' eU _ (by rw[aO];simp) ⟨by show(0:Int)<=16;decide,by show(16:Int)<=4096;decide⟩ ⟨by show(0:Int)<=cq;omega,by show(cq:Int)<=32;omega⟩ bb) ?_;rintro v bH ⟨hV,e,q,b,rfl,a8,hd,aG,ah,aj,tS,rfl,⟨af,_⟩ |⟨_,_,bK,af,_⟩ |⟨_,_,hT,rfl,rfl,rfl,ae⟩⟩
 ·exact absurd ⟨by show(0:Int)<=n;omega,by show(n:Int)<=32;omega⟩ af
 ·have bK:(cq:Int) <n:=bK;obtain⟨aW,a_,_⟩:=Le (n:=cq) (m:=n) (by omega) al;rcases af with af|⟨y,an,af⟩
  ·have af:(e8 (16+cq) (16+n)).may=false:=af;rw[aW]at af;cases af
  ·have af:meets (e8 (16+cq) (16+n)) y=true:=af;rw[a_ y an]at af;cases af
 ·refine⟨rfl,?_⟩
  have j5:(K.sK m n).ms=[⟨1,m,sp,16,(n:Nat)⟩]:=by unfold eB.sK;rw[aO];simp
  have ae:view c aG=uK c [] [] sp (lK cq) F 16 cq n:=ae;unfold uK at ae;by_cases bc:(cq:Int) <n
  ·rw[if_pos bc]at ae;obtain⟨_,_,bw⟩:=Le (n:=cq) (m:=n) (by omega) al;rw[bw]at ae;refine s.back gC dR kr lp hV ah aj tS rfl av j5 ae λj az=> ?_
   have aw:(e8 (16+cq) (16+n)).has ((16+j:Nat) :Int)=decide (cq<=j):=by show decide ((16:Int) +cq<=((16+j:Nat) :Int)/\((16+j:Nat) :Int) <16+n)=_;rw[Bool.eq_iff_iff,decide_eq_true_eq,decide_eq_true_eq];omega
   try dsimp only
   rw[aw];by_cases bW:j<cq
   ·rw[if_neg (by simp;omega),if_pos bW];exact cp j bW
   ·rw[if_pos (by simp;omega),if_neg bW];exact⟨0,rfl,Nat.two_pow_pos _,by decide⟩
  ·rw[if_neg bc]at ae;by_cases bW:(n:Int) <cq
   ·rw[if_pos bW,Vg (by omega) aC]at ae;refine s.back gC dR kr lp hV ah aj tS rfl av j5 ae λj az=> ?_
    try dsimp only
    rw[if_neg (by omega),if_pos (by omega)];exact cp j (by omega)
   ·rw[if_neg bW]at ae;obtain rfl:n=cq:=by omega
    exact s.back gC dR kr lp hV ah aj tS rfl av j5 ae λj az=>(by rw[if_pos az];exact cp j az)
theorem N_{O:bp}{A fD sp cq j:Nat}{V W:Nat->Nat}{g:ag}(s:hs X c O A fD sp cq V W g)(ay:Quiet c [lK cq])(aC:cq<=32)(az:j<32){op:Int}(mu:op=5\/op=6){bits:Nat}(af:bits<2^64) :
  bN (call ai lL (.func 46 [] []) [.ptr fD 0,.agg (⟨op,1,((64*(16+j) +8:Nat) :Int),0,4,0,0,.bh,.bh,bits,rfl,rfl⟩ :oy).vs] g) λv bH=>∃e t,v=q8 e 0 t/\
   ((cq<=j/\e=19/\t=0/\hs X c O A fD sp cq V W bH)\/(j<cq/\e=0/\((op=5/\t=(V j:Nat)/\hs X c O A fD sp cq V W bH)\/(op=6/\t=0/\hs X c O A fD sp cq (λk=>if k=j then bits else V k) W bH)))):=by
 obtain⟨ρ,K,σ,F,m,iW,rfl,av,aO,bb,cp,gC,dR,kr,lp⟩:=s.ex;have ao:(64*(16+j) +8) /64=16+j/\(64*(16+j) +8) %64=8:=by omega
 have iJ:bM 4=8:=rfl
 have core:∀{use:Int},use=(if op=6 then 2 else 1)->use=1\/use=2->bN (call ai lL (.func 46 [] []) [.ptr K.k 0,.agg (⟨op,1,((64*(16+j) +8:Nat) :Int),0,4,0,0,.bh,.bh,bits,rfl,rfl⟩ :oy).vs] g) λv bH=>∃e t,v=q8 e 0 t/\
   ((cq<=j/\e=19/\t=0/\hs X c O A K.k sp cq V W bH)\/(j<cq/\e=0/\t=(if use=2 then 0 else((V j:Nat) :Int))/\hs X c O A K.k sp cq (λk=>if k=j/\use=2 then bits else V k) W bH)):=λ{use} hu pO=>by
  refine bN.mono (Mk (f:=192) (p:=⟨1,0,1,0⟩) (m:=⟨1,m,sp,16,cq⟩) iW ⟨op,1,((64*(16+j) +8:Nat) :Int),0,4,0,0,.bh,.bh,bits,rfl,rfl⟩ (by rcases mu with rfl|rfl<;>rfl) (by rw[av];rfl) rfl (by rw[aO];rfl) λg1 a'=>akp (a:=[]) (b:=[]) (m:=⟨1,m,sp,16,cq⟩) a' (by rw[bb];exact ay) _ (by rw[aO];simp) (kd:=4) (.inr (.inr (.inr rfl))) rfl (addr:=64*(16+j) +8) (bits:=bits) rfl (by omega) (by rw[iJ];omega) rfl af mu bb (use:=use) hu) ?_;rintro v bH ⟨hV,e,q,b,rfl,a8,hd,aG,ah,aj,tS,rfl,rfl,aA⟩;rw[ao.1,ao.2,iJ,Vf (by omega) pO]at aA;refine⟨e,b,rfl,?_⟩;rcases aA with⟨aU,rfl,rfl,ae⟩ |⟨aU,rfl,y,an,aN,ae⟩
  ·exact .inl ⟨by omega,rfl,rfl,s.back gC dR kr lp hV ah aj tS rfl av aO (ae.trans bb) cp⟩
  ·have NB:j<cq:=by omega
   obtain⟨so,zC,bK,xw⟩:=cp j NB;rw[an]at zC;obtain rfl:=Option.some.inj zC;refine .inr ⟨NB,rfl,by rw[aN,xw],s.back gC dR kr lp hV ah aj tS rfl av aO ae λk iR=> ?_⟩;unfold mM nz;have Zw:bT bits 0 8=bits:=DA af;by_cases e:k=j
   ·subst e;rw[if_pos rfl];by_cases aa:use=2
    ·exact⟨_,rfl,by rw[if_pos aa];exact DT (K:=64) bK (ky _ _ _) (by omega),by rw[if_pos aa,if_pos ⟨rfl,aa⟩,vL (ky _ _ _),Zw]⟩
    ·exact⟨_,rfl,by rw[if_neg aa];exact bK,by rw[if_neg aa,if_neg (λh=>aa h.2),xw]⟩
   ·rw[if_neg (by omega),if_neg (λh=>e h.1)];exact cp k iR
 rcases mu with rfl|rfl
 ·refine bN.mono (core (use:=1) rfl (.inl rfl)) ?_;rintro v bH ⟨e,t,rfl,⟨h1,aa,av,aO⟩ |⟨h1,aa,av,aO⟩⟩
  ·exact⟨e,t,rfl,.inl ⟨h1,aa,av,aO⟩⟩
  ·refine⟨e,t,rfl,.inr ⟨h1,aa,.inl ⟨rfl,av,?_⟩⟩⟩;have:(λk=>if k=j/\(1:Int)=2 then bits else V k)=V:=funext λk=>if_neg (λh=>absurd h.2 (by decide))
   rwa[this]at aO
 ·refine bN.mono (core (use:=2) rfl (.inr rfl)) ?_;rintro v bH ⟨e,t,rfl,⟨h1,aa,av,aO⟩ |⟨h1,aa,av,aO⟩⟩
  ·exact⟨e,t,rfl,.inl ⟨h1,aa,av,aO⟩⟩
  ·refine⟨e,t,rfl,.inr ⟨h1,aa,.inr ⟨rfl,av,?_⟩⟩⟩;have:(λk=>if k=j/\(2:Int)=2 then bits else V k)=λk=>if k=j then bits else V k:=funext λk=>by simp
   rwa[this]at aO
end
end
section
set_option maxRecDepth 10000
set_option maxHeartbeats 4000000
attribute [local instance 2000] amD
theorem Vv:hN ai 121=some (λid=>J.ptr id 0,.cells (rb λ_=>0).length false [] (bj.ofList (rb λ_=>0))):=by kernel_rfl
theorem wD{a b:Option br}{Q:cW->List J->ag->Prop}(h:aJ a Q) :aJ (iG (.bool true) true a b) Q:=h
theorem Bm{a b:Option br}{Q:cW->List J->ag->Prop}(h:aJ a Q) :aJ (iG (.bool false) false a b) Q:=h
theorem KU{a b:Option br}{Q:cW->List J->ag->Prop}(h:aJ b Q) :aJ (iG (.bool true) false a b) Q:=h
theorem KT{a b:Option br}{Q:cW->List J->ag->Prop}(h:aJ b Q) :aJ (iG (.bool false) true a b) Q:=h
theorem E0{a b:Option br}{Q:cW->List J->ag->Prop}(h:aJ a Q) :aJ (j' (.bool true) a b) Q:=h
theorem Bn{a b:Option br}{Q:cW->List J->ag->Prop}(h:aJ b Q) :aJ (j' (.bool false) a b) Q:=h
theorem KS{f:ag->Option J}{v:J}{k:Option br}{Q:cW->List J->ag->Prop}(h:aJ k Q) :aJ (hZ [] f v k) Q:=h
theorem Av(x y:J) :iX (.bool true) x y=some x:=rfl
theorem Je(x y:J) :iX (.bool false) x y=some y:=rfl
theorem acI{a0:J}{O:bp}{zs:List Int}(hlen:∀h,eW ai h 64 a0=some (.int .i64 zs.length))(gP:zs.length<2^63)
  (xq:∀i z,zs[i]? =some z->∃p,eV ai 64 a0 (.int .i64 (i:Nat))=some p/\∀h,h.get 1=O->dJ ai h 3 p=some (.int .i64 z)) :∃g,call ai lL (.func 16 [] []) [a0] (cz O)=some (.bool true,g):=by
 have key:bN (call ai lL (.func 16 [] []) [a0] (cz O)) λv g=>v=.bool true:=by
  refine cF adb rfl ?_;rw[aj2];refine bS (P:=λv g=>v=.bool true/\g=cz O) ⟨_,_,rfl,rfl,rfl⟩ ?_;rintro _ _ ⟨rfl,rfl⟩;refine bS (acK O) ?_;rintro _ g1 ⟨X,c,ρ,K,σ,m,sp,r,cx,sec,rfl,iW,vl,j5,ae,rX,zr,CD,eU,aaW,mr,hB,jk⟩;have ay:∀n,n<=32->Quiet c [lK n]:=λn al=>quiet_of eU zr (by have:=Vh n al;rw[rX,CD];omega)
  refine cD (fM _ _) ?_;refine cD (fM _ _) ?_;refine cD (Su _ _ _) ?_;refine aJ.mono (P:=λx vs g=>vs=[.bool true]) ?_ (λx vs g h=>by rw[h];rfl);rw[a1,if_neg (by decide)];refine b1 Vv λg2 cc dS a_=> ?_
  have eR:hs X c O g1.next K.k sp 0 (λ_=>0) (λ_=>0) g2:=⟨⟨ρ,K,σ,_,m,iW.ext a_,rfl,vl,by rw[j5];rfl,ae,λj az=>absurd az (Nat.not_lt_zero _),hB,jk,iW.hh.fresh (Nat.le_refl _),λe=>by have:=(iW.eN.lt _ e).1;omega⟩,cc,⟨by omega,by omega,by omega⟩,by rw[a_.get 1 mr (λe=>e)];exact aaW⟩;generalize K.k=fD at eR
  refine gW (n:=14) (I:=λi vs g=>∃z cq V W,vs=[z,.int .i64 (cq:Nat),.int .i64 (i:Nat)]/\cq<=32/\i<=12/\hs X c O g1.next fD sp cq V W g/\∀j,j<cq->W j=V j) (m:=12)
   (P:=λy vs g=>y=.exit 0/\(∃z a b,vs=[z,a,b])/\∃cq V W,hs X c O g1.next fD sp cq V W g) (by decide) ⟨_,0,_,_,rfl,by omega,by omega,eR,λj az=>absurd az (Nat.not_lt_zero _)⟩ ?_ ?_
  ·rintro i _ g U ⟨z,cq,V,W,rfl,aC,al3,s,Zg⟩;refine aJ.mono (P:=λy vs g=>(y=.normal/\i<12/\∃z cq V W,vs=[z,.int .i64 (cq:Nat),.int .i64 ((i+1:Nat))]/\cq<=32/\hs X c O g1.next fD sp cq V W g/\∀j,j<cq->W j=V j)\/(y=.exit 0/\(∃z a b,vs=[z,a,b])/\∃cq V W,hs X c O g1.next fD sp cq V W g)) ?_ ?_
   rotate_left
   ·rintro y vs g (⟨rfl,h1,z,cq,V,W,aa,av,aO⟩ |⟨rfl,h1⟩)
    ·exact .inl ⟨rfl,h1,z,cq,V,W,aa,av,h1,aO⟩
    ·exact .inr ⟨by simp,rfl,h1⟩
   rw[bn,bn,bn,bd];refine cD (hlen _) ?_;refine cD (cQ _ _ _) ?_;refine fV (P:=λy vs bH=>bH=g/\∃q,vs=[q]/\iX (.bool (decide ((i:Int) <zs.length))) q (.bool false)=some (.bool (decide (i<zs.length/\i<12)))) ?_ ?_
   ·refine UP ?_;by_cases bc:(i:Int) <zs.length
    ·rw[if_pos (decide_eq_true bc)];refine cD (cQ _ _ _) (aJ.pure ⟨rfl,_,rfl,?_⟩);rw[cB,decide_eq_true bc];simp only[if_true];congr 2;rw[Bool.eq_iff_iff,decide_eq_true_eq,decide_eq_true_eq];omega
    ·rw[if_neg (by rw[decide_eq_false bc];decide)];refine aJ.pure ⟨rfl,_,rfl,?_⟩;rw[cB,decide_eq_false bc];simp only[Bool.false_eq_true,if_false];congr 2;rw[eq_comm,decide_eq_false_iff_not];omega
   rintro _ _ _ ⟨rfl,q,rfl,nW⟩;rename_i g;rw[bn,bd];refine cD nW ?_;rw[a1];by_cases bc:i<zs.length/\i<12
   ·rw[if_pos (decide_eq_true bc)];obtain⟨E7,ab0⟩ :∃E7,zs[i]? =some E7:=⟨_,List.getElem?_eq_getElem bc.1⟩;obtain⟨p,zI,mv⟩:=xq i E7 ab0;obtain⟨n,al,XS⟩:=ahM E7 (b:=33) (by decide) (by decide);have al:n<=32:=by omega
    refine cD zI ?_;refine cD (mv _ s.bU) ?_;refine cD (ti .i64 (by decide)) ?_;refine cD (cP _ _ _) ?_;refine cD (ti .i64 (by decide)) ?_;rw[XS];refine cD (Wa _) ?_;refine bS (Zx s eU aC al) ?_;rintro _ g3 ⟨rfl,du⟩;refine b1 v_ λg4 c5 gb bA=> ?_
    refine cb (pf (k:=0) (cs:=[.int .i64 0,.int .i64 ((16+n) *64),.int .u64 0]) c5 rfl (by simp) rfl) λg5 ⟨cS,bZ,n5⟩=> ?_
    have cS:=dC cS rfl;have jO:=du.ca (bA.local bZ λi U e=>by omega);refine cD (Ey _ _) ?_;refine cD ((EC _ _ _).trans (cS.get (i:=0) rfl)) ?_;refine cD (dc _ _ _) ?_;refine fV (P:=λy vs bH=>bH=g5/\vs=[.bool false]) ?_ ?_
    ·refine UP ?_;rw[if_pos (by decide)];refine cD (ajF _ _) ?_;refine cD ((b6 _ _ _).trans (cS.get (i:=1) rfl)) ?_;refine cD (cP _ _ _) ?_;refine cD (k' _ _ _) ?_;refine cD (dc _ _ _) (aJ.pure ⟨rfl,?_⟩);rw[wrap_i64 (show-9223372036854775808<=16+(n:Int)by omega) (by omega),wrap_i64 (by omega) (by omega),decide_eq_false (by rw[Int.mul_comm];exact λe=>e rfl)]
    rintro _ _ _ ⟨rfl,rfl⟩;rename_i g5;rw[bn,bd];refine cD (cB _ _ _) ?_;rw[if_neg (by decide),a1,if_neg (by decide)]
    refine gW (n:=14) (I:=λt vs g=>vs=[.int .i64 ((cq+t:Nat))]/\t<=n-cq/\∃hM,hs X c O g1.next fD sp n (λj=>if j<cq then V j else 0) hM g/\(∀j,j<cq->hM j=W j)/\∀j,cq<=j->j<cq+t->hM j=0) (m:=n-cq)
     (P:=λy vs g=>y=.exit 2/\(∃z,vs=[z])/\∃hM,hs X c O g1.next fD sp n (λj=>if j<cq then V j else 0) hM g/\∀j,j<n->hM j=if j<cq then V j else 0) (by omega) ⟨rfl,Nat.zero_le _,W,jO,λ_ _=>rfl,λj h1 aa=>by omega⟩ ?_ ?_
    ·rintro t _ g6 aN ⟨rfl,_,hM,kA,Nc,Nd⟩;rw[bn,bd];refine cD (cQ _ _ _) ?_;rw[a1];by_cases bW:cq+t<n
     ·rw[if_pos (by rw[decide_eq_true_eq];omega)];refine cD (Ez (by omega)) ?_;refine cb (Sz (k:=0+(cq+t)) (v:=.int .u64 ((0:Nat) :Int)) kA.arr (by rw[Bl];omega) rfl rfl) λg7 ⟨dP,dM,n7⟩=> ?_
      rw[Nat.zero_add]at dP;refine cD (cP _ _ _) ?_;refine aJ.pure (.inl ⟨rfl,by omega,?_,by omega,_,kA.Ls (by omega) dP dM,λj az=> ?_,λj h1 aa=> ?_⟩)
      ·rw[wrap_i64 (by omega) (by omega)];congr 2
      ·rw[if_neg (by omega)];exact Nc j az
      ·by_cases e:j=cq+t
       ·rw[if_pos e]
       ·rw[if_neg e];exact Nd j h1 (by omega)
     ·rw[if_neg (by rw[decide_eq_true_eq];omega)];refine aJ.pure (.inr ⟨by simp,rfl,⟨_,rfl⟩,hM,kA,λj az=> ?_⟩);by_cases e:j<cq
      ·rw[if_pos e,Nc j e];exact Zg j e
      ·rw[if_neg e];exact Nd j (by omega) (by omega)
    rintro _ _ g6 ⟨rfl,⟨z2,rfl⟩,Lj,kA,GK⟩;obtain⟨By,Na⟩ :∃By:Nat->Nat,By=λj=>if j<cq then V j else 0:=⟨_,rfl⟩
    rw[<-Na]at kA;replace GK:∀j,j<n->Lj j=By j:=λj az=>by rw[Na];exact GK j az
    rw[bn,bd,fZ,if_pos rfl]
    refine gW (n:=14) (I:=λj vs g=>(∃z,vs=[z,.int .i64 (j:Nat)])/\j<=32/\∃V W,hs X c O g1.next fD sp n V W g/\∀j,j<n->W j=V j) (m:=32)
     (P:=λy vs g=>y=.exit 4/\(∃z a,vs=[z,a])/\∃V W,hs X c O g1.next fD sp n V W g/\∀j,j<n->W j=V j) (by decide) ⟨⟨_,rfl⟩,by omega,By,Lj,kA,GK⟩ ?_ ?_
    ·rintro j _ g7 az ⟨⟨U1,rfl⟩,_,Bz,BA,yd,xf⟩;rw[bn,bn,bd];refine cD (cQ _ _ _) ?_;rw[a1];by_cases bW:j<32
     ·rw[if_pos (by rw[decide_eq_true_eq];omega)];refine fV (P:=λy vs g=>y=.normal/\(∃z,vs=[z])/\∃V W,hs X c O g1.next fD sp n V W g/\∀j,j<n->W j=V j) ?_ ?_
      ·refine cD (cP _ _ _) ?_;refine cD (k' _ _ _) ?_;refine cD (cP _ _ _) ?_
       have lj:bF .i64 (bF .i64 (64*bF .i64 (16+(j:Int))) +8)=((64*(16+j) +8:Nat) :Int):=by rw[wrap_i64 (n:=16+(j:Int)) (by omega) (by omega),wrap_i64 (n:=64*(16+(j:Int))) (by omega) (by omega),wrap_i64 (by omega) (by omega)];omega
       rw[lj];refine cD (Wb _) ?_;refine bS (N_ yd (ay n al) al bW (.inl rfl) (bits:=0) (by decide)) ?_;rintro _ g8 ⟨e,b,rfl,aA⟩;refine b1 v_ λg9 su n9 e2=> ?_
       refine cb (pf (k:=0) (cs:=[.int .i64 e,.int .i64 0,.int .u64 b]) su rfl (by simp) rfl) λg10 ⟨mH,gV,n10⟩=> ?_
       have mH:=dC mH rfl;have u8:aX g8 (g10.aV 26):=(e2.local gV λi U e=>by omega).trans (aF.aV _ _ _);have qR:=mH.ext (aF.aV (λ_=>False) g10 26) (by omega);refine cD (fk _ _ _) ?_;rcases aA with⟨h1,rfl,rfl,sI⟩ |⟨h1,rfl,⟨_,rfl,sI⟩ |⟨aa,_⟩⟩
       ·have sJ:=sI.ca u8;rw[decide_eq_true (by omega:(n:Int)<=j)];refine wD ?_;refine cD (Ey _ _) ?_;refine cD ((EC _ _ _).trans (qR.get (i:=0) rfl)) ?_;refine cD (dc _ _ _) ?_;rw[decide_eq_false (by decide:¬(19:Int)≠19)];refine cD rfl ?_;refine Bm ?_;refine cD (cQ _ _ _) ?_;rw[decide_eq_false (by omega:¬(j:Int) <n)];repeat first|refine wD ?_ |refine Bm ?_ |refine KU ?_ |refine KT ?_ |refine KV ?_ |refine KS ?_ |refine E0 ?_ |refine Bn ?_ |refine cD (Av _ _) ?_ |refine cD (Je _ _) ?_
        refine cD (cQ _ _ _) ?_;rw[decide_eq_false (by omega:¬(j:Int) <n)];refine Bn ?_;exact aJ.pure ⟨rfl,⟨_,rfl⟩,Bz,BA,sJ,xf⟩
       ·have sJ:=sI.ca u8;rw[decide_eq_false (by omega:¬(n:Int)<=j)];repeat first|refine wD ?_ |refine Bm ?_ |refine KU ?_ |refine KT ?_ |refine KV ?_ |refine KS ?_ |refine E0 ?_ |refine Bn ?_ |refine cD (Av _ _) ?_ |refine cD (Je _ _) ?_
        refine cD (cQ _ _ _) ?_;rw[decide_eq_true (by omega:(j:Int) <n)];refine wD ?_;refine cD (Ey _ _) ?_;refine cD ((EC _ _ _).trans (qR.get (i:=0) rfl)) ?_;refine cD (dc _ _ _) ?_;rw[decide_eq_false (by decide:¬(0:Int)≠0)];refine Bm ?_;refine cD (ajG _ _) ?_;refine cD ((ED _ _ _).trans (qR.get (i:=2) rfl)) ?_;refine cD (Ez bW) ?_;rw[Nat.zero_add];refine cD ((ED _ _ _).trans (sJ.arr.get (EZ bW))) ?_;rw[xf j h1];refine cD (dc _ _ _) ?_;rw[decide_eq_false (λe=>e rfl)];repeat first|refine wD ?_ |refine Bm ?_ |refine KU ?_ |refine KT ?_ |refine KV ?_ |refine KS ?_ |refine E0 ?_ |refine Bn ?_ |refine cD (Av _ _) ?_ |refine cD (Je _ _) ?_
        refine cD (cQ _ _ _) ?_;rw[decide_eq_true (by omega:(j:Int) <n)];refine E0 ?_;refine cD (k' _ _ _) ?_;refine cD (cP _ _ _) ?_;refine cD (Mc _ _) ?_
        have cm:bF .u64 (bF .i64 (bF .i64 (100*(i:Int)) +(j:Int)))=((100*i+j:Nat) :Int):=by rw[wrap_i64 (n:=100*(i:Int)) (by omega) (by omega),wrap_i64 (by omega) (by omega),wrap_u64 (by omega) (by omega)];omega
        rw[cm];refine cD (Ez bW) ?_;rw[Nat.zero_add];refine cb (Sz (k:=j) (v:=.int .u64 ((100*i+j:Nat) :Int)) sJ.arr (by rw[Bl];omega) rfl rfl) λg12 ⟨eA,il,n12⟩=> ?_
        have D4:=sJ.Ls bW eA il;refine cD (cP _ _ _) ?_;refine cD (k' _ _ _) ?_;refine cD (cP _ _ _) ?_;rw[lj];refine cD (Ez bW) ?_;rw[Nat.zero_add];refine cD ((ED _ _ _).trans (D4.arr.get (EZ bW))) ?_;rw[if_pos rfl];refine cD (Wc _ _) ?_;refine bS (N_ D4 (ay n al) al bW (.inr rfl) (bits:=100*i+j) (by omega)) ?_;rintro _ g13 ⟨e,b,rfl,aA⟩;refine b1 v_ λg14 gR n14 hK=> ?_
        refine cb (pf (k:=0) (cs:=[.int .i64 e,.int .i64 0,.int .u64 b]) gR rfl (by simp) rfl) λg15 ⟨jr,wq,n15⟩=> ?_
        have jr:=dC jr rfl;have kb:aX g13 g15:=hK.local wq λi U e=>by omega
        refine cD (Ey _ _) ?_;refine cD ((EC _ _ _).trans (jr.get (i:=0) rfl)) ?_;refine cD (dc _ _ _) ?_;rcases aA with⟨aa,_⟩ |⟨_,rfl,⟨aa,_⟩ |⟨_,rfl,Jz⟩⟩
        ·omega
        ·cases aa
        ·rw[decide_eq_false (by decide:¬(0:Int)≠0)];refine Bn ?_;refine aJ.pure ⟨rfl,⟨_,rfl⟩,_,_,Jz.ca kb,λk aj=> ?_⟩;by_cases e:k=j
         ·rw[if_pos e,if_pos e]
         ·rw[if_neg e,if_neg e];exact xf k aj
       ·cases aa
      rintro _ _ g8 ⟨rfl,⟨am6,rfl⟩,Vn,Vo,sI,Zh⟩;rw[bn,bd,hf];refine cD (cP _ _ _) (aJ.pure (.inl ⟨rfl,bW,⟨_,by rw[wrap_i64 (by omega) (by omega)];rfl⟩,by omega,Vn,Vo,sI,Zh⟩))
     ·rw[if_neg (by rw[decide_eq_true_eq];omega)];exact aJ.pure (.inr ⟨by simp,rfl,⟨_,_,rfl⟩,Bz,BA,yd,xf⟩)
    rintro _ _ g7 ⟨rfl,⟨U1,tg,rfl⟩,Bz,BA,yd,xf⟩;rw[bn,bn,bd,fZ,if_pos rfl];refine cD (cP _ _ _) (aJ.pure (.inl ⟨rfl,bc.2,U1,n,Bz,BA,by rw[wrap_i64 (by omega) (by omega)];rfl,al,yd,xf⟩))
   ·rw[if_neg (by rw[decide_eq_false bc];decide)];exact aJ.pure (.inr ⟨rfl,⟨_,_,_,rfl⟩,_,_,_,s⟩)
  rintro _ _ g3 ⟨rfl,⟨z,a,b,rfl⟩,cq,V,W,s⟩;obtain⟨U6,aln,nB,alm,dt,OO,CG,_⟩:=s.ex;rw[bn,bn,bn,bd,fZ,if_pos rfl];refine fV (P:=λy vs g=>vs=[.bool true]) ?_ ?_
  ·refine wD ?_;refine bS (P:=λv g=>v=.bool true) ?_ ?_
   ·refine cF aep rfl ?_;rw[<-CG];refine cD (ajZ _ _ _) ?_;refine fV (P:=λy vs g=>vs=[.bool true]) ?_ ?_
    ·refine wD ?_;refine cD (b2 _ _) ?_;refine cD (ajo _ _) ?_;refine cD ((lH _ _ _).trans (OO.eN.Ag.get (i:=0+1) rfl)) ?_;refine bS (aiC OO.hh) ?_;rintro _ g4 ⟨rfl,_⟩;exact aJ.pure rfl
    rintro _ _ g4 rfl;rw[bn,bd];exact cD (Av _ _) (aJ.pure rfl)
   rintro _ g4 rfl;exact aJ.pure rfl
  rintro _ _ g4 rfl;rw[bn,bd];exact cD (Av _ _) (aJ.pure rfl)
 obtain⟨v,g,e,rfl⟩:=key;exact⟨g,e⟩
end
section
open Go.a6 Go.ChangeShapes Go.WideShapes Go.ChangeAt Go.RowKit Go.Deep
theorem Kl{O:bp}(id:Nat)(o:bp)(h:(cz O).c7.get id=some o) :id=0/\o=.ro 10 yH\/id=1/\o=O:=by
 have e:(cz O).c7.get id=if id=0 then some (.ro 10 yH)else if id%2=1 then(bj.node .nil (some O) .nil).get (id/2)else bj.nil.get (id/2-1):=bj.oM _ _ _ _
 rw[e]at h;by_cases h0:id=0
 ·rw[if_pos h0]at h;exact .inl ⟨h0,(Option.some.inj h).symm⟩
 ·rw[if_neg h0]at h;by_cases h1:id%2=1
  ·rw[if_pos h1]at h;have aL:(bj.node .nil (some O) .nil).get (id/2)=if id/2=0 then some O else if id/2%2=1 then bj.nil.get (id/2/2)else bj.nil.get (id/2/2-1):=bj.oM _ _ _ _
   rw[aL]at h;by_cases aa:id/2=0
   ·rw[if_pos aa]at h;exact .inr ⟨by omega,(Option.some.inj h).symm⟩
   ·rw[if_neg aa]at h;simp[bj.get_nil]at h
  ·rw[if_neg h1]at h;simp[bj.get_nil]at h
def o1(n:Nat)(l:a6.Loc) :a6.Map:=λid=>if id=0 then some ⟨0,0,n⟩else if id=1 then some l else none
theorem ahG{W:World}{c:Array Value}{t:TypeId}{σ:Nat->Int}{O:bp}{l:a6.Loc}(aA:W.heap[0]? =some (.cells c t (0,0)))(hw:∀(i:Nat) (n:Int),ju[i]? =some n->c[i]? =some (.int .i64 n))
  (ar:l.b<W.heap.size) (qq:O.live=false/\O≠.dead) (ah:fg σ (o1 c.size l) O l W.heap[l.b]?) :c_ σ (o1 c.size l) (cz O) W.heap where
 obj:=λid loc o hm aY=>by
  rcases Kl id o aY with⟨rfl,rfl⟩ |⟨rfl,rfl⟩
  ·simp only[o1,if_true,Option.some.injEq]at hm;subst hm;refine⟨λ_ _=>rfl,c,t,(0,0),aA,λi U=> ?_⟩;have eo:i<ju.length:=U;refine⟨.int .i64 ju[i],.int .i64 ju[i],?_,?_,rfl⟩
   ·show(bif Nat.blt i 10 then bj.get (bj.ofList (ju.map (J.int .i64))) i else none)=_;rw[c4.2 U,bj.tx,List.getElem?_map,List.getElem?_eq_getElem eo];rfl
   ·have:=hw i ju[i] (List.getElem?_eq_getElem eo);simpa using this
  ·have:o1 c.size l 1=some l:=rfl;rw[this]at hm;obtain rfl:=Option.some.inj hm;exact ah
 inj:=λi j bz H3 U az _ C3 _=>by
  exfalso;unfold o1 at U;by_cases h0:i=0
  ·subst h0;have:=C3 _ rfl;cases this
  ·rw[if_neg h0]at U;by_cases h1:i=1
   ·subst h1;have:=C3 O rfl;rw[qq.1]at this;cases this
   ·rw[if_neg h1]at U;cases U
 lt:=λid loc hm=>by
  unfold o1 at hm;by_cases h0:id=0
  ·rw[if_pos h0]at hm;cases hm;exact(Array.getElem?_eq_some_iff.1 aA).1
  ·rw[if_neg h0]at hm;by_cases h1:id=1
   ·rw[if_pos h1]at hm;cases hm;exact ar
   ·rw[if_neg h1]at hm;cases hm
 gv:=λid hid=>by have:2<=id:=hid;unfold o1;rw[if_neg (by omega),if_neg (by omega)]
 jR:=λid hid=>by
  have:2<=id:=hid;cases h:(cz O).c7.get id with
  |none=>rfl
  |some o=>rcases Kl id o h with⟨rfl,_⟩ |⟨rfl,_⟩<;>omega
theorem acO{p:cw}{fs:List Fact}{σ:Nat->Int}(Z':∀f,f∈fs->f.ok Tryz.prog σ)(vQ:cX Tryz.prog (env fs) σ->tc Tryz.prog (env fs) σ p){N:Nat}{f:FuncId}{fn:Func}(j4:(env fs).fn f=some fn)(af:fn.body=some (fn.body.getD .skip)){args:List J}{v:J}{bg:ag}{O:bp}{l:a6.Loc}
  (he:(fns (env fs) p N).call (.func f [] []) args (cz O)=some (v,bg)) {us:Array Value} {W:World} (en:laidMetH Tryz.prog sj W) (ar:l.b<W.heap.size) (qq:O.live=false/\O≠.dead) (ah:∀n,fg σ (o1 n l) O l W.heap[l.b]?) (hu:∀n,bX σ (o1 n l) args us.toList) :
  Calls Tryz.prog f us W λe hM=>(∃μ q,e=.returned q/\bk σ μ v q)/\Below W.heap.size W hM:=by
 obtain⟨c,t,aA,hw⟩:=Qb en;have ok:=Mu fs σ Z';have rel:=ahG (σ:=σ) aA hw ar qq (ah c.size);refine(LX ok (Ci ok (vQ ok) N) j4 af he (μ:=o1 c.size l) (w:=W) (us:=us) (λg aE=> ?_) rel (hu _)).mono λe hM ⟨q,bu,h1,aa,av,aO⟩=>⟨⟨bu,q,h1,aa⟩,LB av aO ?_⟩
 ·have:g=0:=by
   have:g<1:=aE;omega
  subst this;exact⟨c.size,rfl⟩
 ·rintro b ⟨id,loc,o,hm,aY,ar,_⟩;rcases Kl id o aY with⟨rfl,rfl⟩ |⟨rfl,rfl⟩
  ·cases ar
  ·rw[qq.1]at ar;cases ar
theorem agY{H:Type}{enc:TypeId×Value->H}{P:Program}{f:Func}{s:ChangeSpec}{W hM:World}{args:Array Value}{ds gs:List (DataW H)}{p pa:List MemPlace}{bt:TypeId}
  (pD:DataW.Whole enc P f.params.toList s.vars false W args.toList ds gs p) (tz:DataW.TrodAll enc P hM 0 (λb=>decide (b<W.heap.size)) true f.params.toList args.toList ds pa) (abI:s.vars=[])
  (ah:f.resultTypes= #[bt]) (Zz:P.underlying bt=some .bool) (au:((s.fn H (ds++gs)).results=[.lit (.bool true)])/\(s.fn H (ds++gs)).args=ds/\(s.fn H (ds++gs)).vars=[]) (af:Below W.heap.size W hM) :
  s.post enc P f false true false false W args (.bool true) hM:=by
 have none:∀{w:World} {sp:Nat->Bool},DataW.TrodVars enc P w sp s.vars [] []:=by intro w sp;rw[abI];rfl
 refine⟨ds,gs,p,[],pa,[],pD,?_,?_,?_,af.frame _,λh=>by cases h⟩
 ·rw[au.1,ah];exact trodAll_cons_mk (shut_bool Zz _) trodAll_mk0
 ·rw[au.2.1];exact tz
 ·rw[au.2.2];exact none
end
end Go.Proofs.YtkdjcmpgnkecfaaGreatDoor
end
