/-
  Texts E26 E27 E28 L0 L1 L2 L3 L4 L5 S0 S1 S2 S3 S4 T0 J0, joined; own names made short.
-/
import Derived.Test.YtkdjcmpgnkecfaaGreatDoorZ1
import Derived.Below
import Derived.Laws.Tables
import Derived.Test.YtkdjcmpgnkecfaaGreatDoorProg
import Derived.KernelRfl
import Derived.Shelf.Strings.Search1
import Derived.Shelf.Strings.Repeat
import Derived.Shelf.SlIterI.Nil
import Derived.Shelf.SortM.Plain
import Derived.Shelf.SortM.SortNone
import Derived.Test.YtkdjcmpgnkecfaaGreatDoorRows
import Derived.WalkKit
import Derived.ProofKit
import Derived.OpenShut
import Derived.ChangeSame
import Derived.Deep.Fields
import Derived.LaidMore
import Derived.Stop.Joined
import Derived.JoinedOf
set_option linter.unusedVariables false
set_option linter.unusedSimpArgs false
set_option linter.unusedSectionVars false
set_option exponentiation.threshold 600
noncomputable section
namespace Go.a6
def uT(ops:Array Oper)(k:Nat) :Option Tmp:=(ops[k]?).bind (·.dst)
def fH(r0:bl)(ops:Array Oper)(V:Nat->J)(D:Nat->Bool) :Nat->bl
 |0=>r0
 |k+1=>bif D k then fc (fH r0 ops V D k) (uT ops k) (V k)else fH r0 ops V D k
def kL(D:Nat->Bool)(i:Nat) :Nat->Bool:=λj=>D j||Nat.beq j i
theorem uG(D:Nat->Bool)(i:Nat) :kL D i i=true:=by simp[kL,Go.a6.beq_true.2 rfl]
theorem mV(D:Nat->Bool){i j:Nat}(h:j≠i) :kL D i j=D j:=by simp[kL,Go.a6.beq_false.2 h]
section
variable{E:Env}{ops:Array Oper}{bs:List Nat}{r0:bl}{V:Nat->J}{D:Nat->Bool}
structure Order(E:Env)(ops:Array Oper)(bs:List Nat) :Prop where
 pair:∀i j x y,ops[i]? =some x->ops[j]? =some y->i<j->iO (bs.getD j 0) i=true\/nE E ops x y
 F8:∀j o,ops[j]? =some o->∀e,e∈o.after->Region.binds .any e=true->e.on<j
 bits:bs=jX ops.toList []
def Bs(ops:Array Oper)(D:Nat->Bool) :Prop:=∀j o,ops[j]? =some o->D j=true->∀e,e∈o.after->Region.binds .any e=true->D e.on=true
def wN(ops:Array Oper)(D:Nat->Bool)(o:Oper) :Prop:=∀e,e∈o.after->Region.binds .any e=true->D e.on=true
theorem Order.ahead(gg:Order E ops bs)(aA:Bs ops D){i:Nat}{o:Oper}(U:ops[i]? =some o)(ah:wN ops D o){x:Nat}(af:iO (bs.getD i 0) x=true) :D x=true:=by rw[gg.bits]at af;exact VT (D:=λx=>D x=true) aA gg.F8 i o x U ah af
theorem QW(gg:Order E ops bs)(aA:Bs ops D){i:Nat}{o:Oper}(U:ops[i]? =some o)(ah:wN ops D o)(al:D i=false) :
  rh ops o (fH r0 ops V D ops.size) (fH r0 ops V (λ_=>true) i):=by
 intro t aN
 have h1:∀k,k<=i->(fH r0 ops V D k).get t=(fH r0 ops V (λ_=>true) k).get t:=by
  intro k;induction k with
  |zero=>intro _;rfl
  |succ k bI=>
   intro aj;have bI:=bI (by omega);simp only[fH,cond_true];by_cases ao:uT ops k=some t
   ·have ez:D k=true:=by
     obtain⟨y,an,zW⟩:=Option.bind_eq_some_iff.1 ao;rcases gg.pair k i y o an U (by omega)with af|aU
     ·exact gg.ahead aA U ah af
     ·exact absurd aN ((apart_spec aU.2).1 t zW)
    rw[ez,cond_true,oj,oj,if_pos ao,if_pos ao]
   ·cases ez:D k with
    |true=>rw[cond_true,oj,oj,if_neg ao,if_neg ao,bI]
    |false=>rw[cond_false,oj,if_neg ao,bI]
 have aa:∀m,i+m<=ops.size->(fH r0 ops V D (i+m)).get t=(fH r0 ops V D i).get t:=by
  intro m;induction m with
  |zero=>intro _;rfl
  |succ m bI=>
   intro hm;have bI:=bI (by omega);rw[<-Nat.add_assoc];simp only[fH];cases ez:D (i+m)with
   |false=>rw[cond_false,bI]
   |true=>
    rw[cond_true,oj];by_cases ao:uT ops (i+m)=some t
    ·obtain⟨y,an,zW⟩:=Option.bind_eq_some_iff.1 ao;have zC:m≠0:=λe=>by subst e;rw[Nat.add_zero,al]at ez;cases ez
     rcases gg.pair i (i+m) o y U an (by omega)with af|aU
     ·have:=gg.ahead aA an (aA _ _ an ez) af;rw[al]at this;cases this
     ·exact absurd aN ((apart_spec aU.2).2.2 t zW)
    ·rw[if_neg ao,bI]
 have bK:i<ops.size:=(Array.getElem?_eq_some_iff.1 U).1;have:=aa (ops.size-i) (by omega);rw[show i+(ops.size-i)=ops.size by omega]at this;rw[this];exact h1 i (Nat.le_refl _)
theorem QV(gg:Order E ops bs)(aA:Bs ops D){i:Nat}{o:Oper}(U:ops[i]? =some o)(ah:wN ops D o)(al:D i=false)(t:Nat) :
  (fH r0 ops V (kL D i) ops.size).get t=(fc (fH r0 ops V D ops.size) o.dst (V i)).get t:=by
 have pG:uT ops i=o.dst:=by simp[uT,U]
 have h1:∀k,k<=i->fH r0 ops V (kL D i) k=fH r0 ops V D k:=by
  intro k;induction k with
  |zero=>intro _;rfl
  |succ k bI=>intro aj;simp only[fH,bI (by omega),mV D (show k≠i by omega)]
 have aa:∀m,i+1+m<=ops.size->(fH r0 ops V (kL D i) (i+1+m)).get t=(fc (fH r0 ops V D (i+1+m)) o.dst (V i)).get t:=by
  intro m;induction m with
  |zero=>
   intro _;simp only[Nat.add_zero,fH,uG,cond_true,al,cond_false,h1 i (Nat.le_refl _),pG]
  |succ m bI=>
   intro hm;have bI:=bI (by omega);rw[<-Nat.add_assoc];simp only[fH,mV D (show i+1+m≠i by omega)];cases ez:D (i+1+m)with
   |false=>simpa only[cond_false]using bI
   |true=>
    simp only[cond_true];rw[oj,bI,oj,oj,oj];by_cases aj:uT ops (i+1+m)=some t
    ·have:o.dst≠some t:=λao=>by
      obtain⟨y,an,zW⟩:=Option.bind_eq_some_iff.1 aj;rcases gg.pair i (i+1+m) o y U an (by omega)with af|aU
      ·have:=gg.ahead aA an (aA _ _ an ez) af;rw[al]at this;cases this
      ·exact(apart_spec aU.2).2.1 t ao zW
     rw[if_pos aj,if_neg this,if_pos aj]
    ·rw[if_neg aj,if_neg aj]
 have bK:i<ops.size:=(Array.getElem?_eq_some_iff.1 U).1;have:=aa (ops.size-(i+1)) (by omega);rwa[show i+1+(ops.size-(i+1))=ops.size by omega]at this
theorem ahD(h:∀j,j<ops.size->D j=true) :∀k,k<=ops.size->fH r0 ops V D k=fH r0 ops V (λ_=>true) k:=by
 intro k;induction k with
 |zero=>intro _;rfl
 |succ k bI=>intro aj;simp only[fH,bI (by omega),h k (by omega),cond_true]
end
theorem c_.fresh{σ:Nat->Int}{μ:Map}{h:ag}{H:Array Obj}(r:c_ σ μ h H){id:Nat}{bP:bp}(aN:h.c7.get id=none)(bK:id<h.next)
  (hm:∀loc,μ id=some loc->fg σ μ bP loc H[loc.b]?) :c_ σ μ (h.put id bP) H where
 obj:=λj l q az ay=>by
  rw[l7]at ay;by_cases e:j=id
  ·rw[if_pos e]at ay;cases ay;rw[e]at az;exact hm l az
  ·rw[if_neg e]at ay;exact r.obj j l q az ay
 inj:=λi j l bz U az af pG hR=>by
  refine r.inj i j l bz U az af (λo aY=> ?_) λao=> ?_
  ·by_cases e:i=id
   ·rw[e,aN]at aY;cases aY
   ·exact pG o (by rw[l7,if_neg e];exact aY)
  ·by_cases e:j=id
   ·rw[e,aN]at ao;cases ao
   ·exact hR (by rw[l7,if_neg e];exact ao)
 lt:=r.lt
 gv:=r.gv
 jR:=λj az=>by have:id<j:=Nat.lt_of_lt_of_le bK az;rw[l7,if_neg (by omega)];exact r.jR j az
section
variable{P:Program}{E:Env}{σ:Nat->Int}{F:ff}{ops:Array Oper}{bs:List Nat}{S:Nat->cl}{V:Nat->J}{s:cl}{iK:Map}{gL:World}
structure Text(E:Env)(F:ff)(ops:Array Oper)(bs:List Nat)(s:cl)(S:Nat->cl)(V:Nat->J) :Prop where
 gg:Order E ops bs
 start:S 0={s with h:={s.h with next:=s.h.next+ops.size}}
 AR:∀k o,ops[k]? =some o->Bw E F ops s.h.next k o (S k) (S (k+1)) (V k)
 look:∀k o,ops[k]? =some o->kindOf E o.op=.look->gB ops (S k).r o=true->o0 bs k (pQ E {i:=k,o,r:=(S k).r,v:=V k}) (S ops.size).h (nI E S ops.toList 0)=true
theorem Text.shape(ei:Text E F ops bs s S V) :∀k,k<=ops.size->(S k).n=s.n/\(S k).ds=s.ds/\(S k).r=fH s.r ops V (λ_=>true) k:=by
 intro k;induction k with
 |zero=>intro _;rw[ei.start];exact⟨rfl,rfl,rfl⟩
 |succ k bI=>
  intro aj;obtain⟨h1,aa,av⟩:=bI (by omega);have aY:ops[k]? =some ops[k]:=Array.getElem?_eq_getElem (by omega);have:=(ei.AR k _ aY).gI;rw[this];refine⟨h1,aa,?_⟩;simp only[fH,cond_true,av,uT,aY,Option.bind_some]
structure ht(P:Program)(E:Env)(σ:Nat->Int)(ops:Array Oper)(S:Nat->cl)(V:Nat->J)(s:cl)(iK:Map)(gL:World)(D:Nat->Bool)(q:Nat)(μ:Map)(w:World)(a:Act) :Prop where
 le:q<=ops.size
 jz:∀j o,ops[j]? =some o->kindOf E o.op=.act->(D j=true↔j<q)
 lb:Bs ops D
 g:jT E μ
 gQ:dj σ iK s.h gL.heap μ (S q).h w.heap
 same:da gL w
 o4:s.h.next+ops.size<=(S q).h.next
 o3:∀i,i<ops.size->D i=false->μ (s.h.next+i)=none
 c7:∀i o f bP,ops[i]? =some o->kindOf E o.op=.make->gB ops (S i).r o=true->jq E (S i).r o.op=some (f,bP)->D i=false->∀x,(S q).h.c7.get (s.h.next+i)=some x->x=bP
 put:∀i,q<=i->i<ops.size->(S q).h.c7.get (s.h.next+i)=none
 made:∀i o f bP,ops[i]? =some o->kindOf E o.op=.make->gB ops (S i).r o=true->jq E (S i).r o.op=some (f,bP)->D i=true->
  ∃loc,μ (s.h.next+i)=some loc/\gL.heap.size<=loc.b/\(q<=i->fg σ μ bP loc w.heap[loc.b]?)
 bare:∀i loc,i<ops.size->μ (s.h.next+i)=some loc->gL.heap.size<=loc.b
 gI:kJ σ μ s.n (fH s.r ops V D ops.size) a.tmps
 defs:s' μ s.ds a.defers
theorem ht.next(ei:Text E F ops bs s S V){D:Nat->Bool}{q:Nat}{μ:Map}{w:World}{a:Act}(j:ht P E σ ops S V s iK gL D q μ w a){o:Oper}(aY:ops[q]? =some o)(aj:kindOf E o.op≠.act) :
  ht P E σ ops S V s iK gL D (q+1) μ w a:=by
 have ay:q<ops.size:=(Array.getElem?_eq_some_iff.1 aY).1;have st:=ei.AR q o aY
 have Cq:∀i o,ops[i]? =some o->kindOf E o.op=.act->(D i=true↔i<q+1):=λi bL U NF=>by
  rw[j.jz i bL U NF];constructor
  ·intro h;omega
  ·intro h;have:i≠q:=λe=>by subst e;rw[aY]at U;cases U;exact aj NF
   omega
 have stay:(S (q+1)).h=(S q).h->ht P E σ ops S V s iK gL D (q+1) μ w a:=λe=>
  {le:=ay,jz:=Cq,lb:=j.lb,g:=j.g,gQ:=by rw[e];exact j.gQ,same:=j.same,o4:=by rw[e];exact j.o4,o3:=j.o3,c7:=by rw[e];exact j.c7
   put:=λi h1 aa=>by rw[e];exact j.put i (by omega) aa
   made:=λi o f bP h1 aa av aO bb=>let⟨loc,aQ,a2,a3⟩:=j.made i o f bP h1 aa av aO bb;⟨loc,aQ,a2,λh=>a3 (by omega)⟩
   bare:=j.bare,gI:=j.gI,defs:=j.defs}
 cases aE:gB ops (S q).r o with
 |false=>exact stay (st.off aE).2
 |true=>
  cases hj:kindOf E o.op with
  |act=>exact absurd hj aj
  |look=>exact stay (st.look hj aE).2
  |make=>
   obtain⟨f,bP,al,ae,aC⟩:=st.make hj aE;have aN:=j.put q (Nat.le_refl _) ay;have bK:s.h.next+q<(S q).h.next:=Nat.lt_of_lt_of_le (by omega) j.o4
   have vj:∀loc,μ (s.h.next+q)=some loc->fg σ μ bP loc w.heap[loc.b]? :=λloc ar=>by
    cases ez:D q with
    |false=>rw[j.o3 q ay ez]at ar;cases ar
    |true=>
     obtain⟨H9,aQ,a2,a3⟩:=j.made q o f bP aY hj aE al ez;rw[ar]at aQ;cases aQ;exact a3 (Nat.le_refl _)
   exact
    {le:=ay,jz:=Cq,lb:=j.lb,g:=j.g,same:=j.same
     gQ:=
      {ext:=j.gQ.ext
       rel:=by rw[aC];exact j.gQ.rel.fresh aN bK vj
       next:=by rw[aC];exact j.gQ.next
       l0:=j.gQ.l0
       kept:=λid hid ab=>by rw[aC,l7,if_neg (by omega)];exact j.gQ.kept id hid ab
       size:=j.gQ.size
       own:=λb af ⟨id,loc,x,h1,aa,av,aO⟩=>by
        rw[aC,l7]at aa;by_cases e:id=s.h.next+q
        ·rw[e]at h1;have:=j.bare q loc ay h1;omega
        ·rw[if_neg e]at aa;exact j.gQ.own b af ⟨id,loc,x,h1,aa,av,aO⟩
       frame:=j.gQ.frame}
     o4:=by rw[aC];exact j.o4
     o3:=j.o3
     c7:=λi bL fo kZ h1 aa av aO bb x ab=>by
      rw[aC,l7]at ab;by_cases e:s.h.next+i=s.h.next+q
      ·have:i=q:=by omega
       subst this;rw[if_pos e]at ab;cases ab;rw[aY]at h1;cases h1;rw[al]at aO;cases aO;rfl
      ·rw[if_neg e]at ab;exact j.c7 i bL fo kZ h1 aa av aO bb x ab
     put:=λi h1 aa=>by rw[aC,l7,if_neg (by omega)];exact j.put i (by omega) aa
     made:=λi o f bP h1 aa av aO bb=>let⟨loc,aQ,a2,a3⟩:=j.made i o f bP h1 aa av aO bb;⟨loc,aQ,a2,λh=>a3 (by omega)⟩
     bare:=j.bare,gI:=j.gI,defs:=j.defs}
theorem ht.on(ei:Text E F ops bs s S V){D:Nat->Bool}{μ:Map}{w:World}{a:Act} :∀(m q:Nat),ht P E σ ops S V s iK gL D q μ w a->q+m<=ops.size->
  (∀i o,ops[i]? =some o->q<=i->i<q+m->kindOf E o.op≠.act)->ht P E σ ops S V s iK gL D (q+m) μ w a
 |0,q,j,_,_=>j
 |m+1,q,j,hle,gp=>by
  have aY:ops[q]? =some ops[q]:=Array.getElem?_eq_getElem (by omega);have:=ht.on ei m (q+1) (j.next ei aY (gp q _ aY (Nat.le_refl _) (by omega))) (by omega) λi o U h1 aa=>gp i o U (by omega) (by omega)
  rwa[show q+1+m=q+(m+1)by omega]at this
theorem kJ.congr{n:Nat}{r b9:bl}{tmps:Array Value}{μ:Map}(h:∀t,b9.get t=r.get t)(ah:kJ σ μ n r tmps) :kJ σ μ n b9 tmps:=⟨ah.1,λi=>by rw[h];exact ah.2 i⟩
theorem ht.op(ok:cX P E σ)(dE:kf P E σ F)(ei:Text E F ops bs s S V){D:Nat->Bool}{p jL i:Nat}{μ:Map}{w:World}{a:Act}(j:ht P E σ ops S V s iK gL D p μ w a){o:Oper}
  (U:ops[i]? =some o) (al:D i=false) (ah:wN ops D o)
  (my:js E F ops o {r:=fH s.r ops V D ops.size,n:=s.n,ds:=s.ds,h:=(S p).h}=some {r:=fc (fH s.r ops V D ops.size) o.dst (V i),n:=s.n,ds:=s.ds,h:=(S jL).h})
  (NZ:p<=jL) (m8:jL<=ops.size) (Cq:∀j o,ops[j]? =some o->kindOf E o.op=.act->(kL D i j=true↔j<jL))
  (gp:kindOf E o.op=.make->gB ops (S i).r o=true->False) (b:Frame) (k:List Item) (cs:List Frame) (rest:List Nat) :
  ∃bu aM eI,ht P E σ ops S V s iK gL (kL D i) jL bu aM eI/\Steps P (lone (b.atR a (.inRegion ops (i::rest)::k)) cs w) (lone (b.atR eI (.inRegion ops rest::k)) cs aM):=by
 obtain⟨bu,aM,eI,cA,cM,dt,dK⟩:=Qj ok dE U my (a:=a) (μ:=μ) (w:=w) ⟨j.g,j.gQ.rel,j.gI,j.defs⟩ b k cs (rest:=rest);refine⟨bu,aM,eI,?_,dK⟩;have bK:∀i,i<ops.size->s.h.next+i<(S p).h.next:=λi U=>Nat.lt_of_lt_of_le (by omega) j.o4
 have oT:=j.gQ.size
 exact
  {le:=m8,jz:=Cq
   lb:=λx et ab ez e he af=>by
    by_cases ex:x=i
    ·subst ex;rw[U]at ab;cases ab;have:=ah e he af;simp only[kL,this,Bool.true_or]
    ·rw[mV D ex]at ez;have:=j.lb x et ab ez e he af;simp only[kL,this,Bool.true_or]
   g:=dt.g
   gQ:=j.gQ.trans cA
   same:=j.same.trans cM
   o4:=Nat.le_trans j.o4 cA.next
   o3:=λx ab ez=>by
    have ex:x≠i:=λe=>by subst e;rw[uG]at ez;cases ez
    rw[mV D ex]at ez;exact cA.l0 _ (bK x ab) (j.o3 x ab ez)
   c7:=λx et f bP h1 aa av aO bb y an=>by
    have ex:x≠i:=λe=>by subst e;rw[uG]at bb;cases bb
    rw[mV D ex]at bb;have ab:=(Array.getElem?_eq_some_iff.1 h1).1;have e:=cA.kept _ (bK x ab) (.inl (j.o3 x ab bb));dsimp only at e;rw[e]at an;exact j.c7 x et f bP h1 aa av aO bb y an
   put:=λx h1 aa=>by have ab:=j.put x (by omega) aa;have e:=cA.kept _ (bK x aa) (.inr ab);dsimp only at e;rw[e];exact ab
   made:=λx et f bP h1 aa av aO bb=>by
    have ex:x≠i:=λe=>by subst e;rw[U]at h1;cases h1;exact gp aa av
    rw[mV D ex]at bb;obtain⟨loc,aQ,a2,a3⟩:=j.made x et f bP h1 aa av aO bb;refine⟨loc,cA.ext _ _ aQ,a2,λab=> ?_⟩;have iU:=(Array.getElem?_eq_some_iff.1 h1).1;have zF:=j.put x (by omega) iU;have af:=j.gQ.rel.lt _ _ aQ
    have gp:¬Own μ (S p).h loc.b:=by rintro⟨id,bz,y,gh,gi,hH,g_⟩;have:=j.gQ.rel.inj (s.h.next+x) id loc bz aQ gh g_.symm (λz aI=>by rw[zF]at aI;cases aI) (λao=>by rw[gi]at ao;cases ao;cases hH);rw[<-this,zF]at gi;cases gi
    have oI:aM.heap[loc.b]? =w.heap[loc.b]? :=cA.frame loc.b af gp;rw[oI];exact(a3 (by omega)).ext cA.ext
   bare:=λx loc ab hm=>by
    cases xI:μ (s.h.next+x)with
    |none=>
     have:=cA.l0 _ (bK x ab) xI;rw[hm]at this;cases this
    |some bz=>
     have:=cA.ext _ _ xI;rw[hm]at this;cases this;exact j.bare x _ ab xI
   gI:=dt.r.congr λt=>QV ei.gg j.lb U ah al t
   defs:=dt.d}
theorem ht.new(ok:cX P E σ)(ei:Text E F ops bs s S V){D:Nat->Bool}{p i:Nat}{μ:Map}{w:World}{a:Act}(j:ht P E σ ops S V s iK gL D p μ w a){o:Oper}
  (U:ops[i]? =some o) (al:D i=false) (ah:wN ops D o) (aj:kindOf E o.op=.make) (aE:gB ops (S i).r o=true) (b:Frame) (k:List Item) (cs:List Frame) (rest:List Nat) :
  ∃bu aM eI,ht P E σ ops S V s iK gL (kL D i) p bu aM eI/\Steps P (lone (b.atR a (.inRegion ops (i::rest)::k)) cs w) (lone (b.atR eI (.inRegion ops rest::k)) cs aM):=by
 have bK:=(Array.getElem?_eq_some_iff.1 U).1;have st:=ei.AR i o U;obtain⟨f,bP,fw,ae,aC⟩:=st.make aj aE;obtain⟨aw,aL,bo⟩:=ei.shape i (by omega);have nQ:=QW (r0:=s.r) (V:=V) ei.gg j.lb U ah al;rw[<-bo]at nQ;have aaO:jq E (fH s.r ops V D ops.size) o.op=some (f,bP):=by rw[PB o.op nQ.operand];exact fw
 obtain⟨x,obj,room,aM,h1,aa,av,aO⟩:=PC (P:=P) (σ:=σ) (μ:=μ) ok j.g j.gI.2 aaO w;have xI:=j.o3 i bK al;have h7:=Map.pj μ (id:=s.h.next+i) ⟨w.heap.size,0,room⟩ xI;obtain⟨cg,cK⟩:=aO (μ.aq (s.h.next+i) ⟨w.heap.size,0,room⟩) (s.h.next+i) h7 (Map.hb _ _ _);refine⟨μ.aq (s.h.next+i) ⟨w.heap.size,0,room⟩,aM,a.put o.dst x,?_,?_⟩
 ·have iS:s.h.next+i<(S p).h.next:=Nat.lt_of_lt_of_le (by omega) j.o4;have oT:=j.gQ.size
  exact
   {le:=j.le
    jz:=λy hW an G9=>by
     have:y≠i:=λe=>by subst e;rw[U]at an;cases an;rw[aj]at G9;cases G9
     rw[mV D this];exact j.jz y hW an G9
    lb:=λx et ab ez e he af=>by
     by_cases ex:x=i
     ·subst ex;rw[U]at ab;cases ab;have:=ah e he af;simp only[kL,this,Bool.true_or]
     ·rw[mV D ex]at ez;have:=j.lb x et ab ez e he af;simp only[kL,this,Bool.true_or]
    g:=j.g.ext h7
    gQ:=
     {ext:=j.gQ.ext.trans h7
      rel:=by rw[aa];exact j.gQ.rel.make xI iS cK λq ay=>j.c7 i o f bP U aj aE fw al q ay
      next:=j.gQ.next
      l0:=λid hid ab=>by rw[Map.jb _ _ (by omega)];exact j.gQ.l0 id hid ab
      kept:=j.gQ.kept
      size:=by rw[aa,Array.size_push];omega
      own:=λb af ⟨id,loc,y,gh,gi,hH,g_⟩=>by
       by_cases e:id=s.h.next+i
       ·rw[e,Map.hb]at gh;cases gh;simp only at g_;omega
       ·rw[Map.jb _ _ e]at gh;exact j.gQ.own b af ⟨id,loc,y,gh,gi,hH,g_⟩
      frame:=λb af gp=>by
       have hi:b<w.heap.size:=Nat.lt_of_lt_of_le af oT;rw[aa,Array.getElem?_push_lt hi,<-Array.getElem?_eq_getElem hi]
       exact j.gQ.frame b af gp}
    same:=j.same.trans av
    o4:=j.o4
    o3:=λy an ez=>by
     have qm:y≠i:=λe=>by subst e;rw[uG]at ez;cases ez
     rw[mV D qm]at ez;rw[Map.jb _ _ (by omega)];exact j.o3 y an ez
    c7:=λy hW fo kZ gh gi hH g_ jt z aI=>by
     have qm:y≠i:=λe=>by subst e;rw[uG]at jt;cases jt
     rw[mV D qm]at jt;exact j.c7 y hW fo kZ gh gi hH g_ jt z aI
    put:=j.put
    made:=λy hW fo kZ gh gi hH g_ jt=>by
     by_cases qm:y=i
     ·subst qm;rw[U]at gh;cases gh;rw[fw]at g_;cases g_;exact⟨_,Map.hb _ _ _,oT,λ_=>by rw[aa];simpa using cK⟩
     ·rw[mV D qm]at jt;obtain⟨loc,aQ,a2,a3⟩:=j.made y hW fo kZ gh gi hH g_ jt;refine⟨loc,h7 _ _ aQ,a2,λab=> ?_⟩;have af:=j.gQ.rel.lt _ _ aQ;rw[aa,Array.getElem?_push_lt af,<-Array.getElem?_eq_getElem af];exact(a3 ab).ext h7
    bare:=λy loc an hm=>by
     by_cases qm:y=i
     ·subst qm;rw[Map.hb]at hm;cases hm;exact oT
     ·rw[Map.jb _ _ (by omega)]at hm;exact j.bare y loc an hm
    gI:=by
     refine kJ.congr (λt=>QV ei.gg j.lb U ah al t) ?_;have ao:=st.dst;rw[aw]at ao;rw[ae];have base:=j.gI.ext h7;cases vd:o.dst with
     |none=>exact base
     |some d=>exact base.put (ao d vd) cg
    defs:=by
     have:(a.put o.dst x).defers=a.defers:=by cases o.dst<;>rfl
     rw[this]
     exact j.defs.ext h7}
 ·have hw:Region.wanted o (yielded ops a.tmps)=true:=by rw[M8 j.gI ops o,nQ.guard,aE]
  have cL:∀c,o.op≠.defer c:=λc aA=>by rw[aA]at aj;cases aj
  have vq:=stepGR_op (P:=P) (b:=b) (k:=k) (cs:=cs) (w:=w) (rest:=rest) U hw;rw[Oper.semAt_eq _ _ _ cL,y9 b a]at vq
  have nR:∀v,(b.atR a (.inRegion ops (i::rest)::k)).finish v=b.atR (a.put o.dst v) (.inRegion ops rest::k):=by intro v;rw[Frame.finish_atR,U];rfl
  refine .one (step_lone_go ?_);rw[vq,<-nR];simp[stepG.apply,h1]
end
section
variable{P:Program}{E:Env}{σ:Nat->Int}{F:ff}{ops:Array Oper}{bs:List Nat}{S:Nat->cl}{V:Nat->J}{s:cl}{iK:Map}{gL:World}
theorem ht.to(ei:Text E F ops bs s S V){D:Nat->Bool}{μ:Map}{w:World}{a:Act} :∀(m q:Nat),ops.size-q<=m->ht P E σ ops S V s iK gL D q μ w a->
  ∃p,ht P E σ ops S V s iK gL D p μ w a/\∀o,ops[p]? =some o->kindOf E o.op=.act
 |0,q,hm,j=>⟨q,j,λo aY=>by have:=(Array.getElem?_eq_some_iff.1 aY).1;omega⟩
 |m+1,q,hm,j=>by
  cases aY:ops[q]? with
  |none=>exact⟨q,j,λo h=>by rw[aY]at h;cases h⟩
  |some o=>
   have ay:=(Array.getElem?_eq_some_iff.1 aY).1;by_cases aj:kindOf E o.op=.act
   ·exact⟨q,j,λbL h=>by rw[aY]at h;cases h;exact aj⟩
   ·exact ht.to ei m (q+1) (by omega) (j.next ei aY aj)
theorem Vt(gg:Order E ops bs){i j:Nat}{x y:Oper}(U:ops[i]? =some x)(az:ops[j]? =some y)(bK:i<j)(ab:kindOf E x.op=.act)(an:kindOf E y.op=.act) :iO (bs.getD j 0) i=true:=by
 rcases gg.pair i j x y U az bK with h|h
 ·exact h
 ·have:=h.1;simp[z6,ab,an]at this
theorem ht.one(ok:cX P E σ)(dE:kf P E σ F)(ei:Text E F ops bs s S V){D:Nat->Bool}{q i:Nat}{μ:Map}{w:World}{a:Act}(j:ht P E σ ops S V s iK gL D q μ w a){o:Oper}
  (U:ops[i]? =some o) (al:D i=false) (ah:wN ops D o) (b:Frame) (k:List Item) (cs:List Frame) (rest:List Nat) :
  ∃jL bu aM eI,ht P E σ ops S V s iK gL (kL D i) jL bu aM eI/\Steps P (lone (b.atR a (.inRegion ops (i::rest)::k)) cs w) (lone (b.atR eI (.inRegion ops rest::k)) cs aM):=by
 have bK:=(Array.getElem?_eq_some_iff.1 U).1;have st:=ei.AR i o U;obtain⟨aw,aL,bo⟩:=ei.shape i (by omega);have nQ:=QW (r0:=s.r) (V:=V) ei.gg j.lb U ah al;rw[<-bo]at nQ;have vd:=st.dst;rw[aw]at vd
 have same:∀{p:Nat},ht P E σ ops S V s iK gL D p μ w a->kindOf E o.op≠.act->(kindOf E o.op=.make->gB ops (S i).r o=true->False)->
   js E F ops o {r:=fH s.r ops V D ops.size,n:=s.n,ds:=s.ds,h:=(S p).h}=some {r:=fc (fH s.r ops V D ops.size) o.dst (V i),n:=s.n,ds:=s.ds,h:=(S p).h}->
   ∃jL bu aM eI,ht P E σ ops S V s iK gL (kL D i) jL bu aM eI/\Steps P (lone (b.atR a (.inRegion ops (i::rest)::k)) cs w) (lone (b.atR eI (.inRegion ops rest::k)) cs aM):=by
  intro p jp tK aaS dy;refine⟨p,jp.op ok dE ei U al ah dy (Nat.le_refl _) jp.le (λx et ab nU=> ?_) aaS b k cs rest⟩;have:x≠i:=λe=>by subst e;rw[U]at ab;cases ab;exact tK nU
  rw[mV D this];exact jp.jz x et ab nU
 have off:gB ops (S i).r o=false->kindOf E o.op≠.act->
   ∃jL bu aM eI,ht P E σ ops S V s iK gL (kL D i) jL bu aM eI/\Steps P (lone (b.atR a (.inRegion ops (i::rest)::k)) cs w) (lone (b.atR eI (.inRegion ops rest::k)) cs aM):=by
  intro aE tK;refine same j tK (λ_ h=>by rw[aE]at h;cases h) ?_;unfold js;simp only[nQ.guard,aE];rw[mN (s:={r:=fH s.r ops V D ops.size,n:=s.n,ds:=s.ds,h:=(S q).h}) vd,(st.off aE).1]
 cases aj:kindOf E o.op with
 |act=>
  have rT:∀x et,ops[x]? =some et->kindOf E et.op=.act->x<i->D x=true:=λx et ab nU C5=>ei.gg.ahead j.lb U ah (Vt ei.gg ab U C5 nU aj)
  have amr:q<=i:=by
   rcases Nat.lt_or_ge i q with h|h
   ·have:=(j.jz i o U aj).2 h;rw[al]at this;cases this
   ·exact h
  have HS:=j.on ei (i-q) q (by omega) λx et ab h1 aa nU=>by have:=(j.jz x et ab nU).1 (rT x et ab nU (by omega));omega
  rw[show q+(i-q)=i by omega]at HS;have dy:=st.act aj (fH s.r ops V D ops.size) nQ;rw[aw,aL]at dy;refine⟨i+1,HS.op ok dE ei U al ah dy (Nat.le_succ _) bK (λx et ab nU=> ?_) (λh=>by rw[aj]at h;cases h) b k cs rest⟩;by_cases ex:x=i
  ·subst ex;rw[uG];simp
  ·rw[mV D ex,HS.jz x et ab nU];omega
 |make=>
  cases aE:gB ops (S i).r o with
  |false=>exact off aE (by rw[aj];simp)
  |true=>exact⟨q,j.new ok ei U al ah aj aE b k cs rest⟩
 |look=>
  cases aE:gB ops (S i).r o with
  |false=>exact off aE (by rw[aj];simp)
  |true=>
   obtain⟨p,jp,aD⟩:=j.to ei (ops.size-q) q (Nat.le_refl _);refine same jp (by rw[aj];simp) (λh=>by rw[aj]at h;cases h) ?_;have hw:=ei.look i o U aj aE
   have oS:=Pl (E:=E) (D:=λx=>D x=true) (p:=p) (λx af=>ei.gg.ahead jp.lb U ah af)
    (λx ab af=>by
      have abS:x<ops.size\/¬x<ops.size:=Nat.lt_or_ge x ops.size|>.imp id (λh=>by omega);rcases abS with iV|iV
      ·have zH:ops[x]? =some ops[x]:=Array.getElem?_eq_getElem iV;have:=ei.gg.ahead jp.lb zH (jp.lb x _ zH ab) af;rw[al]at this;cases this
      ·obtain⟨_,aa⟩:=Fw ops.toList [];rw[ei.gg.bits]at af
       have hlen:(jX ops.toList []).length=ops.size:=by
        have:∀(l:List Oper) (acc:List Nat),(jX l acc).length=acc.length+l.length:=by
         intro l;induction l with
         |nil=>intro acc;rfl
         |cons y fe bI=>intro acc;simp only[jX,bI,List.length_append,List.length_cons,List.length_nil];omega
        rw[this];simp
       have:(jX ops.toList []).getD x 0=0:=by rw[List.getD_eq_getElem?_getD,List.getElem?_eq_none (by omega)];rfl
       rw[this,yQ]at af
       simp at af)
    ops.toList 0 (by simp) (Nat.zero_le _) jp.le
    (λx et ab kU nU=>(jp.jz _ et (by simpa using ab) nU).2 (by simpa using kU))
    (λx et ab he=>by
      have iU:ops[x]? =some et:=by simpa using ab
      rw[Nat.zero_add]at he;subst he;refine⟨aD et iU,λez=> ?_⟩;have:=(jp.jz x et iU (aD et iU)).1 ez
      omega) hw
   unfold pQ at oS;dsimp only at oS;split at oS
   ·rename_i v ae;have cm:=J.BK _ _ oS;subst cm;have ar:ep E (fH s.r ops V D ops.size) (S p).h o.op=some (V i):=by rw[Pk o.op nQ.operand];exact ae
    unfold js;simp only[nQ.guard,aE,ih,aj,ar,nC.IS];rw[mN (s:={r:=fH s.r ops V D ops.size,n:=s.n,ds:=s.ds,h:=(S p).h}) vd]
   ·cases oS
theorem Ym{p jL:Nat->Bool}{l:List Nat}{i:Nat}(U:i∈l)(aD:p i=true)(m8:jL i=false)(hle:∀x,jL x=true->p x=true) :(l.filter jL).length<(l.filter p).length:=by
 induction l with
 |nil=>cases U
 |cons y fe bI=>
  have zZ:(fe.filter jL).length<=(fe.filter p).length:=by
   clear bI U;induction fe with
   |nil=>simp
   |cons z zs bI=>
    simp only[List.filter_cons];cases h1:jL z with
    |true=>rw[hle z h1];simpa using bI
    |false=>cases aa:p z<;>simp<;>omega
  simp only[List.filter_cons];rcases List.mem_cons.1 U with rfl|U
  ·rw[aD,m8];simp;omega
  ·have:=bI U;cases h1:jL y with
   |true=>rw[hle y h1];simpa using this
   |false=>cases aa:p y<;>simp<;>omega
theorem RC{D:Nat->Bool} :∀(m:Nat),(∃i,i<m/\D i=false)->∃i,i<m/\D i=false/\∀x,x<i->D x=true
 |0,⟨i,h,_⟩=>by omega
 |m+1,⟨i,h,ao⟩=>by
  by_cases hex:∃i,i<m/\D i=false
  ·obtain⟨x,h1,aa,av⟩:=RC m hex;exact⟨x,by omega,aa,av⟩
  ·have al5:i=m:=by
    rcases Nat.lt_or_ge i m with bg|bg
    ·exact absurd ⟨i,bg,ao⟩ hex
    ·omega
   refine⟨i,h,ao,λx ab=> ?_⟩;cases ez:D x with
   |true=>rfl
   |false=>exact absurd ⟨x,by omega,ez⟩ hex
theorem Pb(ei:Text E F ops bs s S V){D:Nat->Bool}{q:Nat}{μ:Map}{w:World}{a:Act}(j:ht P E σ ops S V s iK gL D q μ w a)(gn:∀i,i<ops.size->D i=true)
  (b:Frame) (k:List Item) (cs:List Frame) :Ends P E σ b iK s.h gL (lone (b.atR a (.inRegion ops []::k)) cs w) k cs .normal (S ops.size):=by
 have hle:=j.le
 have vA:=j.on ei (ops.size-q) q (by omega) λx et ab h1 aa nU=>by have:=(j.jz x et ab nU).1 (gn x (Array.getElem?_eq_some_iff.1 ab).1);omega
 rw[show q+(ops.size-q)=ops.size by omega]at vA;obtain⟨aw,aL,bo⟩:=ei.shape ops.size (Nat.le_refl _);refine⟨μ,w,a,vA.gQ,vA.same,⟨vA.g,vA.gQ.rel,?_,by rw[aL];exact vA.defs⟩,.one stepR_region_end⟩;rw[aw,bo,<-ahD gn ops.size (Nat.le_refl _)];exact vA.gI
theorem aeN(ok:cX P E σ)(dE:kf P E σ F)(ei:Text E F ops bs s S V)(b:Frame)(k:List Item)(cs:List Frame) :∀(fuel t:Nat) (listed:Array Bool) (q:Nat) (μ:Map) (w:World) (a:Act),
  listed.size=ops.size->((List.range ops.size).filter λi=> !listed.getD i false).length<=fuel->ht P E σ ops S V s iK gL (λi=>listed.getD i false) q μ w a->
   Ends P E σ b iK s.h gL (lone (b.atR a (.inRegion ops (Region.linearise.go .any ops fuel t listed [])::k)) cs w) k cs .normal (S ops.size):=by
 intro fuel;induction fuel with
 |zero=>
  intro t listed q μ w a ev aB j
  have gn:∀i,i<ops.size->listed.getD i false=true:=λi U=>by
   cases ez:listed.getD i false with
   |true=>rfl
   |false=>
    have:i∈(List.range ops.size).filter λi=> !listed.getD i false:=by rw[List.mem_filter];exact⟨List.mem_range.2 U,by simp only[ez];rfl⟩
    rw[List.eq_nil_of_length_eq_zero (Nat.le_zero.1 aB)]at this;cases this
  simp only[Region.linearise.go,List.reverse_nil];exact Pb ei j gn b k cs
 |succ fuel bI=>
  intro t listed q μ w a ev aB j;simp only[Region.linearise.go]
  change Ends P E σ b iK s.h gL (lone (b.atR a (.inRegion ops (match(Region.ready .any ops listed)[t%(Region.ready .any ops listed).length]? with
   |some i=>Region.linearise.go .any ops fuel (t/(Region.ready .any ops listed).length) (listed.setIfInBounds i true) [i]
   |none=>[].reverse)::k)) cs w) k cs .normal (S ops.size)
  cases U:(Region.ready .any ops listed)[t%(Region.ready .any ops listed).length]? with
  |none=>
   have Hh:Region.ready .any ops listed=[]:=by
    cases ah:Region.ready .any ops listed with
    |nil=>rfl
    |cons x xs=>
     rw[ah]at U;have bK:t%(x::xs).length<(x::xs).length:=Nat.mod_lt _ (by simp);simp at U;simp at bK;omega
   have gn:∀i,i<ops.size->listed.getD i false=true:=λi U=>by
    cases ez:listed.getD i false with
    |true=>rfl
    |false=>
     obtain⟨x,h1,aa,av⟩:=RC (D:=λi=>listed.getD i false) ops.size ⟨i,U,ez⟩
     have ab:x∈Region.ready .any ops listed:=by
      rw[mem_ready];have zH:ops[x]? =some ops[x]:=Array.getElem?_eq_getElem h1;refine⟨?_,_,zH,λe he af=>av e.on (ei.gg.F8 x _ zH e he af)⟩;have iV:x<listed.size:=by omega
      simp[iV]at aa|-;exact aa
     rw[Hh]at ab;cases ab
   simp only[List.reverse_nil];exact Pb ei j gn b k cs
  |some i=>
   obtain⟨h0,o,aY,gn⟩:=mem_ready.1 (List.mem_of_getElem? U);have bK:=(Array.getElem?_eq_some_iff.1 aY).1;have zB:i<listed.size:=by omega
   have al:listed.getD i false=false:=by simp[zB]at h0|-;exact h0
   simp only;rw[linearise_go_acc,List.reverse_singleton,List.singleton_append];obtain⟨jL,bu,aM,eI,Dd,dy⟩:=j.one ok dE ei aY al (λe he af=>gn e he af) b k cs (Region.linearise.go .any ops fuel (t/(Region.ready .any ops listed).length) (listed.setIfInBounds i true) [])
   have ez:kL (λi=>listed.getD i false) i=λx=>(listed.setIfInBounds i true).getD x false:=by
    funext x;by_cases ex:x=i
    ·subst ex;rw[uG];simp[zB]
    ·rw[mV _ ex,getD_set_ne false (Ne.symm ex)]
   rw[ez]at Dd;refine(bI _ (listed.setIfInBounds i true) jL bu aM eI (by simpa using ev) ?_ Dd).of_steps dy
   have:=Ym (p:=λx=> !listed.getD x false) (jL:=λx=> !(listed.setIfInBounds i true).getD x false) (l:=List.range ops.size) (i:=i) (List.mem_range.2 bK) (by simp only[al];rfl) (by simp[zB])
    (λx ab=>by
      by_cases ex:x=i
      ·subst ex;simp only[al];rfl
      ·simpa only[getD_set_ne false (Ne.symm ex)]using ab)
   omega
theorem XD(ok:cX P E σ)(dE:kf P E σ F) :E_ P E σ F:=by
 intro ops s aS he μ w a b id k cs rel;unfold rJ at he;dsimp only at he;replace he:=c' he;obtain⟨abt,he⟩:=he;split at he
 ·rename_i s1 gs ls abz;replace he:=c' he;obtain⟨Hb,he⟩:=he;cases he;obtain⟨S,V,h1,aa,av,aO,bb,cp⟩:=Sw ops.toList 0 _ [] [] _ gs ls abz;rw[Nat.zero_add,Array.length_toList]at aa;have spec:=RV ops.toList 0 abt
  have ei:Text E F ops (jX ops.toList []) s S V:=
   {gg:=
     {pair:=λi j x y U az bK=>by
       have:=(spec j y (by simpa using az)).2 i x U (by omega);simpa using this
      F8:=λj o az e he af=>by have:=(spec j o (by simpa using az)).1 e he af;omega
      bits:=rfl}
    start:=h1
    AR:=λk o aj=>by have:=av k o (by simpa using aj);simpa using this
    look:=λk o aj aao aE=>by
     have eb:=cp k o (by simpa using aj) aao (by simpa using aE);rw[Nat.zero_add]at eb;have:=Pm Hb _ eb;rw[aO,List.append_nil,List.reverse_reverse]at this;rw[aa]
     exact this}
  have ZA:c_ σ μ (S 0).h w.heap:=by
   rw[h1]
   exact
    {obj:=rel.h.obj,inj:=rel.h.inj,lt:=rel.h.lt
     gv:=λi U=>rel.h.gv i (by simp only at U;omega)
     jR:=λi U=>rel.h.jR i (by simp only at U;omega)}
  have HQ:ht P E σ ops S V s μ w (λi=>(Array.replicate ops.size false).getD i false) 0 μ {w with drawn:=w.drawn+1} a:=
   {le:=Nat.zero_le _
    jz:=λj o az _=>by have:=(Array.getElem?_eq_some_iff.1 az).1;simp[this]
    lb:=λj o az ez=>by have:=(Array.getElem?_eq_some_iff.1 az).1;simp[this]at ez
    g:=rel.g
    gQ:=
     {ext:=Ext.refl _,rel:=ZA
      next:=by rw[h1];simp only;omega
      l0:=λ_ _ h=>h
      kept:=λ_ _ _=>by rw[h1]
      size:=Nat.le_refl _
      own:=λb af aY=>by rw[h1]at aY;exact aY
      frame:=λ_ _ _=>rfl}
    same:=⟨rfl,rfl,rfl⟩
    o4:=by rw[h1];simp
    o3:=λi _ _=>rel.h.gv _ (by omega)
    c7:=λi o f bP _ _ _ _ _ x ab=>by rw[h1]at ab;simp only at ab;rw[rel.h.jR _ (by omega)]at ab;cases ab
    put:=λi _ _=>by rw[h1];exact rel.h.jR _ (by omega)
    made:=λi o f bP U _ _ _ ez=>by have:=(Array.getElem?_eq_some_iff.1 U).1;simp[this]at ez
    bare:=λi loc _ hm=>by rw[rel.h.gv _ (by omega)]at hm;cases hm
    gI:=by
     have:∀k,k<=ops.size->fH s.r ops V (λi=>(Array.replicate ops.size false).getD i false) k=s.r:=by
      intro k;induction k with
      |zero=>intro _;rfl
      |succ k bI=>
       intro aj;have iR:k<ops.size:=aj;simp only[fH];rw[show(Array.replicate ops.size false).getD k false=false by simp[iR],cond_false];exact bI (by omega)
     rw[this ops.size (Nat.le_refl _)];exact rel.r
    defs:=rel.d}
  have nR:=aeN ok dE ei b k cs ops.size (w.tape w.drawn (.order b.fn id)) (Array.replicate ops.size false) 0 μ {w with drawn:=w.drawn+1} a (by simp)
   (by have:=List.length_filter_le (λi=> !(Array.replicate ops.size false).getD i false) (List.range ops.size);simpa using this) HQ
  rw[aa]at nR;refine nR.of_steps (.one ?_);have my:=stepR_region_draw (P:=P) (b:=b) (a:=a) (k:=k) (cs:=cs) (w:=w) (ops:=ops) (id:=id);rw[my];simp only[Region.schedule,ok.mixed,Bool.true_or,if_true,Region.linearise]
 ·cases he
theorem Ci{p:cw}(ok:cX P E σ)(vQ:tc P E σ p) :∀n,kf P E σ (fns E p n)
 |0=>{code:=λro c s x aS he=>(by cases he),call:=λf args h v bg he=>(by cases he)}
 |n+1=>step_ok ok vQ (Ci ok vQ n) (XD ok (Ci ok vQ n))
end
open Go.RowKit
section
variable{P:Program}{E:Env}{σ:Nat->Int}
theorem HK{f:FuncId}{fn:Func}{body:Code}(ok:cX P E σ)(aB:E.fn f=some fn)(af:fn.body=some body)(us:Array Value)(w:World) :
  (inv (.func (.func f) #[] #[]) us).run P w=.ok (.enter f us) w:=by
 obtain⟨zM,Hf⟩:=ok.fn f fn aB;simp only[inv,Deferred.ofValue,Sem.run_bind,Sem.run_pure,Result.andThen_ok,invoke,callFunc,run_program,zM,Hf,af,Option.isNone_some,Bool.false_eq_true,if_false,Array.empty_append,Array.append_empty]
theorem LX{F:ff}(ok:cX P E σ)(dE:kf P E σ F){f:FuncId}{fn:Func}{body:Code}(aB:E.fn f=some fn)(af:fn.body=some body){args:List J}{h bg:ag}{v:J}
  (he:F.call (.func f [] []) args h=some (v,bg)) {μ:Map} {w:World} {us:Array Value} (aE:jT E μ) (rel:c_ σ μ h w.heap) (hu:bX σ μ args us.toList) :
  Calls P f us w λe aM=>∃q bu,e=.returned q/\bk σ bu v q/\da w aM/\dj σ μ h w.heap bu bg aM.heap:=by
 have aA:=dE.call _ _ _ _ _ he μ w (.func (.func f) #[] #[]) us aE rel ⟨#[], #[],rfl,rfl,rfl⟩ hu;have U:=HK ok aB af us w;rcases aA with⟨fo,alv,ah,rW⟩ |⟨_,_,_,_,_,ah,_⟩ |⟨_,_,_,ah,_⟩
 ·rw[U]at ah;cases ah;intro cs;obtain⟨fr,q,aM,bu,h1,aa,av,aO,bb,cp⟩:=rW cs;exact⟨.returned q,aM,fr,⟨q,bu,rfl,cp,aO,bb⟩,h1,aa,av⟩
 ·rw[U]at ah;cases ah
 ·rw[U]at ah;cases ah
def ag.none:ag:={next:=0,c7:=.nil}
theorem c_.none(H:Array Obj) :c_ σ (λ_=>Option.none) ag.none H where
 obj:=λ_ _ _ h=>by cases h
 inj:=λ_ _ _ _ h=>by cases h
 lt:=λ_ _ h=>by cases h
 gv:=λ_ _=>rfl
 jR:=λid _=>bj.get_nil id
theorem LB{μ bu:Map}{h bg:ag}{w aM:World}(au:da w aM)(hm:dj σ μ h w.heap bu bg aM.heap)(gp:∀b,¬Own μ h b) :Below w.heap.size w aM:=
 ⟨au.1,au.2.1,au.2.2,hm.size,λk aj=>hm.frame k aj (gp k)⟩
theorem Px{μ:Map}{h:ag}{w aM:World}(rel:c_ σ μ h w.heap)(af:Below w.heap.size w aM) :dj σ μ h w.heap μ h aM.heap where
 ext:=Ext.refl _
 rel:=
  {obj:=λid loc o hm aY=>by rw[af.block _ (rel.lt id loc hm)];exact rel.obj id loc o hm aY
   inj:=rel.inj
   lt:=λid loc hm=>Nat.lt_of_lt_of_le (rel.lt id loc hm) af.size
   gv:=rel.gv
   jR:=rel.jR}
 next:=Nat.le_refl _
 l0:=λ_ _ h=>h
 kept:=λ_ _ _=>rfl
 size:=af.size
 own:=λ_ _ h=>h
 frame:=λb bK _=>af.block b bK
theorem FN(ok:cX P E σ){f:FuncId}{fn:Func}{body:Code}(aB:E.fn f=some fn)(af:fn.body=some body){us:Array Value}{v:J}{μ:Map}{h:ag}{w:World}(rel:c_ σ μ h w.heap)
  (aA:Calls P f us w λe aM=>∃q,e=.returned q/\bk σ μ v q/\Below w.heap.size w aM) :s_ P σ μ h w (.func (.func f) #[] #[]) us v h:=by
 refine .inl ⟨f,us,HK ok aB af us w,λcs=> ?_⟩;obtain⟨e,aM,fr,⟨q,rfl,ae,hA⟩,h1,aa,av⟩:=aA cs;exact⟨fr,q,aM,μ,h1,aa,av,⟨hA.os,hA.tape,hA.output⟩,Px rel hA,ae⟩
def qV:List (FuncId×(List J->ag->Option (J×ag)))->cw
 |[],_=>none
 |(f,q)::r,g=>bif Nat.beq g f then some q else qV r g
def wL(P:Program)(E:Env)(σ:Nat->Int)(f:FuncId)(q:List J->ag->Option (J×ag)) :Prop:=
 ∀args h v bg,q args h=some (v,bg)->∀μ w (us:Array Value),jT E μ->c_ σ μ h w.heap->bX σ μ args us.toList->s_ P σ μ h w (.func (.func f) #[] #[]) us v bg
theorem agZ:tc P E σ (qV []):=λg q h=>by cases h
theorem Ax{f:FuncId}{q:List J->ag->Option (J×ag)}{r:List (FuncId×(List J->ag->Option (J×ag)))}(h1:wL P E σ f q)(aa:tc P E σ (qV r)) :tc P E σ (qV ((f,q)::r)):=by
 intro g cv h;simp only[qV]at h;cases af:Nat.beq g f with
 |true=>
  rw[af]at h;cases h;have:=Go.a6.beq_true.1 af;subst this;exact h1
 |false=>rw[af]at h;exact aa g cv h
def PD:TypeDesc->Bool
 | .struct fs=>fs.toList.all λf=>f.name != "_"
 |_=>true
def partsOf(P:Program) :TypeDesc->Option (List (Nat×Nat))
 | .struct fs=>fs.toList.mapM λf=>(P.info? f.type).map λi=>(f.offset,i.size)
 |_=>some []
structure Fg(P:Program)(t:TypeId)(i:bm) :Prop where
 dN:P.underlying t=some i.desc
 info:((P.info? t).bind λinf=>inf.zero.bind λz=>(wX z).map λa=>(inf.size,inf.bytes,a))=some (i.size,i.bytes,i.zeroV)
 cells:i.zeroV.cells=i.zero
 parts:partsOf P i.desc=some i.parts
 wH:Nat.beq i.zero.length i.size=true
 JF:(nd i.desc||Nat.beq i.size 1)=true
 plain:(!i.plain||(!P.stoodInHeld t&& !P.eqGuardType P.depth t&&PD i.desc))=true
theorem ae5(w:World)(fs:List Field)(l:List (Nat×Nat))(h:fs.mapM (λf=>(P.info? f.type).map λi=>(f.offset,i.size))=some l) :
  (fs.mapM (λf=>do pure (f.offset,<-sizeOf f.type) :Field->Sem (Nat×Nat))).run P w=.ok l w:=by
 have e:(λf=>do pure (f.offset,<-sizeOf f.type) :Field->Sem (Nat×Nat))=λf=>Prod.mk f.offset<$>sizeOf f.type:=by funext f;rw[map_eq_pure_bind]
 rw[e];exact run_places w fs l h
theorem Fg.ok{t:TypeId}{i:bm}(h:Fg P t i) :Fh P σ t i where
 dN:=h.dN
 info:=by
  have:=h.info;cases U:P.info? t with
  |none=>rw[U]at this;cases this
  |some inf=>
   rw[U]at this;simp only[Option.bind_some]at this;cases aI:inf.zero with
   |none=>rw[aI]at this;cases this
   |some z=>
    rw[aI]at this;simp only[Option.bind_some]at this;cases aA:wX z with
    |none=>rw[aA]at this;cases this
    |some a=>
     rw[aA]at this;simp only[Option.map_some,Option.some.injEq,Prod.mk.injEq]at this;obtain⟨aw,aL,bo⟩:=this;subst bo;refine⟨inf,z,rfl,aw,aL,aI,λμ=>FV aA,λμ=> ?_⟩;have:=BS (σ:=σ) (μ:=μ) (FV aA);rwa[h.cells]at this
 parts:=λfs ao w=>by have:=h.parts;rw[ao]at this;have:=ae5 (P:=P) w fs.toList i.parts this;rw[Array.mapM_eq_mapM_toList];simp only[map_eq_pure_bind,Sem.run_bind,this,Result.andThen_ok,Sem.run_pure]
 wH:=Go.a6.beq_true.1 h.wH
 JF:=λaU=>by have:=h.JF;rw[aU,Bool.false_or]at this;exact Go.a6.beq_true.1 this
 plain:=λaD=>by have:=h.plain;rw[aD]at this;simp only[Bool.not_true,Bool.false_or,Bool.and_eq_true,Bool.not_eq_true']at this;refine⟨this.1.1,this.1.2,λfs ao f aB=> ?_⟩;have af:=this.2;rw[ao]at af;simp only[PD,List.all_eq_true]at af;simpa using af f aB
def EM:List (TypeId×bm)->TypeId->Option bm
 |[],_=>none
 |(t,i)::r,u=>bif Nat.beq u t then some i else EM r u
def Fi(P:Program) :List (TypeId×bm)->Prop
 |[]=>True
 |(t,i)::r=>Fg P t i/\Fi P r
theorem Ur:∀{l:List (TypeId×bm)},Fi P l->∀t i,EM l t=some i->Fh P σ t i
 |[],_,t,i,h=>by cases h
 |(u,j)::r,⟨h1,aa⟩,t,i,h=>by
  simp only[EM]at h;cases af:Nat.beq t u with
  |true=>
   rw[af]at h;cases h;have:=Go.a6.beq_true.1 af;subst this;exact h1.ok
  |false=>rw[af]at h;exact Ur aa t i h
def Cg:List (FuncId×Func)->FuncId->Option Func
 |[],_=>none
 |(f,fn)::r,g=>bif Nat.beq g f then some fn else Cg r g
def Fc(P:Program) :List (FuncId×Func)->Prop
 |[]=>True
 |(f,fn)::r=>(P.funcs[f]? =some fn/\(fn.name== "runtime.NumGoroutine")=false)/\Fc P r
theorem MU:∀{l:List (FuncId×Func)},Fc P l->∀f fn,Cg l f=some fn->P.funcs[f]? =some fn/\(fn.name== "runtime.NumGoroutine")=false
 |[],_,t,i,h=>by cases h
 |(u,j)::r,⟨h1,aa⟩,t,i,h=>by
  simp only[Cg]at h;cases af:Nat.beq t u with
  |true=>
   rw[af]at h;cases h;have:=Go.a6.beq_true.1 af;subst this;exact h1
  |false=>rw[af]at h;exact MU aa t i h
end
structure lJ(F G:ff) :Prop where
 call:∀f a h r,F.call f a h=some r->G.call f a h=some r
 code:∀ro c s r,F.code ro c s=some r->G.code ro c s=some r
section
variable{E:Env}{F G:ff}
theorem Qi(le:lJ F G){ops:Array Oper}{o:Oper}{s aS:cl}(h:js E F ops o s=some aS) :js E G ops o s=some aS:=by
 unfold js at h|-;split at h
 ·exact h
 ·split at h
  ·exact h
  ·exact h
  ·rename_i f args aA;cases aB:F.call f args s.h with
   |none=>rw[aB]at h;cases h
   |some r=>rw[le.call _ _ _ _ aB];rw[aB]at h;exact h
  ·cases h
theorem ME(le:lJ F G){ops:Array Oper} :∀{l:List Oper} {s aS:cl},ll E F ops l s=some aS->ll E G ops l s=some aS
 |[],s,aS,h=>h
 |o::rest,s,aS,h=>by
  unfold ll at h|-;cases aY:js E F ops o s with
  |none=>rw[aY]at h;cases h
  |some s1=>rw[Qi le aY];rw[aY]at h;exact ME le h
theorem y7(le:lJ F G){ops:Array Oper}{base:Nat} :∀{l:List Oper} {i:Nat} {s:cl} {gs:List (Nat×ag)} {ls:List Seen} {r},iP E F ops base l i s gs ls=some r->iP E G ops base l i s gs ls=some r
 |[],i,s,gs,ls,r,h=>h
 |o::rest,i,s,gs,ls,r,h=>by
  unfold iP at h|-;split at h
  ·rename_i aj;cases aY:js E F ops o s with
   |none=>rw[aY]at h;cases h
   |some s1=>rw[Qi le aY];rw[aY]at h;exact y7 le h
  ·rename_i aj aE;split at h
   ·split at h
    ·exact y7 le h
    ·cases h
   ·cases h
  ·split at h
   ·split at h
    ·exact y7 le h
    ·cases h
   ·cases h
  ·split at h
   ·exact y7 le h
   ·cases h
theorem X1(le:lJ F G){ops:Array Oper}{s aS:cl}(h:rJ E F ops s=some aS) :rJ E G ops s=some aS:=by
 unfold rJ at h|-;dsimp only at h|-;cases au:k3 E ops (jX ops.toList []) ops.toList 0 with
 |false=>rw[au]at h;cases h
 |true=>
  rw[au]at h;dsimp only[cond]at h|-;split at h
  ·rename_i heq;rw[y7 le heq];exact h
  ·cases h
theorem Ic{f g:cl->Option (cW×cl)}(le:∀s r,f s=some r->g s=some r) :∀{k:Nat} {s:cl} {r},n' k f s=some r->n' k g s=some r
 |0,s,r,h=>le s r h
 |k+1,s,r,h=>by
  unfold n' at h|-;cases ar:n' k f s with
  |none=>rw[ar]at h;cases h
  |some q=>
   rw[Ic le ar];rw[ar]at h;obtain⟨x,s1⟩:=q;cases x<;>first|exact Ic le h|exact h
theorem Ro(le:lJ F G){ro:Option Nat}{body:Code} :∀{k:Nat} {c:Code} {s:cl} {r},ur F ro body k c s=some r->ur G ro body k c s=some r
 |0,c,s,r,h=>by cases h
 |k+1,c,s,r,h=>by
  unfold ur at h|-;cases ar:F.code ro c s with
  |none=>rw[ar]at h;cases h
  |some q=>
   rw[le.code _ _ _ _ ar];rw[ar]at h;obtain⟨x,s1⟩:=q;cases x<;>first|exact h|skip
   dsimp only at h|-;split at h
   ·exact Ro le h
   ·exact h
theorem ahm(le:lJ F G){ro:Option Nat}{fv:J}{params:Array Tmp}{assign body:Code}{d:Nat}{s:cl}{r}(h:ue F ro fv params assign body d s=some r) :ue G ro fv params assign body d s=some r:=by
 unfold ue at h|-;cases ar:F.call fv [.yield s.h.next] (s.h.new (.loop .ready none s.n s.r params assign body d))with
 |none=>rw[ar]at h;cases h
 |some q=>
  rw[le.call _ _ _ _ ar];rw[ar]at h;obtain⟨v,g⟩:=q;dsimp only at h|-;split at h
  ·split at h
   ·cases h
   ·split at h
    ·exact h
    ·exact le.code _ _ _ _ h
  ·cases h
theorem W5(le:lJ F G){ro:Option Nat}{c:Code}{s:cl}{r}(h:fR E F ro c s=some r) :fR E G ro c s=some r:=by
 unfold fR at h|-;cases c with
 |skip=>exact h
 |label=>exact h
 |exit=>exact h
 |goto=>exact h
 |ret=>exact h
 |refuse=>cases h
 |seq a b=>
  dsimp only at h|-;cases ar:F.code ro a s with
  |none=>rw[ar]at h;cases h
  |some q=>
   rw[le.code _ _ _ _ ar];rw[ar]at h;obtain⟨x,s1⟩:=q;cases x<;>first|exact h|exact le.code _ _ _ _ h
 |cond x a b=>
  dsimp only at h|-;split at h
  ·exact le.code _ _ _ _ h
  ·exact le.code _ _ _ _ h
  ·cases h
 |block id b=>
  dsimp only at h|-;cases ar:F.code ro b s with
  |none=>rw[ar]at h;cases h
  |some q=>
   rw[le.code _ _ _ _ ar];rw[ar]at h;exact h
 |loop b=>
  dsimp only at h|-;cases ar:n' 14 (F.code ro b) s with
  |none=>rw[ar]at h;cases h
  |some q=>
   rw[Ic (λs r=>le.code ro b s r) ar];rw[ar]at h;exact h
 |scope b=>exact Ro le h
 |region i ops d=>
  cases d with
  |false=>
   dsimp only at h|-;cases ar:ll E F ops ops.toList s with
   |none=>rw[ar]at h;cases h
   |some q=>rw[ME le ar];rw[ar]at h;exact h
  |true=>
   dsimp only at h|-;cases ar:rJ E F ops s with
   |none=>rw[ar]at h;cases h
   |some q=>rw[X1 le ar];rw[ar]at h;exact h
 |rangeFunc f ps a b=>
  dsimp only at h|-;split at h
  ·cases h
  ·split at h
   ·cases h
   ·exact ahm le h
theorem FO(le:lJ F G){f:J}{args:List J}{h:ag}{r}(aC:km E F f args h=some r) :km E G f args h=some r:=by
 unfold km at aC|-;split at aC
 ·split at aC
  ·cases aC
  ·split at aC
   ·cases aC
   ·rename_i f first captured fn aB body af
    dsimp only at aC|-;split at aC
    ·rename_i x s aA;rw[le.code _ _ _ _ aA];exact aC
    ·cases aC
 ·split at aC
  ·split at aC
   ·cases aC
   ·split at aC
    ·rename_i rV;rw[le.code _ _ _ _ rV];dsimp only at aC|-;split at aC
     ·split at aC
      ·rename_i ZC;rw[le.code _ _ _ _ ZC];exact aC
      ·cases aC
     ·cases aC
    ·cases aC
  ·cases aC
 ·cases aC
theorem YD{p:cw}(le:lJ F G) :lJ (Ch E p F) (Ch E p G)where
 call:=λf a h r aC=>by
  show oG E p G f a h=some r
  have aC:oG E p F f a h=some r:=aC;unfold oG at aC|-;split at aC
  ·split at aC
   ·split at aC
    ·exact aC
    ·exact FO le aC
   ·exact FO le aC
  ·exact FO le aC
 code:=λro c s r aC=>W5 le aC
end
theorem MV(E:Env)(p:cw) :∀n,lJ (fns E p n) (fns E p (n+1))
 |0=>⟨(λ_ _ _ _ h=>by cases h),(λ_ _ _ _ h=>by cases h)⟩
 |n+1=>YD (MV E p n)
theorem lJ.trans{F G H:ff}(a:lJ F G)(b:lJ G H) :lJ F H:=⟨λf x h r aC=>b.call _ _ _ _ (a.call f x h r aC),λro c s r aC=>b.code _ _ _ _ (a.code ro c s r aC)⟩
theorem tv(E:Env)(p:cw){n m:Nat}(h:n<=m) :lJ (fns E p n) (fns E p m):=by
 induction h with
 |refl=>exact⟨λ_ _ _ _ h=>h,λ_ _ _ _ h=>h⟩
 |step _ bI=>exact bI.trans (MV E p _)
def call(E:Env)(p:cw)(f:J)(args:List J)(h:ag) :Option (J×ag):=by
 classical
 exact if ab:∃r n,(fns E p n).call f args h=some r then some (Classical.choose ab)else none
def iM(E:Env)(p:cw)(ro:Option Nat)(c:Code)(s:cl)(x:cW)(aS:cl) :Prop:=∃n,(fns E p n).code ro c s=some (x,aS)
theorem tm{E:Env}{p:cw}{f:J}{args:List J}{h:ag}{r:J×ag} :call E p f args h=some r↔∃n,(fns E p n).call f args h=some r:=by
 unfold call;constructor
 ·intro aA;split at aA
  ·rename_i ab;have:=Classical.choose_spec ab;simp only[Option.some.injEq]at aA;rw[aA]at this;exact this
  ·cases aA
 ·rintro⟨n,al⟩;have ab:∃r n,(fns E p n).call f args h=some r:=⟨r,n,al⟩;rw[dif_pos ab];obtain⟨m,hm⟩:=Classical.choose_spec ab;have h1:=(tv E p (Nat.le_max_left m n)).call _ _ _ _ hm;have aa:=(tv E p (Nat.le_max_right m n)).call _ _ _ _ al;rw[h1]at aa;exact aa
def bj.del{α:Type}(t:bj α) :Nat->bj α:=
 bj.rec (motive:=λ_=>Nat->bj α) (λ_=>.nil)
  (λl v r r_ r' k=>Bool.rec (Bool.rec (.node l v (r' (Nat.sub (Nat.div k 2) 1))) (.node (r_ (Nat.div k 2)) v r) (Nat.beq (Nat.mod k 2) 1)) (.node l none r) (Nat.beq k 0)) t
abbrev br:=cW×List J×ag
abbrev p5:=cW->bl->ag->Option br
def cd{α:Type}(o:Option α)(k:α->Option br) :Option br:=match o with
 |some a=>k a
 |none=>none
def eM(o:Option (J×ag))(k:J->ag->Option br) :Option br:=match o with
 |some (v,h)=>k v h
 |none=>none
def gy(o:Option ((Nat->J) ×bp))(h:ag)(k:J->ag->Option br) :Option br:=match o with
 |some (f,bP)=>k (f h.next) (h.new bP)
 |none=>none
def jg(o:Option br)(k:cW->List J->ag->Option br) :Option br:=match o with
 |some (x,vs,h)=>k x vs h
 |none=>none
def kc(vs:List J)(k:J->List J->Option br) :Option br:=match vs with
 |v::vs=>k v vs
 |[]=>none
def k6(vs:List J)(k:Option br) :Option br:=match vs with
 |[]=>k
 |_::_=>none
def j'(v:J)(a b:Option br) :Option br:=match v with
 | .bool true=>a
 | .bool false=>b
 |_=>none
def iG(v:J)(w:Bool)(a b:Option br) :Option br:=match v with
 | .bool true=>(match w with
  |true=>a
  |false=>b)
 | .bool false=>(match w with
  |true=>b
  |false=>a)
 |_=>b
def HM(v:J)(w:Bool) :Bool:=match v with
 | .bool x=>x==w
 |_=>false
theorem Qg(v:J)(w:Bool)(a b:Option br) :iG v w a b=if HM v w=true then a else b:=by
 cases v<;>first|rfl|skip
 rename_i x;cases x<;>cases w<;>rfl
def lk(x:cW)(a b:Option br)(c:Nat->Option br) :Option br:=match x with
 | .normal=>a
 | .ret=>b
 | .exit i=>c i
 | .goto _=>none
def lQ(id:Nat)(x:cW)(a b:Option br)(c:Nat->Option br) :Option br:=match x with
 | .exit i=>bif Nat.beq i id then a else c i
 | .ret=>b
 | .normal=>none
 | .goto _=>none
def y_:List Nat->Nat->(Nat->Option br)->Option br
 |[],_,_=>none
 |j::OE,i,k=>bif Nat.beq i j then k j else y_ OE i k
def fy:Nat->(List J->ag->Option br)->List J->ag->Option br
 |0,f,vs,h=>f vs h
 |k+1,f,vs,h=>match fy k f vs h with
  |some (.normal,c9,bg)=>fy k f c9 bg
  |r=>r
def iX(c a b:J) :Option J:=match c with
 | .bool true=>some a
 | .bool false=>some b
 |_=>none
def dJ(E:Env)(h:ag)(t:TypeId)(a:J) :Option J:=match a with
 | .ptr id off=>loadT E h t id off
 |_=>none
def dU(E:Env)(h:ag)(t:TypeId)(a v:J) :Option ag:=match a with
 | .ptr id off=>storeT E h t id off v
 |_=>none
def kY(v:J) :Option J:=match v with
 | .ptr id off=>some (.ptr id off)
 | .func f a b=>some (.func f a b)
 | .yield l=>some (.yield l)
 |_=>none
def j2(v:J)(i:Nat) :Option J:=match v with
 | .tuple vs=>vs[i]?
 |_=>none
def C8:Option J->Option (Option Int)
 |none=>some none
 |some (.int _ n)=>some (some n)
 |_=>none
def ik(E:Env)(h:ag)(t:TypeId)(v:J)(lo U e':Option J) :Option J:=match C8 lo,C8 U,C8 e' with
 |some lo,some U,some e'=>jP E h t v lo U e'
 |_,_,_=>none
def dW(E:Env)(t:TypeId)(ps:List (Nat×J)) :Option J:=match E.ty t with
 |some i=>match i.desc with
  | .struct _=>match kQ (λk=>i.parts[k]?) i.zero ps with
   |some cs=>some (.agg cs)
   |none=>none
  | .array _ e=>match E.ty e with
   |some ie=>match kQ (λk=>some (k*ie.size,ie.size)) i.zero ps with
    |some cs=>some (.agg cs)
    |none=>none
   |none=>none
  |_=>none
 |none=>none
def hN(E:Env)(t:TypeId) :Option ((Nat->J) ×bp):=match E.ty t with
 |some i=>some (λid=>.ptr id 0,qN i.desc i.zero)
 |none=>none
def h3(E:Env)(t:TypeId)(v:J) :Option ((Nat->J) ×bp):=match E.ty t with
 |some i=>some (λid=>.ptr id 0,qN i.desc v.cells)
 |none=>none
def gY(E:Env)(t:TypeId)(len:Nat)(ps:List (Nat×J)) :Option ((Nat->J) ×bp):=match E.ty t with
 |some i=>match i.desc with
  | .slice e=>match E.ty e with
   |some ie=>bif Nat.ble (len*ie.size) 16777216 then match kQ (λk=>some (k*ie.size,ie.size)) (iH len ie.zero) ps with
    |some cs=>some (λid=>.slice id 0 len len ie.size true,qN ie.desc cs)
    |none=>none else none
   |none=>none
  |_=>none
 |none=>none
def kW(E:Env)(t:TypeId)(l c:J) :Option ((Nat->J) ×bp):=match xR E t l c with
 |some (l,c,sz,o)=>some (λid=>.slice id 0 l c sz true,o)
 |none=>none
def mF:Option ((Nat->J) ×bp):=some (λid=>.map id,.map [] 0)
def lf(E:Env)(d:TypeId)(v:J) :Option ((Nat->J) ×bp):=match B1 E d v with
 |some (l,o)=>some (λid=>.slice id 0 l l 1 false,o)
 |none=>none
def hx(E:Env)(ρ:bl) :Operand->Option J
 | .tmp t=>bj.get ρ t
 | .const v=>wX v
 | .func f=>some (.func f [] [])
 | .global g=>bif Nat.blt g E.xX then some (.ptr g 0)else none
def uH(E:Env)(ρ:bl) :List Operand->Option (List J)
 |[]=>some []
 |x::xs=>match hx E ρ x,uH E ρ xs with
  |some v,some l=>some (v::l)
  |_,_=>none
def x4(E:Env)(ρ:bl) :List (Nat×Operand)->Option (List (Nat×J))
 |[]=>some []
 |(i,x)::xs=>match hx E ρ x,x4 E ρ xs with
  |some v,some l=>some ((i,v)::l)
  |_,_=>none
def t_(E:Env)(ρ:bl) :Option Operand->Option (Option J)
 |none=>some none
 |some x=>match hx E ρ x with
  |some v=>some (some v)
  |none=>none
def aQ(E:Env)(ρ:bl)(x:Operand)(k:J->Option br) :Option br:=match hx E ρ x with
 |some v=>k v
 |none=>none
def a2(E:Env)(ρ:bl)(x y:Operand)(k:J->J->Option br) :Option br:=match hx E ρ x,hx E ρ y with
 |some v,some w=>k v w
 |_,_=>none
abbrev iL:=J->List J->ag->Option (J×ag)
def LV(E S:Env)(C:iL)(ρ:bl)(h:ag)(c:Call)(K:J->ag->Option br) :Option br:=
 match uH S ρ c.args.toList with
 |none=>none
 |some vs=>match c.callee with
  | .value f=>aQ S ρ f λf=>eM (C f vs h) K
  | .invoke _ _=>none
  | .builtin b=>match b,vs with
   | .len,[x]=>match c.argTypes[0]? with
    |some t=>cd (eW E h t x) λv=>K v h
    |none=>none
   | .cap,[x]=>match c.argTypes[0]? with
    |some t=>cd (lO E t x) λv=>K v h
    |none=>none
   | .min,x::xs=>cd (jI x xs) λv=>K v h
   | .max,x::xs=>cd (jH x xs) λv=>K v h
   | .append,[s,x]=>match c.argTypes[0]?,c.argTypes[1]? with
    |some t,some u=>eM (fJ E h t u s x) K
    |_,_=>none
   | .copy,[d,x]=>match c.argTypes[0]? with
    |some t=>eM (jB E h t d x) K
    |none=>none
   | .clear,[x]=>match c.argTypes[0]? with
    |some t=>cd (jh E h t x) λh=>K .undef h
    |none=>none
   | .delete,[m,k]=>match c.argTypes[0]? with
    |some t=>cd (kn E h t m k) λh=>K .undef h
    |none=>none
   |_,_=>none
def Ao(E S:Env)(C:iL)(ρ:bl)(h:ag)(op:Op)(K:J->ag->Option br) :Option br:=
 match op with
 | .move x=>aQ S ρ x λv=>K v h
 | .assign x=>aQ S ρ x λv=>K v h
 | .pick c a b=>match hx S ρ c,hx S ρ a,hx S ρ b with
  |some c,some a,some b=>cd (iX c a b) λv=>K v h
  |_,_,_=>none
 | .alloc t=>gy (hN E t) h K
 | .box t x=>aQ S ρ x λv=>gy (h3 E t v) h K
 | .build t ps=>match x4 S ρ ps.toList with
  |some ps=>cd (dW E t ps) λv=>K v h
  |none=>none
 | .buildSlice t n ps=>match x4 S ρ ps.toList with
  |some ps=>gy (gY E t n ps) h K
  |none=>none
 | .makeMap _ none=>gy mF h K
 | .makeSlice t l c=>a2 S ρ l c λl c=>gy (kW E t l c) h K
 | .load t a=>aQ S ρ a λa=>cd (dJ E h t a) λv=>K v h
 | .store t a x=>a2 S ρ a x λa x=>cd (dU E h t a x) λh=>K .undef h
 | .nilCheck x=>aQ S ρ x λv=>cd (kY v) λv=>K v h
 | .binOp op t x y _=>a2 S ρ x y λx y=>cd (cV E h op t x y) λv=>K v h
 | .unOp op _ x=>aQ S ρ x λx=>cd (k5 op x) λv=>K v h
 | .convert s d x=>aQ S ρ x λx=>bif HO S d then(match S.ty s with
  |some _=>gy (lf E d x) h K
  |none=>none)else cd (fS E h s d x) λv=>K v h
 | .makeFunc (.func f) first cap=>match uH S ρ first.toList,uH S ρ cap.toList with
  |some a,some b=>K (.func f a b) h
  |_,_=>none
 | .slice t x lo U e'=>aQ S ρ x λx=>match t_ S ρ lo,t_ S ρ U,t_ S ρ e' with
  |some lo,some U,some e'=>cd (ik E h t x lo U e') λv=>K v h
  |_,_,_=>none
 | .fieldAddr s x f=>aQ S ρ x λx=>cd (gN E s x f) λv=>K v h
 | .field s x f=>aQ S ρ x λx=>cd (lS E s x f) λv=>K v h
 | .indexAddr t x i=>a2 S ρ x i λx i=>cd (eV E t x i) λv=>K v h
 | .index t x i=>a2 S ρ x i λx i=>cd (jn E t x i) λv=>K v h
 | .lookup t x i ok=>a2 S ρ x i λx i=>cd (iD E h t x i ok) λv=>K v h
 | .extract x i=>aQ S ρ x λx=>cd (j2 x i) λv=>K v h
 | .mapUpdate t m k x=>match hx S ρ m,hx S ρ k,hx S ρ x with
  |some m,some k,some x=>cd (iE E h t m k x) λh=>K .undef h
  |_,_,_=>none
 | .insert t m k x=>match hx S ρ m,hx S ρ k,hx S ρ x with
  |some m,some k,some x=>cd (iE E h t m k x) λh=>K .undef h
  |_,_,_=>none
 | .call c=>LV E S C ρ h c K
 |_=>none
def uU(n:Nat)(o:Oper) :Bool:=match o.dst with
 |some d=>Nat.blt d n
 |none=>true
def fl:List Oper->List Tmp
 |[]=>[]
 |o::l=>match o.dst with
  |some d=>d::fl l
  |none=>fl l
def ki:Code->List Tmp
 | .region _ ops _=>fl ops.toList
 | .seq a b=>ki a++ki b
 | .cond _ a b=>ki a++ki b
 | .block _ b=>ki b
 | .loop b=>ki b
 | .scope b=>ki b
 |_=>[]
def kill(ρ:bl) :List Tmp->bl
 |[]=>ρ
 |t::ts=>kill (ρ.del t) ts
def getAll(ρ:bl) :List Tmp->Option (List J)
 |[]=>some []
 |t::ts=>match bj.get ρ t,getAll ρ ts with
  |some v,some l=>some (v::l)
  |_,_=>none
def ye:List Tmp->List J->bl->(bl->Option br)->Option br
 |[],vs,ρ,K=>k6 vs (K ρ)
 |t::ts,vs,ρ,K=>kc vs λv vs=>ye ts vs (ρ.set t v) K
def nj(outs:List Tmp) :p5:=λx ρ h=>match getAll ρ outs with
 |some vs=>some (x,vs,h)
 |none=>none
def x1(E S:Env)(C:iL)(n:Nat) :List Oper->(bl->ag->Option br)->bl->ag->Option br
 |[],K,ρ,h=>K ρ h
 |o::rest,K,ρ,h=>bif uU n o then Ao E S C ρ h o.op λv h=>x1 E S C n rest K (fc ρ o.dst v) h else none
abbrev wK:=Option (Nat×Bool) ×List Oper
def eqGuard:Option (Nat×Bool)->Option (Nat×Bool)->Bool
 |none,none=>true
 |some (i,a),some (j,b)=>Nat.beq i j&&(match a,b with
  |true,true=>true
  |false,false=>true
  |_,_=>false)
 |_,_=>false
def u5:List Oper->List wK
 |[]=>[]
 |o::rest=>match u5 rest with
  |(g,l)::gs=>bif eqGuard o.guard g then(g,o::l)::gs else(o.guard,[o])::(g,l)::gs
  |[]=>[(o.guard,[o])]
def ES:List Tmp->List J
 |[]=>[]
 |_::l=>.undef::ES l
def AS:List Tmp->List Tmp->Bool
 |[],_=>true
 |t::ts,l=>ob t l&&AS ts l
def B5(n:Nat) :List Oper->Bool
 |[]=>true
 |o::l=>uU n o&&B5 n l
def vV(E S:Env)(C:iL)(n:Nat)(ops:Array Oper) :List wK->List (List Tmp)->(bl->ag->Option br)->bl->ag->Option br
 |[],_,K,ρ,h=>K ρ h
 |(none,l)::gs,os,K,ρ,h=>x1 E S C n l (λρ h=>vV E S C n ops gs os K ρ h) ρ h
 |(some (j,w),l)::gs,os,K,ρ,h=>match os,ops[j]? with
  |outs::os,some g=>match g.dst with
   |some d=>bif AS outs (fl l) && !ob d (fl l) &&B5 n l then
     match bj.get ρ d with
     |some v=>jg (iG v w (x1 E S C n l (nj outs .normal) ρ h) (some (.normal,ES outs,h)))
      λ_ vs h=>ye outs vs (kill ρ (fl l)) λρ=>vV E S C n ops gs os K ρ h
     |none=>none
    else none
   |none=>none
  |_,_=>none
def ag.aV(h:ag)(k:Nat) :ag:={h with next:=h.next+k}
def jf(o:Option ((Nat->J) ×bp))(id:Nat)(h:ag)(k:J->ag->Option br) :Option br:=match o with
 |some (f,bP)=>k (f id) (h.put id bP)
 |none=>none
def hZ:List ag->(ag->Option J)->J->Option br->Option br
 |[],f,v,k=>k
 |g::gs,f,v,k=>match f g with
  |some w=>bif J.beq w v then hZ gs f v k else none
  |none=>none
def IC(E S:Env)(ρ:bl)(id:Nat)(h:ag)(op:Op)(k:J->ag->Option br) :Option br:=
 match op with
 | .alloc t=>jf (hN E t) id h k
 | .box t x=>aQ S ρ x λv=>jf (h3 E t v) id h k
 | .buildSlice t n ps=>match x4 S ρ ps.toList with
  |some ps=>jf (gY E t n ps) id h k
  |none=>none
 | .makeMap _ none=>jf mF id h k
 | .makeSlice t l c=>a2 S ρ l c λl c=>jf (kW E t l c) id h k
 | .convert s d x=>aQ S ρ x λx=>match S.ty s with
  |some _=>jf (lf E d x) id h k
  |none=>none
 |_=>none
def xK(E:Env)(t:TypeId) :Bool:=match E.ty t with
 |some i=>match i.desc with
  | .int _=>true
  | .bool=>true
  | .string=>true
  |_=>false
 |none=>false
def z_(E:Env)(t:TypeId) :Bool:=match E.ty t with
 |some i=>match i.desc with
  | .int _=>true
  |_=>false
 |none=>false
def Ab(E:Env)(t:TypeId) :Bool:=match E.ty t with
 |some i=>match i.desc with
  | .string=>true
  |_=>false
 |none=>false
def z'(E:Env)(t:TypeId) :Bool:=match E.ty t with
 |some i=>match i.desc with
  | .map _ _=>true
  |_=>false
 |none=>false
def z7(E:Env)(t:TypeId) :Bool:=match E.ty t with
 |some i=>match i.desc with
  | .array _ _=>true
  |_=>false
 |none=>false
def x_(E S:Env)(ρ:bl)(op:Op) :Option (ag->Option J):=
 match op with
 | .load t a=>match hx S ρ a with
  |some a=>some λg=>dJ E g t a
  |none=>some λ_=>none
 | .binOp op t x y _=>bif xK S t then none else match hx S ρ x,hx S ρ y with
  |some x,some y=>some λg=>cV E g op t x y
  |_,_=>some λ_=>none
 | .convert s d x=>bif z_ S d||Ab S s then none else match hx S ρ x with
  |some x=>some λg=>fS E g s d x
  |none=>some λ_=>none
 | .slice t x lo U e'=>bif z7 S t then(match hx S ρ x,t_ S ρ lo,t_ S ρ U,t_ S ρ e' with
  |some x,some lo,some U,some e'=>some λg=>ik E g t x lo U e'
  |_,_,_,_=>some λ_=>none)else none
 | .lookup t x i ok=>match hx S ρ x,hx S ρ i with
  |some x,some i=>some λg=>iD E g t x i ok
  |_,_=>some λ_=>none
 | .call c=>match c.callee,uH S ρ c.args.toList with
  | .builtin .len,some [x]=>match c.argTypes[0]? with
   |some t=>bif z' S t then some λg=>eW E g t x else none
   |none=>some λ_=>none
  | .builtin .cap,_=>none
  | .builtin .min,_=>none
  | .builtin .max,_=>none
  |_,_=>some λ_=>none
 | .move _| .assign _| .pick .. | .build .. | .nilCheck _| .unOp .. | .makeFunc .. | .fieldAddr .. | .field .. | .indexAddr .. | .index .. | .extract .. =>none
 |_=>some λ_=>none
structure rm where
 i:Nat
 ver:Nat
 op:Op
 ρ:bl
 v:J
abbrev Bx:=Nat->Nat->bl->ag->List (Nat×Nat×ag)->List rm->Option br
def l'(b i:Nat) :Nat:=b+i
def mG(h:ag) :Nat:=h.next
def pd(E S:Env)(C:iL)(n base:Nat)(run:Bool) :List Oper->Bx->Bx
 |[],K,i,ver,ρ,h,gs,ls=>K i ver ρ h gs ls
 |o::rest,K,i,ver,ρ,h,gs,ls=>bif uU n o then
   match kindOf S o.op,run with
   | .act,true=>Ao E S C ρ h o.op λv g=>pd E S C n base run rest K (i+1) (ver+1) (fc ρ o.dst v) g ((i,ver,h)::gs) ls
   | .act,false=>pd E S C n base run rest K (i+1) ver (fc ρ o.dst .undef) h ((i,ver,h)::gs) ls
   | .make,true=>IC E S ρ (l' base i) h o.op λv g=>pd E S C n base run rest K (i+1) (ver+1) (fc ρ o.dst v) g gs ls
   | .look,true=>Ao E S C ρ h o.op λv _=>pd E S C n base run rest K (i+1) ver (fc ρ o.dst v) h gs ({i,ver,op:=o.op,ρ,v}::ls)
   |_,false=>pd E S C n base run rest K (i+1) ver (fc ρ o.dst .undef) h gs ls
  else none
def uM(bs:List Nat)(i ver lastVer:Nat)(last:ag) :List (Nat×Nat×ag)->List ag
 |[]=>bif Nat.beq ver lastVer then[]else[last]
 |(a,v,g)::rest=>bif iO (bs.getD i 0) a then uM bs i ver lastVer last rest
  else bif iO (bs.getD a 0) i then(bif Nat.beq ver v then[]else[g])
  else bif Nat.beq ver v then uM bs i ver lastVer last rest else g::uM bs i ver lastVer last rest
def yV(E S:Env)(bs:List Nat)(gs:List (Nat×Nat×ag))(last:ag)(lastVer:Nat) :List rm->Option br->Option br
 |[],k=>k
 |⟨i,ver,op,ρ,v⟩::rest,k=>match x_ E S ρ op with
  |none=>yV E S bs gs last lastVer rest k
  |some f=>hZ (uM bs i ver lastVer last gs) f v (yV E S bs gs last lastVer rest k)
def sW(E S:Env)(C:iL)(n base:Nat)(bs:List Nat)(ops:Array Oper) :List wK->(bl->ag->Option br)->Bx
 |[],K,i,ver,ρ,h,gs,ls=>yV E S bs gs.reverse h ver ls (K ρ h)
 |(none,l)::rest,K,i,ver,ρ,h,gs,ls=>pd E S C n base true l (sW E S C n base bs ops rest K) i ver ρ h gs ls
 |(some (j,w),l)::rest,K,i,ver,ρ,h,gs,ls=>match ops[j]? with
  |some g=>match g.dst with
   |some d=>bif ob d (fl l)then none else match bj.get ρ d with
    |some v=>iG v w (pd E S C n base true l (sW E S C n base bs ops rest K) i ver ρ h gs ls) (pd E S C n base false l (sW E S C n base bs ops rest K) i ver ρ h gs ls)
    |none=>none
   |none=>none
  |none=>none
def mI(b:Bool)(k:Option br) :Option br:=bif b then k else none
def F3(E S:Env)(C:iL)(n:Nat)(ops:Array Oper)(K:bl->ag->Option br)(ρ:bl)(h:ag) :Option br:=
 mI (k3 S ops (jX ops.toList []) ops.toList 0) (sW E S C n (mG h) (jX ops.toList []) ops (u5 ops.toList) K 0 0 ρ (h.aV ops.size) [] [])
inductive lI where
 |leaf
 |sF (os:List (List Tmp))
 |seq (a b:lI)
 |cond (a b:lI)
 |jY (a:lI)
 |JG (a:lI)
 |cut (outs:List Tmp) (ids:List Nat) (a:lI)
 |loop (outs:List Tmp) (ids:List Nat) (a:lI)
 |drawn
def Rr(K:p5)(k:bl->ag->Option br) :p5:=λx ρ h=>match x with
 | .normal=>k ρ h
 | .exit i=>K (.exit i) ρ h
 | .ret=>K .ret ρ h
 | .goto _=>none
def LG(id:Nat)(K:p5) :p5:=λx ρ h=>match x with
 | .normal=>K .normal ρ h
 | .exit i=>bif Nat.beq i id then K .normal ρ h else K (.exit i) ρ h
 | .ret=>K .ret ρ h
 | .goto _=>none
def Rq(K:p5) :p5:=λx ρ h=>match x with
 | .normal=>K .normal ρ h
 | .exit i=>K (.exit i) ρ h
 | .ret=>K .ret ρ h
 | .goto _=>none
def den(E S:Env)(C:iL)(n:Nat) :lI->Code->p5->bl->ag->Option br
 | .cut outs ids a,c,K,ρ,h=>jg (den E S C n a c (nj outs) ρ h) λx vs h=>ye outs vs (kill ρ (ki c)) λρ=>lk x (K .normal ρ h) (K .ret ρ h) λi=>y_ ids i λj=>K (.exit j) ρ h
 | .leaf,c,K,ρ,h=>match c with
  | .skip=>K .normal ρ h
  | .label _=>K .normal ρ h
  | .exit id=>K (.exit id) ρ h
  | .ret=>K .ret ρ h
  |_=>none
 | .sF os,c,K,ρ,h=>match c with
  | .region _ ops false=>vV E S C n ops (u5 ops.toList) os (K .normal) ρ h
  |_=>none
 | .seq a b,c,K,ρ,h=>match c with
  | .seq c d=>den E S C n a c (Rr K (den E S C n b d K)) ρ h
  |_=>none
 | .cond a b,c,K,ρ,h=>match c with
  | .cond x c d=>aQ S ρ x λv=>j' v (den E S C n a c K ρ h) (den E S C n b d K ρ h)
  |_=>none
 | .jY a,c,K,ρ,h=>match c with
  | .block id c=>den E S C n a c (LG id K) ρ h
  |_=>none
 | .JG a,c,K,ρ,h=>match c with
  | .scope c=>den E S C n a c (Rq K) ρ h
  |_=>none
 | .loop outs ids a,c,K,ρ,h=>match c with
  | .block id (.loop c)=>match getAll ρ outs with
   |none=>none
   |some vs=>jg (fy 14 (λvs h=>ye outs vs (kill ρ (ki c)) λρ=>den E S C n a c (nj outs) ρ h) vs h) λx vs h=>
    ye outs vs (kill ρ (ki c)) λρ=>lQ id x (K .normal ρ h) (K .ret ρ h) λi=>y_ ids i λj=>K (.exit j) ρ h
  |_=>none
 | .drawn,c,K,ρ,h=>match c with
  | .region _ ops true=>F3 E S C n ops (K .normal) ρ h
  |_=>none
def uj(E:Env)(ρ:bl)(h:ag) :List ResultVar->(List J->Option br)->Option br
 |[],k=>k []
 | .tmp t::rest,k=>match bj.get ρ t with
  |some v=>uj E ρ h rest λl=>k (v::l)
  |none=>none
 | .cell a t::rest,k=>match bj.get ρ a with
  |some p=>cd (dJ E h t p) λv=>uj E ρ h rest λl=>k (v::l)
  |none=>none
def ML(E:Env)(rs:List ResultVar) :p5:=λx ρ h=>match x with
 | .normal=>uj E ρ h rs λvs=>some (.ret,vs,h)
 | .ret=>uj E ρ h rs λvs=>some (.ret,vs,h)
 |_=>none
def Gr(E S:Env)(C:iL)(fn:Func)(a:lI)(args:List J)(h:ag) :Option br:=match fn.body with
 |some c=>den E S C (max fn.ntmps args.length) a c (ML E fn.results.toList) (qX args 0 .nil) h
 |none=>none
def iY:List J->J
 |[v]=>v
 |[]=>.undef
 |vs=>.tuple vs
namespace bj
variable{α:Type}
theorem YY:∀(t:bj α) (k j:Nat),(t.del k).get j=if j=k then none else t.get j:=by
 intro t;induction t with
 |nil=>intro k j;show none=_;simp[get_nil]
 |node l v r r_ r'=>
  intro k j;have e:(bj.node l v r).del k=Bool.rec (Bool.rec (.node l v (r.del (k/2-1))) (.node (l.del (k/2)) v r) (Nat.beq (k%2) 1)) (.node l none r) (Nat.beq k 0):=rfl;rw[e,tk,tk];simp only[Go.a6.beq_true];by_cases aj:k=0
  ·subst aj;simp only[if_true,oM];by_cases az:j=0<;>simp[az]
  ·by_cases aD:k%2=1
   ·simp only[aj,aD,if_true,if_false,oM,r_];by_cases az:j=0
    ·have:¬j=k:=by omega
     simp[az];intro e;omega
    ·by_cases ay:j%2=1
     ·have:(j/2=k/2)=(j=k):=by apply propext;omega
      simp[az,ay,this]
     ·have:¬j=k:=by omega
      simp[az,ay,this]
   ·simp only[aj,aD,if_false,oM,r'];by_cases az:j=0
    ·simp[az];intro e;omega
    ·by_cases ay:j%2=1
     ·have:¬j=k:=by omega
      simp[az,ay,this]
     ·have:(j/2-1=k/2-1)=(j=k):=by apply propext;omega
      simp[az,ay,this]
end bj
def eE(ρ r:bl) :Prop:=∀t v,bj.get ρ t=some v->bl.get r t=v
theorem eE.refl(r:bl) :eE r r:=λt v h=>by simp[bl.get,h]
theorem eE.fc{ρ r:bl}(h:eE ρ r)(d:Option Tmp)(v:J) :eE (fc ρ d v) (fc r d v):=by
 intro t w aN;rw[oj];cases d with
 |none=>simpa [Go.a6.fc]using h t w aN
 |some d=>
  simp only[Go.a6.fc,bj.kq]at aN;by_cases e:t=d
  ·subst e;rw[if_pos rfl]at aN|-;exact Option.some.inj aN
  ·rw[if_neg e]at aN;have:¬(some d=some t):=λh=>e (Option.some.inj h).symm
   rw[if_neg this];exact h t w aN
theorem eE.set{ρ r:bl}(h:eE ρ r){t:Nat}{v:J}(ae:bl.get r t=v) :eE (bj.set ρ t v) r:=by
 intro u w hu;rw[bj.kq]at hu;by_cases e:u=t
 ·subst e;rw[if_pos rfl]at hu;rw[ae];exact Option.some.inj hu
 ·rw[if_neg e]at hu;exact h u w hu
theorem ON:∀(ts:List Tmp) (ρ:bl) (t:Nat) (v:J),bj.get (kill ρ ts) t=some v->t∉ts/\bj.get ρ t=some v
 |[],ρ,t,v,h=>⟨List.not_mem_nil,h⟩
 |u::ts,ρ,t,v,h=>by
  obtain⟨h1,aa⟩:=ON ts (ρ.del u) t v h;rw[bj.YY]at aa;by_cases e:t=u
  ·rw[if_pos e]at aa;cases aa
  ·rw[if_neg e]at aa;exact⟨λhm=>by rcases List.mem_cons.1 hm with rfl|hm<;>contradiction,aa⟩
theorem xb{ρ r:bl}(aj:eE ρ r) :∀{ts:List Tmp} {vs:List J},getAll ρ ts=some vs->vs=ts.map (bl.get r)
 |[],vs,h=>by cases h;rfl
 |t::ts,vs,h=>by
  unfold getAll at h;split at h
  ·rename_i v l h1 aa;cases h;rw[List.map_cons,aj t v h1,xb aj aa]
  ·cases h
theorem AL{K:bl->Option br}{res:br}{r:bl} :∀{ts:List Tmp} {vs:List J} {ρ:bl},ye ts vs ρ K=some res->vs=ts.map (bl.get r)->eE ρ r->∃a8,eE a8 r/\K a8=some res
 |[],vs,ρ,h,e,aj=>by subst e;exact⟨ρ,aj,h⟩
 |t::ts,vs,ρ,h,e,aj=>by subst e;exact AL (ts:=ts) h rfl (aj.set rfl)
section
variable{E:Env}{p:cw}{n:Nat}
theorem eg{ρ r:bl}(aj:eE ρ r){x:Operand}{v:J}(h:hx E ρ x=some v) :dk E r x=some v:=by
 cases x with
 |tmp t=>exact congrArg some (aj t v h)
 |const c=>exact h
 |global g=>exact h
 |func f=>exact h
theorem wS{ρ r:bl}(aj:eE ρ r) :∀{xs:List Operand} {vs:List J},uH E ρ xs=some vs->kp E r xs=some vs
 |[],vs,h=>h
 |x::xs,vs,h=>by
  unfold uH at h;split at h
  ·rename_i v l h1 aa;unfold kp;rw[eg aj h1,wS aj aa];exact h
  ·cases h
theorem DP{ρ r:bl}(aj:eE ρ r) :∀{xs:List (Nat×Operand)} {vs:List (Nat×J)},x4 E ρ xs=some vs->qk E r xs=some vs
 |[],vs,h=>h
 |(i,x)::xs,vs,h=>by
  unfold x4 at h;split at h
  ·rename_i v l h1 aa;unfold qk;rw[eg aj h1,DP aj aa];exact h
  ·cases h
theorem x2{ρ r:bl}(aj:eE ρ r){x:Option Operand}{v:Option J}(h:t_ E ρ x=some v) :qS E r x=C8 v:=by
 cases x with
 |none=>cases h;rfl
 |some x=>
  unfold t_ at h;cases aU:hx E ρ x with
  |none=>simp[aU]at h
  |some a=>
   simp[aU]at h;subst h;simp only[qS,eg aj aU];cases a<;>rfl
theorem l9{ρ:bl}{x:Operand}{k:J->Option br}{res:br}(h:aQ E ρ x k=some res) :∃v,hx E ρ x=some v/\k v=some res:=by
 unfold aQ at h;split at h
 ·exact⟨_,by assumption,h⟩
 ·cases h
theorem uF{ρ:bl}{x y:Operand}{k:J->J->Option br}{res:br}(h:a2 E ρ x y k=some res) :∃v w,hx E ρ x=some v/\hx E ρ y=some w/\k v w=some res:=by
 unfold a2 at h;split at h
 ·exact⟨_,_,by assumption,by assumption,h⟩
 ·cases h
theorem iu{α:Type}{o:Option α}{k:α->Option br}{res:br}(h:cd o k=some res) :∃a,o=some a/\k a=some res:=by
 unfold cd at h;split at h
 ·exact⟨_,rfl,h⟩
 ·cases h
theorem Fu{o:Option (J×ag)}{k:J->ag->Option br}{res:br}(h:eM o k=some res) :∃v g,o=some (v,g)/\k v g=some res:=by
 unfold eM at h;split at h
 ·exact⟨_,_,rfl,h⟩
 ·cases h
theorem wU{o:Option ((Nat->J) ×bp)}{h:ag}{k:J->ag->Option br}{res:br}(aC:gy o h k=some res) :∃f bP,o=some (f,bP)/\k (f h.next) (h.new bP)=some res:=by
 unfold gy at aC;split at aC
 ·exact⟨_,_,rfl,aC⟩
 ·cases aC
theorem Fv{o:Option br}{k:cW->List J->ag->Option br}{res:br}(h:jg o k=some res) :∃x vs g,o=some (x,vs,g)/\k x vs g=some res:=by
 unfold jg at h;split at h
 ·exact⟨_,_,_,rfl,h⟩
 ·cases h
def yL(E:Env)(p:cw)(r:bl)(h:ag)(op:Op)(v:J)(g:ag) :Prop:=
 ih E r h op=.value v g\/(ih E r h op=.skip g/\v=.undef)\/∃f args,ih E r h op=.call f args/\call E p f args h=some (v,g)
theorem IW{ρ r:bl}(aj:eE ρ r){h:ag}{op:Op}{K:J->ag->Option br}{res:br}(ao:Ao E E (call E p) ρ h op K=some res) :∃v g,yL E p r h op v g/\K v g=some res:=by
 have look:∀{v:J},(∃o,kindOf E op=o/\o=.look)->ep E r h op=some v->K v h=some res->∃v g,yL E p r h op v g/\K v g=some res:=by intro v ⟨o,aY,e⟩ ar fN;subst e;exact⟨v,h,.inl (by unfold ih;rw[aY,ar];rfl),fN⟩
 have make:∀{f:Nat->J} {bP:bp},kindOf E op=.make->jq E r op=some (f,bP)->K (f h.next) (h.new bP)=some res->∃v g,yL E p r h op v g/\K v g=some res:=by intro f bP aY ar fN;exact⟨_,_,.inl (by unfold ih;rw[aY,ar]),fN⟩
 cases op<;>simp only[Ao]at ao<;>try (cases ao;done)
 case move x=>
  obtain⟨v,h1,aa⟩:=l9 ao;exact look ⟨_,rfl,rfl⟩ (by show dk E r x=_;exact eg aj h1) aa
 case assign x=>
  obtain⟨v,h1,aa⟩:=l9 ao;exact look ⟨_,rfl,rfl⟩ (by show dk E r x=_;exact eg aj h1) aa
 case pick c a b=>
  split at ao
  ·rename_i am1 amZ am0 aA aU af;obtain⟨v,h1,aa⟩:=iu ao;refine look (v:=v) ⟨_,rfl,rfl⟩ ?_ aa;simp only[ep,eg aj aA,eg aj aU,eg aj af];unfold iX at h1;split at h1<;>first|exact h1|cases h1
  ·cases ao
 case alloc t=>
  obtain⟨f,bP,h1,aa⟩:=wU ao;exact make rfl h1 aa
 case box t x=>
  obtain⟨v,h1,aa⟩:=l9 ao;obtain⟨f,bP,av,aO⟩:=wU aa;refine make rfl ?_ aO;unfold h3 at av;simp only[jq,eg aj h1];split at av
  ·rename_i i U;rw[U];exact av
  ·cases av
 case build t ps=>
  split at ao
  ·rename_i l aD;obtain⟨v,h1,aa⟩:=iu ao;refine look (v:=v) ⟨_,rfl,rfl⟩ ?_ aa;simp only[ep,DP aj aD];unfold dW at h1;cases aN:E.ty t with
   |none=>rw[aN]at h1;cases h1
   |some i=>rw[aN]at h1;exact h1
  ·cases ao
 case buildSlice t len ps=>
  split at ao
  ·rename_i l aD;obtain⟨f,bP,h1,aa⟩:=wU ao;refine make rfl ?_ aa;simp only[jq,DP aj aD];unfold gY at h1;cases aN:E.ty t with
   |none=>rw[aN]at h1;cases h1
   |some i=>rw[aN]at h1;exact h1
  ·cases ao
 case makeMap t rv=>
  cases rv with
  |none=>
   obtain⟨f,bP,h1,aa⟩:=wU ao;cases h1;exact make rfl rfl aa
  |some x=>cases ao
 case makeSlice t l c=>
  obtain⟨a,b,h1,aa,av⟩:=uF ao;obtain⟨f,bP,aO,bb⟩:=wU av;refine make rfl ?_ bb;simp only[jq,eg aj h1,eg aj aa];exact aO
 case load t a=>
  obtain⟨v,h1,aa⟩:=l9 ao;obtain⟨w,av,aO⟩:=iu aa;refine look (v:=w) ⟨_,rfl,rfl⟩ ?_ aO;simp only[ep,eg aj h1];unfold dJ at av;split at av
  ·exact av
  ·cases av
 case store t a x=>
  obtain⟨v,w,h1,aa,av⟩:=uF ao;obtain⟨g,aO,bb⟩:=iu av;refine⟨.undef,g,.inr (.inl ⟨?_,rfl⟩),bb⟩;unfold ih;rw[show kindOf E (.store t a x)=.act from rfl];simp only[mU,eg aj h1,eg aj aa];unfold dU at aO;split at aO
  ·simp only[aO];rfl
  ·cases aO
 case nilCheck x=>
  obtain⟨v,h1,aa⟩:=l9 ao;obtain⟨w,av,aO⟩:=iu aa;refine look (v:=w) ⟨_,rfl,rfl⟩ ?_ aO;simp only[ep,eg aj h1];unfold kY at av;split at av<;>first|exact av|cases av
 case binOp op t x y u=>
  obtain⟨v,w,h1,aa,av⟩:=uF ao;obtain⟨z,aO,bb⟩:=iu av;refine look (v:=z) ⟨_,rfl,rfl⟩ ?_ bb;simp only[ep,eg aj h1,eg aj aa];exact aO
 case unOp op t x=>
  obtain⟨v,h1,aa⟩:=l9 ao;obtain⟨z,aO,bb⟩:=iu aa;refine look (v:=z) ⟨_,rfl,rfl⟩ ?_ bb;simp only[ep,eg aj h1];exact aO
 case convert s d x=>
  obtain⟨v,h1,aa⟩:=l9 ao;cases af:HO E d with
  |true=>
   rw[af]at aa;dsimp only[cond]at aa;split at aa
   ·rename_i i U;obtain⟨f,bP,av,aO⟩:=wU aa;refine make (by simp only[kindOf,af,cond]) ?_ aO;simp only[jq,eg aj h1,U];unfold lf at av;split at av
    ·rename_i he;rw[he];exact av
    ·cases av
   ·cases aa
  |false=>
   rw[af]at aa;dsimp only[cond]at aa;obtain⟨z,aO,bb⟩:=iu aa;refine look (v:=z) ⟨_,rfl,by simp only[kindOf,af,cond]⟩ ?_ bb;simp only[ep,eg aj h1];exact aO
 case makeFunc fn first cap=>
  cases fn<;>try (cases ao;done)
  rename_i f;dsimp only at ao;split at ao
  ·rename_i a b aU af;refine look (v:=.func f a b) ⟨_,rfl,rfl⟩ ?_ ao;simp only[ep,wS aj aU,wS aj af]
  ·cases ao
 case slice t x lo U e'=>
  obtain⟨v,h1,aa⟩:=l9 ao;split at aa
  ·rename_i l h m ar aC hm;obtain⟨z,aO,bb⟩:=iu aa;refine look (v:=z) ⟨_,rfl,rfl⟩ ?_ bb;simp only[ep,eg aj h1,x2 aj ar,x2 aj aC,x2 aj hm];unfold ik at aO;split at aO
   ·rename_i aw aL bo;rw[aw,aL,bo];exact aO
   ·cases aO
  ·cases aa
 case fieldAddr s x f=>
  obtain⟨v,h1,aa⟩:=l9 ao;obtain⟨z,aO,bb⟩:=iu aa;refine look (v:=z) ⟨_,rfl,rfl⟩ ?_ bb;simp only[ep,eg aj h1];exact aO
 case field s x f=>
  obtain⟨v,h1,aa⟩:=l9 ao;obtain⟨z,aO,bb⟩:=iu aa;refine look (v:=z) ⟨_,rfl,rfl⟩ ?_ bb;simp only[ep,eg aj h1];exact aO
 case indexAddr t x i=>
  obtain⟨v,w,h1,aa,av⟩:=uF ao;obtain⟨z,aO,bb⟩:=iu av;refine look (v:=z) ⟨_,rfl,rfl⟩ ?_ bb;simp only[ep,eg aj h1,eg aj aa];exact aO
 case index t x i=>
  obtain⟨v,w,h1,aa,av⟩:=uF ao;obtain⟨z,aO,bb⟩:=iu av;refine look (v:=z) ⟨_,rfl,rfl⟩ ?_ bb;simp only[ep,eg aj h1,eg aj aa];exact aO
 case lookup t x i b=>
  obtain⟨v,w,h1,aa,av⟩:=uF ao;obtain⟨z,aO,bb⟩:=iu av;refine look (v:=z) ⟨_,rfl,rfl⟩ ?_ bb;simp only[ep,eg aj h1,eg aj aa];exact aO
 case extract x i=>
  obtain⟨v,h1,aa⟩:=l9 ao;obtain⟨z,aO,bb⟩:=iu aa;refine look (v:=z) ⟨_,rfl,rfl⟩ ?_ bb;simp only[ep,eg aj h1];unfold j2 at aO;split at aO
  ·exact aO
  ·cases aO
 case mapUpdate t m k x=>
  split at ao
  ·rename_i a b c aU af aA;obtain⟨g,aO,bb⟩:=iu ao;refine⟨.undef,g,.inr (.inl ⟨?_,rfl⟩),bb⟩;unfold ih;rw[show kindOf E (.mapUpdate t m k x)=.act from rfl];simp only[mU,eg aj aU,eg aj af,eg aj aA,aO];rfl
  ·cases ao
 case insert t m k x=>
  split at ao
  ·rename_i a b c aU af aA;obtain⟨g,aO,bb⟩:=iu ao;refine⟨.undef,g,.inr (.inl ⟨?_,rfl⟩),bb⟩;unfold ih;rw[show kindOf E (.insert t m k x)=.act from rfl];simp only[mU,eg aj aU,eg aj af,eg aj aA,aO];rfl
  ·cases ao
 case call c=>
  obtain⟨callee,args,ts⟩:=c;unfold LV at ao;dsimp only at ao;split at ao
  ·cases ao
  ·rename_i vs hC;have hC:=wS aj hC;cases callee with
   |value f=>
    dsimp only at ao;obtain⟨akC,h1,aa⟩:=l9 ao;obtain⟨v,g,av,aO⟩:=Fu aa;refine⟨v,g,.inr (.inr ⟨akC,vs,?_,av⟩),aO⟩;unfold ih;rw[show kindOf E (.call ⟨.value f,args,ts⟩)=.act from rfl];simp only[mU,hC,eg aj h1]
   |invoke _ _=>cases ao
   |builtin b=>
    dsimp only at ao;split at ao
    ·split at ao
     ·rename_i aN;obtain⟨z,aO,bb⟩:=iu ao;refine look (v:=z) ⟨_,rfl,rfl⟩ ?_ bb;simp only[ep,hC,aN];exact aO
     ·cases ao
    ·split at ao
     ·rename_i aN;obtain⟨z,aO,bb⟩:=iu ao;refine look (v:=z) ⟨_,rfl,rfl⟩ ?_ bb;simp only[ep,hC,aN];exact aO
     ·cases ao
    ·obtain⟨z,aO,bb⟩:=iu ao;refine look (v:=z) ⟨_,rfl,rfl⟩ ?_ bb;simp only[ep,hC];exact aO
    ·obtain⟨z,aO,bb⟩:=iu ao;refine look (v:=z) ⟨_,rfl,rfl⟩ ?_ bb;simp only[ep,hC];exact aO
    ·split at ao
     ·rename_i aN hu;obtain⟨v,g,aO,bb⟩:=Fu ao;refine⟨v,g,.inl ?_,bb⟩;unfold ih;rw[show kindOf E (.call ⟨.builtin .append,args,ts⟩)=.act from rfl];simp only[mU,hC,aN,hu,aO];rfl
     ·cases ao
    ·split at ao
     ·rename_i aN;obtain⟨v,g,aO,bb⟩:=Fu ao;refine⟨v,g,.inl ?_,bb⟩;unfold ih;rw[show kindOf E (.call ⟨.builtin .copy,args,ts⟩)=.act from rfl];simp only[mU,hC,aN,aO];rfl
     ·cases ao
    ·split at ao
     ·rename_i aN;obtain⟨g,aO,bb⟩:=iu ao;refine⟨.undef,g,.inl ?_,bb⟩;unfold ih;rw[show kindOf E (.call ⟨.builtin .clear,args,ts⟩)=.act from rfl];simp only[mU,hC,aN,aO];rfl
     ·cases ao
    ·split at ao
     ·rename_i aN;obtain⟨g,aO,bb⟩:=iu ao;refine⟨.undef,g,.inl ?_,bb⟩;unfold ih;rw[show kindOf E (.call ⟨.builtin .delete,args,ts⟩)=.act from rfl];simp only[mU,hC,aN,aO];rfl
     ·cases ao
    ·cases ao
theorem yL.step{v:J}{g:ag}{ops:Array Oper}{o:Oper}{s:cl}(aY:yL E p s.r s.h o.op v g)(aE:gB ops s.r o=true)(ao:∀t,o.dst=some t->t<s.n) :
  ∃m,∀k,m<=k->js E (fns E p k) ops o s=some {s with r:=fc s.r o.dst v,h:=g}:=by
 unfold js;rw[aE];rcases aY with h|⟨h,rfl⟩ |⟨f,args,h,aA⟩
 ·exact⟨0,λk _=>by simp only[h];exact mN ao _ _⟩
 ·exact⟨0,λk _=>by simp only[h];exact mN ao _ _⟩
 ·obtain⟨m,hm⟩:=tm.1 aA;refine⟨m,λk aj=> ?_⟩;simp only[h,(tv E p aj).call _ _ _ _ hm];exact mN ao _ _
end
def lU(ops:Array Oper)(r:bl)(g:Option (Nat×Bool)) :Bool:=
 match g with
 |none=>true
 |some (j,want)=>match ops[j]? with
  |some g=>match g.dst with
   |some d=>match r.get d with
    | .bool b=>b==want
    |_=>false
   |none=>false
  |none=>false
theorem GD(ops:Array Oper)(r:bl)(o:Oper) :gB ops r o=lU ops r o.guard:=rfl
def rn(ops:Array Oper)(gd:Option (Nat×Bool))(ds:List Tmp) :Prop:=
 ∀j w g d,gd=some (j,w)->ops[j]? =some g->g.dst=some d->d∉ds
theorem GF{ops:Array Oper}{gd:Option (Nat×Bool)}{r b9:bl}{ds:List Tmp}(au:rn ops gd ds)(he:∀t,t∉ds->bl.get b9 t=bl.get r t) :lU ops b9 gd=lU ops r gd:=by
 unfold lU;cases gd with
 |none=>rfl
 |some q=>
  obtain⟨j,w⟩:=q;dsimp only;cases az:ops[j]? with
  |none=>rfl
  |some g=>
   dsimp only;cases ao:g.dst with
   |none=>rfl
   |some d=>dsimp only;rw[he d (au j w g d rfl az ao)]
theorem yf{r:bl}{o:Oper}{v:J}{t:Tmp}(h:t∉fl [o]) :bl.get (fc r o.dst v) t=bl.get r t:=by
 rw[oj];cases ao:o.dst with
 |none=>simp
 |some d=>
  simp only[fl,ao,List.mem_singleton]at h;rw[if_neg λe=>h (Option.some.inj e).symm]
theorem rH(o:Oper)(l:List Oper) :fl (o::l)=fl [o]++fl l:=by simp only[fl];cases o.dst<;>rfl
theorem F4{n:Nat}{o:Oper}(h:uU n o=true) :∀t,o.dst=some t->t<n:=by intro t e;unfold uU at h;rw[e]at h;exact c4.1 h
theorem MD{E:Env}{F:ff}{ops:Array Oper} :∀(e_ gF:List Oper) (s:cl),ll E F ops (e_++gF) s=match ll E F ops e_ s with
  |some aS=>ll E F ops gF aS
  |none=>none
 |[],gF,s=>rfl
 |o::e_,gF,s=>by
  simp only[List.cons_append,ll];cases js E F ops o s with
  |none=>rfl
  |some s1=>exact MD e_ gF s1
theorem XZ{a b:Option (Nat×Bool)}(h:eqGuard a b=true) :a=b:=by
 unfold eqGuard at h;split at h
 ·rfl
 ·simp only[Bool.and_eq_true]at h;obtain⟨h1,aa⟩:=h;rw[beq_true.1 h1];split at aa<;>first|rfl|cases aa
 ·cases h
theorem GC:∀l:List Oper,(u5 l).flatMap (·.2)=l/\∀g,g∈u5 l->∀o,o∈g.2->o.guard=g.1
 |[]=>⟨rfl,λg h=>by cases h⟩
 |o::rest=>by
  obtain⟨h1,aa⟩:=GC rest;unfold u5;split
  ·rename_i g l gs aE;rw[aE]at h1 aa;cases he:eqGuard o.guard g with
   |true=>
    dsimp only[cond];refine⟨by simpa using h1,λq ay x ab=> ?_⟩;rcases List.mem_cons.1 ay with rfl|ay
    ·rcases List.mem_cons.1 ab with rfl|ab
     ·exact XZ he
     ·exact aa (g,l) List.mem_cons_self x ab
    ·exact aa q (List.mem_cons_of_mem _ ay) x ab
   |false=>
    dsimp only[cond];refine⟨by simpa using h1,λq ay x ab=> ?_⟩;rcases List.mem_cons.1 ay with rfl|ay
    ·rcases List.mem_cons.1 ab with rfl|ab
     ·rfl
     ·cases ab
    ·exact aa q ay x ab
  ·rename_i aE;rw[aE]at h1;refine⟨by simpa using h1,λq ay x ab=> ?_⟩;rcases List.mem_cons.1 ay with rfl|ay
   ·rcases List.mem_cons.1 ab with rfl|ab
    ·rfl
    ·cases ab
   ·cases ay
theorem RY:∀{a b:List Tmp},AS a b=true->∀t,t∈a->t∈b
 |[],b,h,t,aN=>by cases aN
 |u::a,b,h,t,aN=>by
  simp only[AS,Bool.and_eq_true]at h;rcases List.mem_cons.1 aN with rfl|aN
  ·exact xS.1 h.1
  ·exact RY h.2 t aN
section
variable{E:Env}{p:cw}{n:Nat}
structure k7(E:Env)(p:cw)(ops:Array Oper)(l:List Oper)(s aS:cl) :Prop where
 runs:∃m,∀k,m<=k->ll E (fns E p k) ops l s=some aS
 n:aS.n=s.n
 ds:aS.ds=s.ds
 other:∀t,t∉fl l->bl.get aS.r t=bl.get s.r t
theorem k7.nil(ops:Array Oper)(s:cl) :k7 E p ops [] s s:=⟨⟨0,λ_ _=>rfl⟩,rfl,rfl,λ_ _=>rfl⟩
theorem k7.append{ops:Array Oper}{e_ gF:List Oper}{s s1 s2:cl}(a:k7 E p ops e_ s s1)(b:k7 E p ops gF s1 s2)(ao:fl (e_++gF)=fl e_++fl gF) :k7 E p ops (e_++gF) s s2 where
 runs:=by obtain⟨cA,h1⟩:=a.runs;obtain⟨cM,aa⟩:=b.runs;refine⟨max cA cM,λk aj=> ?_⟩;rw[MD,h1 k (by omega)];exact aa k (by omega)
 n:=b.n.trans a.n
 ds:=b.ds.trans a.ds
 other:=λt aN=>by rw[ao]at aN;rw[b.other t λh=>aN (List.mem_append_right _ h),a.other t λh=>aN (List.mem_append_left _ h)]
theorem w3:∀(e_ gF:List Oper),fl (e_++gF)=fl e_++fl gF
 |[],gF=>rfl
 |o::e_,gF=>by rw[List.cons_append,rH,w3 e_ gF,rH o e_,List.append_assoc]
theorem IY{ops:Array Oper}{gd:Option (Nat×Bool)}{K:bl->ag->Option br}{res:br} :∀{l:List Oper} {ρ:bl} {s:cl},x1 E E (call E p) n l K ρ s.h=some res->
  (∀o,o∈l->o.guard=gd)->rn ops gd (fl l)->lU ops s.r gd=true->eE ρ s.r->s.n=n->
  ∃aS a8,k7 E p ops l s aS/\eE a8 aS.r/\K a8 aS.h=some res
 |[],ρ,s,h,_,_,_,aj,_=>⟨s,ρ,k7.nil ops s,aj,h⟩
 |o::l,ρ,s,h,aE,dy,ae,aj,al=>by
  unfold x1 at h;cases qx:uU n o with
  |false=>rw[qx]at h;cases h
  |true=>
   rw[qx]at h;dsimp only[cond]at h;obtain⟨v,g,aY,fN⟩:=IW aj h;have ao:=F4 qx;have hT:o.guard=gd:=aE o List.mem_cons_self;obtain⟨m,hm⟩:=aY.step (ops:=ops) (o:=o) (s:=s) (by rw[GD,hT];exact ae) (λt e=>by rw[al];exact ao t e);have d1:k7 E p ops [o] s {s with r:=fc s.r o.dst v,h:=g}:=⟨⟨m,λk aj=>by simp only[ll,hm k aj]⟩,rfl,rfl,λt aN=>yf aN⟩;have zT:rn ops gd (fl [o]):=λj w q d aw aL bo hm=>dy j w q d aw aL bo (by rw[rH];exact List.mem_append_left _ hm)
   obtain⟨aS,a8,d2,ks,gZ⟩:=IY (l:=l) (s:={s with r:=fc s.r o.dst v,h:=g}) fN (λx ab=>aE x (List.mem_cons_of_mem _ ab))
    (λj w q d aw aL bo hm=>dy j w q d aw aL bo (by rw[rH];exact List.mem_append_right _ hm)) (by rw[GF zT (λt aN=>yf aN)];exact ae) (aj.fc o.dst v) al
   exact⟨aS,a8,d1.append d2 (w3 _ _),ks,gZ⟩
theorem Qk{ops:Array Oper}{gd:Option (Nat×Bool)} :∀{l:List Oper} {s:cl},B5 n l=true->(∀o,o∈l->o.guard=gd)->rn ops gd (fl l)->lU ops s.r gd=false->s.n=n->
  ∃aS,k7 E p ops l s aS/\aS.h=s.h/\∀t,t∈fl l->bl.get aS.r t=.undef
 |[],s,_,_,_,_,_=>⟨s,k7.nil ops s,rfl,λt h=>by cases h⟩
 |o::l,s,pM,aE,dy,ae,al=>by
  simp only[B5,Bool.and_eq_true]at pM;have ao:=F4 pM.1;have hT:o.guard=gd:=aE o List.mem_cons_self;have aad:gB ops s.r o=false:=by rw[GD,hT];exact ae
  have d1:k7 E p ops [o] s {s with r:=fc s.r o.dst .undef}:=⟨⟨0,λk aj=>by
   simp only[ll,js,aad]
   rw[mN (λt e=>by rw[al];exact ao t e)]⟩,rfl,rfl,λt aN=>yf aN⟩
  have zT:rn ops gd (fl [o]):=λj w q d aw aL bo hm=>dy j w q d aw aL bo (by rw[rH];exact List.mem_append_left _ hm)
  obtain⟨aS,d2,aL,aa⟩:=Qk (l:=l) (s:={s with r:=fc s.r o.dst .undef}) pM.2 (λx ab=>aE x (List.mem_cons_of_mem _ ab))
   (λj w q d aw aL bo hm=>dy j w q d aw aL bo (by rw[rH];exact List.mem_append_right _ hm)) (by rw[GF zT (λt aN=>yf aN)];exact ae) al
  refine⟨aS,d1.append d2 (w3 _ _),aL,λt aN=> ?_⟩;by_cases ar:t∈fl l
  ·exact aa t ar
  ·rw[d2.other t ar];rw[rH]at aN;rcases List.mem_append.1 aN with aN|aN
   ·rw[oj];cases Cu:o.dst with
    |none=>simp[fl,Cu]at aN
    |some d=>simp[fl,Cu]at aN;subst aN;simp
   ·contradiction
theorem UE:∀{ts:List Tmp} {r:bl},(∀t,t∈ts->bl.get r t=.undef)->ES ts=ts.map (bl.get r)
 |[],r,h=>rfl
 |t::ts,r,h=>by rw[List.map_cons,h t List.mem_cons_self,<-UE λu hu=>h u (List.mem_cons_of_mem _ hu)];rfl
theorem Dp{ρ r b9:bl}{ts:List Tmp}(aj:eE ρ r)(he:∀t,t∉ts->bl.get b9 t=bl.get r t) :eE (kill ρ ts) b9:=λt v h=>by obtain⟨h1,aa⟩:=ON ts ρ t v h;rw[he t h1];exact aj t v aa
theorem I8{outs:List Tmp}{x:cW}{ρ:bl}{h:ag}{res:br}(aY:nj outs x ρ h=some res) :∃vs,getAll ρ outs=some vs/\res=(x,vs,h):=by
 unfold nj at aY;split at aY
 ·rename_i vs ae;exact⟨vs,ae,(Option.some.inj aY).symm⟩
 ·cases aY
theorem Jm{ops:Array Oper}{K:bl->ag->Option br}{res:br} :∀{gs:List wK} {os:List (List Tmp)} {ρ:bl} {s:cl},vV E E (call E p) n ops gs os K ρ s.h=some res->
  (∀g,g∈gs->∀o,o∈g.2->o.guard=g.1)->eE ρ s.r->s.n=n->
  ∃aS a8,k7 E p ops (gs.flatMap (·.2)) s aS/\eE a8 aS.r/\K a8 aS.h=some res
 |[],os,ρ,s,h,_,aj,_=>by unfold vV at h;exact⟨s,ρ,k7.nil ops s,aj,h⟩
 |(none,l)::gs,os,ρ,s,h,aE,aj,al=>by unfold vV at h;obtain⟨s1,c3,d1,h8,ft⟩:=IY (gd:=none) h (aE (none,l) List.mem_cons_self) (λj w q d e=>by cases e) rfl aj al;obtain⟨aS,a8,d2,ks,gZ⟩:=Jm (gs:=gs) ft (λg ve=>aE g (List.mem_cons_of_mem _ ve)) h8 (d1.n.trans al);exact⟨aS,a8,d1.append d2 (w3 _ _),ks,gZ⟩
 |(some (j,w),l)::gs,os,ρ,s,h,aE,aj,al=>by
  unfold vV at h;split at h
  ·rename_i outs os g az;split at h
   ·rename_i d ao;replace h:=c' h;obtain⟨af,h⟩:=h;simp only[Bool.and_eq_true,Bool.not_eq_true']at af;obtain⟨⟨Hu,cL⟩,ZS⟩:=af;have Hu:=RY Hu;have cL:d∉fl l:=λhm=>by rw[xS.2 hm]at cL;cases cL
    split at h
    ·rename_i v ae;have tN:bl.get s.r d=v:=aj d v ae;obtain⟨x,vs,g1,h1,aa⟩:=Fv h
     have dy:rn ops (some (j,w)) (fl l):=λDd aM q eC aw aL bo hm=>by cases aw;rw[az]at aL;cases aL;rw[ao]at bo;cases bo;exact cL hm
     have GG:lU ops s.r (some (j,w))=HM v w:=by simp only[lU,az,ao,tN];cases v<;>rfl
     have key:∃s1,k7 E p ops l s s1/\s1.h=g1/\vs=outs.map (bl.get s1.r):=by
      have yes:(lU ops s.r (some (j,w))=true)->x1 E E (call E p) n l (nj outs .normal) ρ s.h=some (x,vs,g1)->∃s1,k7 E p ops l s s1/\s1.h=g1/\vs=outs.map (bl.get s1.r):=by intro ae ah;obtain⟨s1,c3,d1,h8,ft⟩:=IY (gd:=some (j,w)) ah (aE (some (j,w),l) List.mem_cons_self) dy ae aj al;obtain⟨c9,aw,aL⟩:=I8 ft;cases aL;exact⟨s1,d1,rfl,xb h8 aw⟩
      have no:(lU ops s.r (some (j,w))=false)->(some ((.normal,ES outs,s.h) :br))=some (x,vs,g1)->∃s1,k7 E p ops l s s1/\s1.h=g1/\vs=outs.map (bl.get s1.r):=by intro ae ah;cases ah;obtain⟨s1,d1,aw,aL⟩:=Qk (E:=E) (p:=p) (gd:=some (j,w)) ZS (aE (some (j,w),l) List.mem_cons_self) dy ae al;exact⟨s1,d1,aw,UE λt aN=>aL t (Hu t aN)⟩
      rw[Qg,<-GG]at h1;cases r2:lU ops s.r (some (j,w))with
      |true=>rw[r2,if_pos rfl]at h1;exact yes r2 h1
      |false=>rw[r2,if_neg (by simp)]at h1;exact no r2 h1
     obtain⟨s1,d1,aw,aL⟩:=key;subst aw;obtain⟨c3,h8,ft⟩:=AL aa aL (Dp aj d1.other);obtain⟨aS,a8,d2,ks,gZ⟩:=Jm (gs:=gs) ft (λg ve=>aE g (List.mem_cons_of_mem _ ve)) h8 (d1.n.trans al);exact⟨aS,a8,d1.append d2 (w3 _ _),ks,gZ⟩
    ·cases h
   ·cases h
  ·cases h
end
theorem X0(a:Int) :h5 a a=true:=by cases a<;>exact beq_true.2 rfl
theorem lR(k:IntKind) :ko k k=true:=by cases k<;>rfl
theorem qO(a:Nat) :Nat.beq a a=true:=beq_true.2 rfl
mutual
theorem J.beq_refl:∀v:J,J.beq v v=true
 | .undef| .nilPtr| .bh| .gf| .nilFunc| .nilIface=>by simp only[J.beq]
 | .bool b=>by simp[J.beq]
 | .int k n=>by simp[J.beq,lR,X0]
 | .sym k e=>by simp[J.beq,lR,qO]
 | .str l n=>by simp[J.beq,qO]
 | .ptr a b=>by simp[J.beq,qO]
 | .slice a b c d e f=>by simp[J.beq,qO]
 | .map a=>by simp[J.beq,qO]
 | .func f a b=>by simp[J.beq,qO,J.yN a,J.yN b]
 | .yield a=>by simp[J.beq,qO]
 | .iface t v=>by simp[J.beq,qO,J.beq_refl v]
 | .agg l=>by simp[J.beq,J.yN l]
 | .tuple l=>by simp[J.beq,J.yN l]
theorem J.yN:∀l:List J,J.oD l l=true
 |[]=>by simp[J.oD]
 |v::l=>by simp[J.oD,J.beq_refl v,J.yN l]
end
section
variable{E:Env}{p:cw}{n:Nat}
theorem XY{t:TypeId}(au:xK E t=true)(h g:ag)(d:Nat)(x y:J) :fm E h (d+1) t x y=fm E g (d+1) t x y:=by
 unfold xK at au;unfold fm;cases aN:E.ty t with
 |none=>rfl
 |some i=>
  rw[aN]at au;dsimp only at au|-;cases ao:i.desc<;>rw[ao]at au<;>first|(cases au;done) |(cases x<;>cases y<;>rfl)
theorem VV{t:TypeId}(au:xK E t=true)(h g:ag)(op:BinOp)(x y:J) :cV E h op t x y=cV E g op t x y:=by
 have e:∀a b,fm E h 9 t a b=fm E g 9 t a b:=λa b=>XY au h g 8 a b
 unfold cV;simp only[e]
theorem W_{s d:TypeId}(au:(z_ E d||Ab E s)=true)(h g:ag)(x:J) :fS E h s d x=fS E g s d x:=by
 unfold fS;unfold z_ Ab at au;cases h1:E.ty s with
 |none=>rfl
 |some i=>
  cases aa:E.ty d with
  |none=>rfl
  |some j=>
   rw[h1,aa]at au;cases x<;>try rfl
   dsimp only at au|-;simp only[Bool.or_eq_true]at au;rcases au with au|au
   ·cases ao:j.desc<;>rw[ao]at au<;>first|(cases au;done) |(cases i.desc<;>rfl)
   ·cases ao:i.desc<;>rw[ao]at au<;>first|(cases au;done) |(cases j.desc<;>rfl)
theorem ait{t:TypeId}(au:z7 E t=false)(h g:ag)(x:J)(lo U e':Option Int) :jP E h t x lo U e'=jP E g t x lo U e':=by
 unfold jP;unfold z7 at au;cases h1:E.ty t with
 |none=>rfl
 |some i=>
  rw[h1]at au;dsimp only at au|-;cases ao:i.desc<;>rw[ao]at au<;>first|(cases au;done) |(cases x<;>rfl)
theorem acW{t:TypeId}(au:z' E t=false)(h g:ag)(x:J) :eW E h t x=eW E g t x:=by
 unfold eW;unfold z' at au;cases h1:E.ty t with
 |none=>rfl
 |some i=>
  rw[h1]at au;dsimp only at au|-;cases ao:i.desc<;>rw[ao]at au<;>first|(cases au;done) |(cases x<;>rfl)
theorem ahH{ρ r:bl}(aj:eE ρ r){op:Op}(ah:x_ E E ρ op=none)(h g:ag) :ep E r h op=ep E r g op:=by
 cases op<;>simp only[x_]at ah<;>try (first|(cases ah;done) |rfl)
 case load t a=>split at ah<;>cases ah
 case binOp op t x y u=>
  simp only[ep];cases au:xK E t with
  |true=>
   split
   ·exact VV au h g _ _ _
   ·rfl
  |false=>rw[au]at ah;dsimp only[cond]at ah;split at ah<;>cases ah
 case convert s d x=>
  simp only[ep];cases au:(z_ E d||Ab E s)with
  |true=>
   split
   ·exact W_ au h g _
   ·rfl
  |false=>rw[au]at ah;dsimp only[cond]at ah;split at ah<;>cases ah
 case slice t x lo U e'=>
  simp only[ep];cases au:z7 E t with
  |false=>
   split
   ·exact ait au h g _ _ _ _
   ·rfl
  |true=>rw[au]at ah;dsimp only[cond]at ah;split at ah<;>cases ah
 case lookup t x i ok=>split at ah<;>cases ah
 case call c=>
  obtain⟨callee,args,ts⟩:=c;simp only[ep];dsimp only at ah;split at ah
  ·rename_i v aU;split at ah
   ·rename_i t aN;cases au:z' E t with
    |true=>rw[au]at ah;cases ah
    |false=>
     rw[wS aj aU];dsimp only;rw[aN];exact acW au h g _
   ·cases ah
  ·rcases kp E r args.toList with _|⟨_|⟨_,_|⟨_,_⟩⟩⟩<;>rfl
  ·rcases kp E r args.toList with _|⟨_|⟨_,_|⟨_,_⟩⟩⟩<;>rfl
  ·rcases kp E r args.toList with _|⟨_|⟨_,_|⟨_,_⟩⟩⟩<;>rfl
  ·cases ah
 all_goals cases ah
theorem ahI{ρ r:bl}(aj:eE ρ r){op:Op}{f:ag->Option J}(ah:x_ E E ρ op=some f){g:ag}{w:J}(aB:f g=some w) :ep E r g op=some w:=by
 cases op<;>simp only[x_]at ah<;>try (first|(cases ah;cases aB;done) |(cases ah;done))
 case load t a=>
  split at ah
  ·rename_i aU;cases ah;simp only[ep,eg aj aU];unfold dJ at aB;split at aB
   ·exact aB
   ·cases aB
  ·cases ah;cases aB
 case binOp op t x y u=>
  simp only[ep];cases au:xK E t with
  |true=>rw[au]at ah;cases ah
  |false=>
   rw[au]at ah;dsimp only[cond]at ah;split at ah
   ·rename_i aU af;cases ah;rw[eg aj aU,eg aj af];exact aB
   ·cases ah;cases aB
 case convert s d x=>
  simp only[ep];cases au:(z_ E d||Ab E s)with
  |true=>rw[au]at ah;cases ah
  |false=>
   rw[au]at ah;dsimp only[cond]at ah;split at ah
   ·rename_i aU;cases ah;rw[eg aj aU];exact aB
   ·cases ah;cases aB
 case slice t x lo U e'=>
  simp only[ep];cases au:z7 E t with
  |false=>rw[au]at ah;cases ah
  |true=>
   rw[au]at ah;dsimp only[cond]at ah;split at ah
   ·rename_i aU af aA ao;cases ah;rw[eg aj aU,x2 aj af,x2 aj aA,x2 aj ao];unfold ik at aB;split at aB
    ·rename_i aw aL bo;rw[aw,aL,bo];exact aB
    ·cases aB
   ·cases ah;cases aB
 case lookup t x i ok=>
  split at ah
  ·rename_i aU af;cases ah;simp only[ep,eg aj aU,eg aj af];exact aB
  ·cases ah;cases aB
 case call c=>
  obtain⟨callee,args,ts⟩:=c;dsimp only at ah;split at ah
  ·rename_i v aU;split at ah
   ·rename_i t aN;cases au:z' E t with
    |false=>rw[au]at ah;cases ah
    |true=>
     rw[au]at ah;cases ah;simp only[ep,wS aj aU,aN];exact aB
   ·cases ah;cases aB
  ·cases ah
  ·cases ah
  ·cases ah
  ·cases ah;cases aB
def strip(l:List (Nat×Nat×ag)) :List (Nat×ag):=l.map λq=>(q.1,q.2.2)
inductive te(E:Env)(mem:Nat->ag)(ver:Nat) :List rm->List Seen->Prop where
 |nil:te E mem ver [] []
 |cons {sd:rm} {se:Seen} {l bz} (U:se.i=sd.i) (ae:se.v=sd.v) (aY:se.o.op=sd.op) (aj:eE sd.ρ se.r) (Hx:sd.ver<=ver) (ar:ep E se.r (mem sd.ver) sd.op=some sd.v) (t:te E mem ver l bz) :
  te E mem ver (sd::l) (se::bz)
structure Sync(E:Env)(mem:Nat->ag)(ver:Nat)(h:ag)(gs:List (Nat×Nat×ag))(ls:List rm)(fq:List (Nat×ag))(eO:List Seen) :Prop where
 now:mem ver=h
 jz:fq=strip gs
 old:∀q,q∈gs->q.2.1<=ver/\q.2.2=mem q.2.1
 looks:te E mem ver ls eO
theorem te.next{mem:Nat->ag}{ver:Nat}{g:ag}{l bz}(h:te E mem ver l bz) :te E (λq=>if q=ver+1 then g else mem q) (ver+1) l bz:=by
 induction h with
 |nil=>exact .nil
 |cons U ae aY aj Hx ar t bI=>exact .cons U ae aY aj (by omega) (by rw[if_neg (by omega)];exact ar) bI
theorem Sync.next{mem:Nat->ag}{ver:Nat}{h g:ag}{gs ls fq eO}(s:Sync E mem ver h gs ls fq eO) :Sync E (λq=>if q=ver+1 then g else mem q) (ver+1) g gs ls fq eO where
 now:=if_pos rfl
 jz:=s.jz
 old:=λq ay=>by obtain⟨h1,aa⟩:=s.old q ay;exact⟨by omega,by rw[if_neg (by omega)];exact aa⟩
 looks:=s.looks.next
theorem Sync.act{mem:Nat->ag}{ver:Nat}{h:ag}{gs ls fq eO}(s:Sync E mem ver h gs ls fq eO)(i:Nat) :Sync E mem ver h ((i,ver,h)::gs) ls ((i,h)::fq) eO where
 now:=s.now
 jz:=by rw[s.jz];rfl
 old:=λq ay=>by
  rcases List.mem_cons.1 ay with rfl|ay
  ·exact⟨Nat.le_refl _,s.now.symm⟩
  ·exact s.old q ay
 looks:=s.looks
theorem afq{ρ r:bl}(aj:eE ρ r){id:Nat}{h:ag}{op:Op}{K:J->ag->Option br}{res:br}(hm:kindOf E op=.make)(ao:IC E E ρ id h op K=some res) :
  ∃f bP,jq E r op=some (f,bP)/\K (f id) (h.put id bP)=some res:=by
 have fin:∀{o:Option ((Nat->J) ×bp)},jf o id h K=some res->∃f bP,o=some (f,bP)/\K (f id) (h.put id bP)=some res:=by
  intro o af;unfold jf at af;split at af
  ·exact⟨_,_,rfl,af⟩
  ·cases af
 cases op<;>simp only[IC]at ao<;>try (cases ao;done)
 case alloc t=>exact fin ao
 case box t x=>
  obtain⟨v,h1,aa⟩:=l9 ao;obtain⟨f,bP,av,aO⟩:=fin aa;refine⟨f,bP,?_,aO⟩;unfold h3 at av;simp only[jq,eg aj h1];split at av
  ·rename_i i U;rw[U];exact av
  ·cases av
 case buildSlice t len ps=>
  split at ao
  ·rename_i l aD;obtain⟨f,bP,h1,aa⟩:=fin ao;refine⟨f,bP,?_,aa⟩;simp only[jq,DP aj aD];unfold gY at h1;cases aN:E.ty t with
   |none=>rw[aN]at h1;cases h1
   |some i=>rw[aN]at h1;exact h1
  ·cases ao
 case makeMap t rv=>
  cases rv with
  |none=>
   obtain⟨f,bP,h1,aa⟩:=fin ao;cases h1;exact⟨_,_,rfl,aa⟩
  |some x=>cases ao
 case makeSlice t l c=>
  obtain⟨a,b,h1,aa,av⟩:=uF ao;obtain⟨f,bP,aO,bb⟩:=fin av;refine⟨f,bP,?_,bb⟩;simp only[jq,eg aj h1,eg aj aa];exact aO
 case convert s d x=>
  obtain⟨v,h1,aa⟩:=l9 ao;split at aa
  ·rename_i i U;obtain⟨f,bP,av,aO⟩:=fin aa;refine⟨f,bP,?_,aO⟩;simp only[jq,eg aj h1,U];unfold lf at av;split at av
   ·rename_i he;rw[he];exact av
   ·cases av
  ·cases aa
structure rq(E:Env)(p:cw)(ops:Array Oper)(base:Nat)(l:List Oper)(i:Nat)(s:cl)(gs:List (Nat×ag))(ls:List Seen)(aS:cl)(fq:List (Nat×ag))(eO:List Seen) :Prop where
 runs:∃m,∀k,m<=k->∀rest,iP E (fns E p k) ops base (l++rest) i s gs ls=iP E (fns E p k) ops base rest (i+l.length) aS fq eO
 n:aS.n=s.n
 ds:aS.ds=s.ds
 other:∀t,t∉fl l->bl.get aS.r t=bl.get s.r t
theorem rq.append{ops:Array Oper}{base:Nat}{e_ gF:List Oper}{i:Nat}{s s1 s2:cl}{gs nO qp:List (Nat×ag)}{ls nh qM:List Seen}(a:rq E p ops base e_ i s gs ls s1 nO nh)(b:rq E p ops base gF (i+e_.length) s1 nO nh s2 qp qM) :
  rq E p ops base (e_++gF) i s gs ls s2 qp qM where
 runs:=by obtain⟨cA,h1⟩:=a.runs;obtain⟨cM,aa⟩:=b.runs;refine⟨max cA cM,λk aj rest=> ?_⟩;rw[List.append_assoc,h1 k (by omega),aa k (by omega),List.length_append,Nat.add_assoc]
 n:=b.n.trans a.n
 ds:=b.ds.trans a.ds
 other:=λt aN=>by rw[w3]at aN;rw[b.other t λh=>aN (List.mem_append_right _ h),a.other t λh=>aN (List.mem_append_left _ h)]
theorem Ki{ops:Array Oper}{base:Nat}{gd:Option (Nat×Bool)}{run:Bool}{K:Bx}{res:br} :∀{l:List Oper} {i ver:Nat} {ρ:bl} {s:cl} {gs:List (Nat×Nat×ag)} {ls:List rm} {mem:Nat->ag} {fq:List (Nat×ag)} {eO:List Seen},
  pd E E (call E p) n base run l K i ver ρ s.h gs ls=some res->(∀o,o∈l->o.guard=gd)->rn ops gd (fl l)->lU ops s.r gd=run->eE ρ s.r->s.n=n->Sync E mem ver s.h gs ls fq eO->
  ∃aS wA a8 qp qM b7 ln lA,rq E p ops base l i s fq eO aS ln lA/\eE a8 aS.r/\Sync E b7 wA aS.h qp qM ln lA/\K (i+l.length) wA a8 aS.h qp qM=some res
 |[],i,ver,ρ,s,gs,ls,mem,fq,eO,h,_,_,_,aj,_,g'=>⟨s,ver,ρ,gs,ls,mem,fq,eO,⟨⟨0,λ_ _ _=>rfl⟩,rfl,rfl,λ_ _=>rfl⟩,aj,g',h⟩
 |o::l,i,ver,ρ,s,gs,ls,mem,fq,eO,h,aE,dy,ae,aj,al,g'=>by
  unfold pd at h;cases qx:uU n o with
  |false=>rw[qx]at h;cases h
  |true=>
   rw[qx]at h;dsimp only[cond]at h;have ao:∀t,o.dst=some t->t<s.n:=λt e=>by rw[al];exact F4 qx t e
   have hT:gB ops s.r o=run:=by rw[GD,aE o List.mem_cons_self];exact ae
   have zT:rn ops gd (fl [o]):=λj w q d aw aL bo hm=>dy j w q d aw aL bo (by rw[rH];exact List.mem_append_left _ hm)
   have next:∀(v:J) (g:ag) (Bh:Nat) (nO:List (Nat×Nat×ag)) (nh:List rm) (Dv:Nat->ag) (xe:List (Nat×ag)) (xP:List Seen),
     pd E E (call E p) n base run l K (i+1) Bh (fc ρ o.dst v) g nO nh=some res->Sync E Dv Bh g nO nh xe xP->
     (∃m,∀k,m<=k->∀rest,iP E (fns E p k) ops base (o::rest) i s fq eO=iP E (fns E p k) ops base rest (i+1) {s with r:=fc s.r o.dst v,h:=g} xe xP)->
     ∃aS wA a8 qp qM b7 ln lA,rq E p ops base (o::l) i s fq eO aS ln lA/\eE a8 aS.r/\Sync E b7 wA aS.h qp qM ln lA/\K (i+(o::l).length) wA a8 aS.h qp qM=some res:=by
    intro v g Bh nO nh Dv xe xP fN AV vn
    obtain⟨aS,wA,a8,qp,qM,b7,ln,lA,t2,ks,aiZ,gZ⟩:=Ki (l:=l) (s:={s with r:=fc s.r o.dst v,h:=g}) fN (λx ab=>aE x (List.mem_cons_of_mem _ ab))
     (λj w q d aw aL bo hm=>dy j w q d aw aL bo (by rw[rH];exact List.mem_append_right _ hm)) (by rw[GF zT (λt aN=>yf aN)];exact ae) (aj.fc o.dst v) al AV
    have t1:rq E p ops base [o] i s fq eO {s with r:=fc s.r o.dst v,h:=g} xe xP:=⟨vn,rfl,rfl,λt aN=>yf aN⟩;refine⟨aS,wA,a8,qp,qM,b7,ln,lA,t1.append t2,ks,aiZ,?_⟩;rw[List.length_cons,show i+(l.length+1)=i+1+l.length by omega];exact gZ
   cases hj:kindOf E o.op with
   |act=>
    cases run with
    |true=>
     rw[hj]at h;dsimp only at h;obtain⟨v,g,aY,fN⟩:=IW aj h;obtain⟨m,hm⟩:=aY.step (ops:=ops) (o:=o) (s:=s) hT ao;refine next v g (ver+1) _ _ _ _ _ fN (g'.act i).next ⟨m,λk iR rest=> ?_⟩
     conv=>lhs;unfold iP
     rw[hj];dsimp only;rw[hm k iR]
    |false=>
     rw[hj]at h;dsimp only at h;refine next .undef s.h ver _ _ _ _ _ h (g'.act i) ⟨0,λk iR rest=> ?_⟩
     conv=>lhs;unfold iP
     rw[hj];dsimp only;unfold js;rw[hT];dsimp only;rw[mN ao]
   |make=>
    cases run with
    |true=>
     rw[hj]at h;dsimp only[l']at h;obtain⟨f,bP,h1,aa⟩:=afq aj hj h;refine next _ _ (ver+1) _ _ _ _ _ aa g'.next ⟨0,λk iR rest=> ?_⟩
     conv=>lhs;unfold iP
     rw[hj,hT];dsimp only;rw[h1];dsimp only;rw[mN ao]
    |false=>
     rw[hj]at h;dsimp only at h;refine next .undef s.h ver _ _ _ _ _ h g' ⟨0,λk iR rest=> ?_⟩
     conv=>lhs;unfold iP
     rw[hj,hT];dsimp only;rw[mN ao]
   |look=>
    cases run with
    |true=>
     rw[hj]at h;dsimp only at h;obtain⟨v,g,aY,fN⟩:=IW aj h
     have NG:ep E s.r s.h o.op=some v:=by
      have e:ih E s.r s.h o.op=nC.IS (ep E s.r s.h o.op) s.h:=by unfold ih;rw[hj]
      rcases aY with aY|⟨aY,_⟩ |⟨_,_,aY,_⟩
      all_goals
       rw[e]at aY;cases ar:ep E s.r s.h o.op<;>rw[ar]at aY<;>cases aY
      rfl
     refine next v s.h ver gs _ mem fq _ fN ⟨g'.now,g'.jz,g'.old,.cons (se:={i,o,r:=s.r,v}) rfl rfl rfl aj (Nat.le_refl _) (by rw[g'.now];exact NG) g'.looks⟩ ⟨0,λk iR rest=> ?_⟩
     conv=>lhs;unfold iP
     rw[hj,hT];dsimp only;rw[NG];dsimp only;rw[mN ao]
    |false=>
     rw[hj]at h;dsimp only at h;refine next .undef s.h ver _ _ _ _ _ h g' ⟨0,λk iR rest=> ?_⟩
     conv=>lhs;unfold iP
     rw[hj,hT];dsimp only;rw[mN ao]
theorem LA{f:ag->Option J}{v:J}{k:Option br}{res:br} :∀{l:List ag},hZ l f v k=some res->(∀g,g∈l->∃w,f g=some w/\J.beq w v=true)/\k=some res
 |[],h=>⟨(λg aE=>by cases aE),h⟩
 |g::l,h=>by
  unfold hZ at h;split at h
  ·rename_i w hw;replace h:=c' h;obtain⟨h1,aa⟩:=LA h.2;refine⟨λq ay=> ?_,aa⟩;rcases List.mem_cons.1 ay with rfl|ay
   ·exact⟨w,hw,h.1⟩
   ·exact h1 q ay
  ·cases h
theorem H_{bs:List Nat}{i ver lastVer:Nat}{last:ag}{f:ag->Bool}(ar:lastVer=ver->f last=true) :∀{gs:List (Nat×Nat×ag)},(∀g,g∈uM bs i ver lastVer last gs->f g=true)->(∀q,q∈gs->q.2.1=ver->f q.2.2=true)->
  o0 bs i f last (strip gs)=true
 |[],aA,_=>by
  show f last=true;unfold uM at aA;cases af:Nat.beq ver lastVer with
  |true=>exact ar (beq_true.1 af).symm
  |false=>rw[af]at aA;exact aA last (by simp[cond])
 |(a,v,g)::rest,aA,au=>by
  have bI:=λqv=>H_ (bs:=bs) (i:=i) (ver:=ver) (lastVer:=lastVer) (last:=last) (f:=f) ar (gs:=rest) qv λq ay=>au q (List.mem_cons_of_mem _ ay)
  show o0 bs i f last ((a,g)::strip rest)=true;unfold o0;unfold uM at aA;cases h1:iO (bs.getD i 0) a with
  |true=>
   rw[h1]at aA;exact bI aA
  |false=>
   rw[h1]at aA;dsimp only[cond]at aA|-
   have aE:f g=true:=by
    by_cases e:v=ver
    ·exact au (a,v,g) List.mem_cons_self e
    ·have:Nat.beq ver v=false:=beq_false.2 λh=>e h.symm
     rw[this]at aA;cases aa:iO (bs.getD a 0) i with
     |true=>rw[aa]at aA;exact aA g (by simp[cond])
     |false=>rw[aa]at aA;exact aA g (by simp[cond])
   rw[aE];cases aa:iO (bs.getD a 0) i with
   |true=>rfl
   |false=>
    rw[aa]at aA;dsimp only[cond]at aA;simp only[Bool.true_and,Bool.false_or];refine bI λq ay=>aA q ?_
    cases Nat.beq ver v with
    |true=>exact ay
    |false=>exact List.mem_cons_of_mem _ ay
theorem FQ{bs:List Nat}{gs:List (Nat×Nat×ag)}{last:ag}{lastVer:Nat}{mem:Nat->ag}(Hj:mem lastVer=last)(hold:∀q,q∈gs->q.2.2=mem q.2.1){k:Option br}{res:br} :∀{ls:List rm} {eO:List Seen},te E mem lastVer ls eO->
  yV E E bs gs last lastVer ls k=some res->sm E bs (strip gs) last eO=true/\k=some res
 |_,_,.nil,h=>⟨rfl,h⟩
 |_,_,.cons (sd:=⟨i0,v0,qQ,r0,EY⟩) (se:=se) U ae aY aj Hx ar t,h=>by
  unfold yV at h;dsimp only at U ae aY aj Hx ar
  have same:∀q,q∈gs->q.2.1=v0->pQ E se q.2.2=true:=λq ay e=>by unfold pQ;rw[aY,hold q ay,e,ar];dsimp only;rw[ae];exact J.beq_refl _
  have OS:lastVer=v0->pQ E se last=true:=λe=>by unfold pQ;rw[aY,<-Hj,e,ar];dsimp only;rw[ae];exact J.beq_refl _
  cases ah:x_ E E r0 qQ with
  |none=>
   rw[ah]at h;dsimp only at h;obtain⟨h1,aa⟩:=FQ Hj hold t h;refine⟨?_,aa⟩;unfold sm;rw[Bool.and_eq_true];refine⟨?_,h1⟩
   have all:∀g,pQ E se g=true:=λg=>by unfold pQ;rw[aY,ahH aj ah g (mem v0),ar];dsimp only;rw[ae];exact J.beq_refl _
   rw[U];exact H_ OS (ver:=v0) (λg _=>all g) same
  |some f=>
   rw[ah]at h;dsimp only at h;obtain⟨h0,h⟩:=LA h;obtain⟨h1,aa⟩:=FQ Hj hold t h;refine⟨?_,aa⟩;unfold sm;rw[Bool.and_eq_true];refine⟨?_,h1⟩;rw[U];refine H_ OS (ver:=v0) (λg aE=> ?_) same;obtain⟨w,hw,af⟩:=h0 g aE;unfold pQ;rw[aY,ahI aj ah hw];dsimp only;rw[ae];exact af
theorem Kj{ops:Array Oper}{base:Nat}{bs:List Nat}{K:bl->ag->Option br}{res:br} :∀{gl:List wK} {i ver:Nat} {ρ:bl} {s:cl} {gs:List (Nat×Nat×ag)} {ls:List rm} {mem:Nat->ag} {fq:List (Nat×ag)} {eO:List Seen},
  sW E E (call E p) n base bs ops gl K i ver ρ s.h gs ls=some res->(∀g,g∈gl->∀o,o∈g.2->o.guard=g.1)->eE ρ s.r->s.n=n->Sync E mem ver s.h gs ls fq eO->
  ∃aS a8 ln lA,rq E p ops base (gl.flatMap (·.2)) i s fq eO aS ln lA/\eE a8 aS.r/\sm E bs ln.reverse aS.h lA=true/\K a8 aS.h=some res
 |[],i,ver,ρ,s,gs,ls,mem,fq,eO,h,_,aj,_,g'=>by
  unfold sW at h;obtain⟨h1,aa⟩:=FQ (gs:=gs.reverse) g'.now (λq ay=>(g'.old q (by simpa using ay)).2) g'.looks h;refine⟨s,ρ,fq,eO,⟨⟨0,λ_ _ _=>rfl⟩,rfl,rfl,λ_ _=>rfl⟩,aj,?_,aa⟩;rw[g'.jz];have:(strip gs).reverse=strip gs.reverse:=by unfold strip;rw[List.map_reverse]
  rw[this];exact h1
 |(none,l)::gl,i,ver,ρ,s,gs,ls,mem,fq,eO,h,aE,aj,al,g'=>by unfold sW at h;obtain⟨s1,Bh,c3,nO,nh,Dv,xe,xP,t1,h8,AV,ft⟩:=Ki (gd:=none) h (aE (none,l) List.mem_cons_self) (λj w q d e=>by cases e) rfl aj al g';obtain⟨aS,a8,ln,lA,t2,ks,oP,gZ⟩:=Kj (gl:=gl) ft (λg ve=>aE g (List.mem_cons_of_mem _ ve)) h8 (t1.n.trans al) AV;exact⟨aS,a8,ln,lA,t1.append t2,ks,oP,gZ⟩
 |(some (j,w),l)::gl,i,ver,ρ,s,gs,ls,mem,fq,eO,h,aE,aj,al,g'=>by
  unfold sW at h;split at h
  ·rename_i g az;split at h
   ·rename_i d ao;replace h:=BL h;obtain⟨af,h⟩:=h;have cL:d∉fl l:=λhm=>by rw[xS.2 hm]at af;cases af
    split at h
    ·rename_i v ae;have tN:bl.get s.r d=v:=aj d v ae
     have dy:rn ops (some (j,w)) (fl l):=λDd aM q eC aw aL bo hm=>by cases aw;rw[az]at aL;cases aL;rw[ao]at bo;cases bo;exact cL hm
     have GG:lU ops s.r (some (j,w))=HM v w:=by simp only[lU,az,ao,tN];cases v<;>rfl
     have fin:∀run,lU ops s.r (some (j,w))=run->pd E E (call E p) n base run l (sW E E (call E p) n base bs ops gl K) i ver ρ s.h gs ls=some res->
       ∃aS a8 ln lA,rq E p ops base (((some (j,w),l)::gl).flatMap (·.2)) i s fq eO aS ln lA/\eE a8 aS.r/\sm E bs ln.reverse aS.h lA=true/\K a8 aS.h=some res:=by
      intro run vn h;obtain⟨s1,Bh,c3,nO,nh,Dv,xe,xP,t1,h8,AV,ft⟩:=Ki (gd:=some (j,w)) h (aE (some (j,w),l) List.mem_cons_self) dy vn aj al g';obtain⟨aS,a8,ln,lA,t2,ks,oP,gZ⟩:=Kj (gl:=gl) ft (λg ve=>aE g (List.mem_cons_of_mem _ ve)) h8 (t1.n.trans al) AV;exact⟨aS,a8,ln,lA,t1.append t2,ks,oP,gZ⟩
     rw[Qg,<-GG]at h;cases r2:lU ops s.r (some (j,w))with
     |true=>rw[r2,if_pos rfl]at h;exact fin true r2 h
     |false=>rw[r2,if_neg (by simp)]at h;exact fin false r2 h
    ·cases h
   ·cases h
  ·cases h
theorem XC{ops:Array Oper}{K:bl->ag->Option br}{ρ:bl}{s:cl}{res:br}(h:F3 E E (call E p) n ops K ρ s.h=some res)(aj:eE ρ s.r)(al:s.n=n) :
  ∃aS a8 m,(∀k,m<=k->rJ E (fns E p k) ops s=some aS)/\aS.n=s.n/\aS.ds=s.ds/\(∀t,t∉fl ops.toList->bl.get aS.r t=bl.get s.r t)/\eE a8 aS.r/\K a8 aS.h=some res:=by
 unfold F3 mI mG at h;replace h:=c' h;obtain⟨dy,h⟩:=h;obtain⟨aw,aL⟩:=GC ops.toList;obtain⟨aS,a8,fq,eO,t,iR,ar,fN⟩:=Kj (s:={s with h:=s.h.aV ops.size}) (mem:=λ_=>s.h.aV ops.size) (fq:=[]) (eO:=[]) h aL aj al ⟨rfl,rfl,(λq ay=>by cases ay),.nil⟩;rw[aw]at t;obtain⟨m,hm⟩:=t.runs;refine⟨aS,a8,m,λk aj=> ?_,t.n,t.ds,t.other,iR,fN⟩;unfold rJ;dsimp only;rw[dy];dsimp only[cond];have:=hm k aj [];rw[List.append_nil]at this;rw[show({s with h:={s.h with next:=s.h.next+ops.size}} :cl)={s with h:=s.h.aV ops.size}from rfl,this];unfold iP;dsimp only;rw[ar]
end
section
variable{E:Env}{p:cw}{n:Nat}
structure rr(E:Env)(p:cw)(ro:Option Nat)(c:Code)(s:cl)(x:cW)(aS:cl) :Prop where
 goes:iM E p ro c s x aS
 n:aS.n=s.n
 ds:aS.ds=s.ds
 other:∀t,t∉ki c->bl.get aS.r t=bl.get s.r t
theorem Gh{k:Nat->Option br}{res:br} :∀{ids:List Nat} {i:Nat},y_ ids i k=some res->k i=some res
 |[],i,h=>by cases h
 |j::OE,i,h=>by
  unfold y_ at h;cases af:Nat.beq i j with
  |true=>rw[af]at h;rw[beq_true.1 af];exact h
  |false=>rw[af]at h;exact Gh h
theorem nN{ro:Option Nat}{c:Code}{s aS:cl}{x:cW}(h:∃k,fR E (fns E p k) ro c s=some (x,aS)) :iM E p ro c s x aS:=by obtain⟨k,aj⟩:=h;exact⟨k+1,aj⟩
theorem akV{ro:Option Nat}{a b:Code}{s s1 s2:cl}{x:cW}(h1:rr E p ro a s .normal s1)(aa:rr E p ro b s1 x s2) :rr E p ro (.seq a b) s x s2 where
 goes:=by obtain⟨cA,g1⟩:=h1.goes;obtain⟨cM,g2⟩:=aa.goes;refine nN ⟨max cA cM,?_⟩;unfold fR;dsimp only;rw[(tv E p (Nat.le_max_left cA cM)).code _ _ _ _ g1];exact(tv E p (Nat.le_max_right cA cM)).code _ _ _ _ g2
 n:=aa.n.trans h1.n
 ds:=aa.ds.trans h1.ds
 other:=λt aN=>by simp only[ki,List.mem_append,not_or]at aN;rw[aa.other t aN.2,h1.other t aN.1]
theorem UT{ro:Option Nat}{a b:Code}{s s1:cl}{x:cW}(h1:rr E p ro a s x s1)(ab:x≠.normal) :rr E p ro (.seq a b) s x s1 where
 goes:=by obtain⟨cA,g1⟩:=h1.goes;refine nN ⟨cA,?_⟩;unfold fR;dsimp only;rw[g1];cases x<;>first|rfl|contradiction
 n:=h1.n
 ds:=h1.ds
 other:=λt aN=>by simp only[ki,List.mem_append,not_or]at aN;exact h1.other t aN.1
theorem Ie{ro:Option Nat}{c:Code}{outs:List Tmp}{f:List J->ag->Option br}{r0:bl}{nn:Nat}{ds:List Nat}
  (aB:∀vs h x c9 bg s,f vs h=some (x,c9,bg)->s.n=nn->s.ds=ds->s.h=h->vs=outs.map (bl.get s.r)->(∀t,t∉ki c->bl.get s.r t=bl.get r0 t)->∃aS,rr E p ro c s x aS/\aS.h=bg/\c9=outs.map (bl.get aS.r)) :
  ∀(i:Nat) vs h x c9 bg s,fy i f vs h=some (x,c9,bg)->s.n=nn->s.ds=ds->s.h=h->vs=outs.map (bl.get s.r)->(∀t,t∉ki c->bl.get s.r t=bl.get r0 t)->
   ∃aS m,(∀k,m<=k->n' i ((fns E p k).code ro c) s=some (x,aS))/\aS.n=nn/\aS.ds=ds/\aS.h=bg/\c9=outs.map (bl.get aS.r)/\(∀t,t∉ki c->bl.get aS.r t=bl.get r0 t)
 |0,vs,h,x,c9,bg,s,ar,h1,aa,av,aO,bb=>by obtain⟨aS,w,aw,aL⟩:=aB vs h x c9 bg s ar h1 aa av aO bb;obtain⟨m,g⟩:=w.goes;exact⟨aS,m,λk aj=>(tv E p aj).code _ _ _ _ g,w.n.trans h1,w.ds.trans aa,aw,aL,λt aN=>(w.other t aN).trans (bb t aN)⟩
 |i+1,vs,h,x,c9,bg,s,ar,h1,aa,av,aO,bb=>by
  unfold fy at ar;cases ay:fy i f vs h with
  |none=>rw[ay]at ar;cases ar
  |some q=>
   obtain⟨y,ws,g⟩:=q;obtain⟨s1,cA,aQ,a2,a3,a4,a5,hY⟩:=Ie aB i vs h y ws g s ay h1 aa av aO bb;rw[ay]at ar;by_cases an:y=.normal
   ·subst an;dsimp only at ar;obtain⟨aS,cM,fj,eS,fY,iN,kM,VL⟩:=Ie aB i ws g x c9 bg s1 ar a2 a3 a4 a5 hY;refine⟨aS,max cA cM,λk aj=> ?_,eS,fY,iN,kM,VL⟩;unfold n';rw[aQ k (by omega)];exact fj k (by omega)
   ·have jl:(some ((y,ws,g) :br))=some (x,c9,bg):=by cases y<;>first|exact ar|contradiction
    cases jl;refine⟨s1,cA,λk aj=> ?_,a2,a3,a4,a5,hY⟩;unfold n';rw[aQ k aj];cases x<;>first|rfl|contradiction
theorem Mh(ro:Option Nat) :∀(a:lI) (c:Code) (K:p5) (ρ:bl) (s:cl) (res:br),den E E (call E p) n a c K ρ s.h=some res->eE ρ s.r->s.n=n->
  ∃x aS a8,rr E p ro c s x aS/\eE a8 aS.r/\K x a8 aS.h=some res:=by
 intro a;induction a with
 |leaf=>
  intro c K ρ s res h aj al;unfold den at h;cases c<;>try (cases h;done)
  ·exact⟨.normal,s,ρ,⟨nN ⟨0,rfl⟩,rfl,rfl,λ_ _=>rfl⟩,aj,h⟩
  ·exact⟨.exit _,s,ρ,⟨nN ⟨0,rfl⟩,rfl,rfl,λ_ _=>rfl⟩,aj,h⟩
  ·exact⟨.normal,s,ρ,⟨nN ⟨0,rfl⟩,rfl,rfl,λ_ _=>rfl⟩,aj,h⟩
  ·exact⟨.ret,s,ρ,⟨nN ⟨0,rfl⟩,rfl,rfl,λ_ _=>rfl⟩,aj,h⟩
 |sF os=>
  intro c K ρ s res h aj al;unfold den at h;cases c<;>try (cases h;done)
  rename_i i ops rG;cases rG with
  |true=>cases h
  |false=>
   dsimp only at h;obtain⟨aw,aL⟩:=GC ops.toList;obtain⟨aS,a8,d,iR,fN⟩:=Jm (ops:=ops) h aL aj al;rw[aw]at d;obtain⟨m,hm⟩:=d.runs;exact⟨.normal,aS,a8,⟨nN ⟨m,by unfold fR;dsimp only;rw[hm m (Nat.le_refl m)]⟩,d.n,d.ds,d.other⟩,iR,fN⟩
 |seq a b pP HD=>
  intro c K ρ s res h aj al;unfold den at h;cases c<;>try (cases h;done)
  rename_i c d;dsimp only at h;obtain⟨x,s1,c3,bV,h8,ft⟩:=pP _ _ _ _ _ h aj al;unfold Rr at ft;cases x with
  |normal=>
   obtain⟨y,s2,ek,dV,ks,gZ⟩:=HD _ _ _ _ _ ft h8 (bV.n.trans al);exact⟨y,s2,ek,akV bV dV,ks,gZ⟩
  |exit i=>exact⟨_,s1,c3,UT bV (λe=>by cases e),h8,ft⟩
  |ret=>exact⟨_,s1,c3,UT bV (λe=>by cases e),h8,ft⟩
  |goto l=>cases ft
 |cond a b pP HD=>
  intro c K ρ s res h aj al;unfold den at h;cases c<;>try (cases h;done)
  rename_i t c d;dsimp only at h;obtain⟨v,ae,h⟩:=l9 h;have ae:=eg aj ae;unfold j' at h;split at h
  ·obtain⟨x,s1,c3,bV,h8,ft⟩:=pP _ _ _ _ _ h aj al;obtain⟨m,g⟩:=bV.goes;exact⟨x,s1,c3,⟨nN ⟨m,by unfold fR;dsimp only;rw[ae];exact g⟩,bV.n,bV.ds,λt aN=>bV.other t λhm=>aN (by simp only[ki];exact List.mem_append_left _ hm)⟩,h8,ft⟩
  ·obtain⟨x,s1,c3,bV,h8,ft⟩:=HD _ _ _ _ _ h aj al;obtain⟨m,g⟩:=bV.goes;exact⟨x,s1,c3,⟨nN ⟨m,by unfold fR;dsimp only;rw[ae];exact g⟩,bV.n,bV.ds,λt aN=>bV.other t λhm=>aN (by simp only[ki];exact List.mem_append_right _ hm)⟩,h8,ft⟩
  ·cases h
 |jY a pP=>
  intro c K ρ s res h aj al;unfold den at h;cases c<;>try (cases h;done)
  rename_i id c;dsimp only at h;obtain⟨x,s1,c3,bV,h8,ft⟩:=pP _ _ _ _ _ h aj al;obtain⟨m,g⟩:=bV.goes
  have fin:∀y,fR E (fns E p m) ro (.block id c) s=some (y,s1)->K y c3 s1.h=some res->∃x aS a8,rr E p ro (.block id c) s x aS/\eE a8 aS.r/\K x a8 aS.h=some res:=
   λy an fN=>⟨y,s1,c3,⟨nN ⟨m,an⟩,bV.n,bV.ds,bV.other⟩,h8,fN⟩
  unfold LG at ft;cases x with
  |normal=>exact fin .normal (by unfold fR;dsimp only;rw[g]) ft
  |ret=>exact fin .ret (by unfold fR;dsimp only;rw[g]) ft
  |goto l=>cases ft
  |exit i=>
   dsimp only at ft;cases af:Nat.beq i id with
   |true=>rw[af]at ft;exact fin .normal (by unfold fR;dsimp only;rw[g];dsimp only;rw[af];rfl) ft
   |false=>rw[af]at ft;exact fin (.exit i) (by unfold fR;dsimp only;rw[g];dsimp only;rw[af];rfl) ft
 |JG a pP=>
  intro c K ρ s res h aj al;unfold den at h;cases c<;>try (cases h;done)
  rename_i c;dsimp only at h;obtain⟨x,s1,c3,bV,h8,ft⟩:=pP _ _ _ _ _ h aj al;obtain⟨m,g⟩:=bV.goes;have ab:∀l,x≠.goto l:=λl e=>by subst e;cases ft
  refine⟨x,s1,c3,⟨nN ⟨m,?_⟩,bV.n,bV.ds,bV.other⟩,h8,?_⟩
  ·unfold fR;dsimp only;unfold ur;rw[g];cases x<;>first|rfl|exact absurd rfl (ab _)
  ·unfold Rq at ft;cases x<;>first|exact ft|exact absurd rfl (ab _)
 |cut outs ids a pP=>
  intro c K ρ s res h aj al;unfold den at h;obtain⟨x,vs,g,h1,aa⟩:=Fv h;obtain⟨y,s1,c3,bV,h8,ft⟩:=pP _ _ _ _ _ h1 aj al;obtain⟨c9,aw,aL⟩:=I8 ft;cases aL;obtain⟨ek,ks,gZ⟩:=AL aa (xb h8 aw) (Dp aj bV.other);unfold lk at gZ;cases x with
  |normal=>exact⟨_,s1,ek,bV,ks,gZ⟩
  |ret=>exact⟨_,s1,ek,bV,ks,gZ⟩
  |exit i=>exact⟨_,s1,ek,bV,ks,Gh gZ⟩
  |goto l=>cases gZ
 |loop outs ids a pP=>
  intro c K ρ s res h aj al;unfold den at h;cases c<;>try (cases h;done)
  rename_i id c;cases c<;>try (cases h;done)
  rename_i c;dsimp only at h;split at h
  ·cases h
  ·rename_i vs0 xF;obtain⟨x,vs,g,h1,aa⟩:=Fv h
   obtain⟨aS,m,aQ,a2,a3,a4,a5,hY⟩:=Ie (E:=E) (p:=p) (ro:=ro) (c:=c) (outs:=outs) (r0:=s.r) (nn:=n) (ds:=s.ds)
    (λvs h x c9 bg q aB fj eS fY iN kM=>by
      subst fY;obtain⟨am_,aar,Zb⟩:=AL aB iN (Dp aj kM);obtain⟨y,s1,c3,bV,h8,ft⟩:=pP _ _ _ _ _ Zb aar fj;obtain⟨EV,aw,aL⟩:=I8 ft;cases aL
      exact⟨s1,bV,rfl,xb h8 aw⟩) 14 vs0 s.h x vs g s h1 al rfl rfl (xb aj xF) (λ_ _=>rfl)
   subst a4;obtain⟨ek,ks,gZ⟩:=AL aa a5 (Dp aj hY)
   have aaw:x≠.normal->fR E (fns E p m) ro (.loop c) s=some (x,aS):=λab=>by unfold fR;dsimp only;rw[aQ m (Nat.le_refl m)];cases x<;>first|rfl|contradiction
   have fin:∀y,x≠.normal->(match some (x,aS)with
     |some (.exit na,aS)=>bif Nat.beq na id then some (.normal,aS)else some (.exit na,aS)
     |r=>r)=some (y,aS)->K y ek aS.h=some res->∃x aS a8,rr E p ro (.block id (.loop c)) s x aS/\eE a8 aS.r/\K x a8 aS.h=some res:=λy ab an fN=>
    ⟨y,aS,ek,⟨nN ⟨m+1,by
     unfold fR;dsimp only;rw[show(fns E p (m+1)).code ro (.loop c) s=some (x,aS)from aaw ab]
     exact an⟩,a2.trans al.symm,a3,hY⟩,ks,fN⟩
   unfold lQ at gZ;cases x with
   |normal=>cases gZ
   |goto l=>cases gZ
   |ret=>exact fin .ret (λe=>by cases e) rfl gZ
   |exit i=>
    dsimp only at gZ;cases af:Nat.beq i id with
    |true=>rw[af]at gZ;exact fin .normal (λe=>by cases e) (by dsimp only;rw[af];rfl) gZ
    |false=>rw[af]at gZ;exact fin (.exit i) (λe=>by cases e) (by dsimp only;rw[af];rfl) (Gh gZ)
 |drawn=>
  intro c K ρ s res h aj al;unfold den at h;cases c<;>try (cases h;done)
  rename_i i ops rG;cases rG with
  |false=>cases h
  |true=>
   dsimp only at h;obtain⟨aS,a8,m,hm,h1,aa,av,iR,fN⟩:=XC h aj al;exact⟨.normal,aS,a8,⟨nN ⟨m,by unfold fR;dsimp only;rw[hm m (Nat.le_refl m)]⟩,h1,aa,av⟩,iR,fN⟩
theorem Jn{r ρ:bl}(aj:eE ρ r){h:ag} :∀{rs:List ResultVar} {k:List J->Option br} {res:br},uj E ρ h rs k=some res->∃vs,k2 E r h rs=some vs/\k vs=some res
 |[],k,res,ah=>⟨[],rfl,ah⟩
 | .tmp t::rest,k,res,ah=>by
  unfold uj at ah;split at ah
  ·rename_i v ae;obtain⟨vs,h1,aa⟩:=Jn aj ah;exact⟨v::vs,by unfold k2;rw[h1,aj t v ae],aa⟩
  ·cases ah
 | .cell a t::rest,k,res,ah=>by
  unfold uj at ah;split at ah
  ·rename_i q ay;obtain⟨v,h0,ah⟩:=iu ah;obtain⟨vs,h1,aa⟩:=Jn aj ah;refine⟨v::vs,?_,aa⟩;unfold k2;rw[h1,aj a q ay];unfold dJ at h0;split at h0
   ·simp only[h0]
   ·cases h0
  ·cases ah
theorem Yr{f:FuncId}{fn:Func}(aB:E.fn f=some fn)(aD:p f=none){a:lI}{args:List J}{h g:ag}{x:cW}{vs:List J}(ao:Gr E E (call E p) fn a args h=some (x,vs,g))
  {first mid cap:List J} (he:first++mid++cap=args) :call E p (.func f first cap) mid h=some (iY vs,g):=by
 unfold Gr at ao;split at ao
 ·rename_i c aA;obtain⟨y,aS,a8,w,aj,fN⟩:=Mh none a c _ _ {r:=qX args 0 .nil,n:=max fn.ntmps args.length,ds:=[],h} _ ao (eE.refl _) rfl;obtain⟨m,aE⟩:=w.goes
  have nR:(y=.normal\/y=.ret)/\uj E a8 aS.h fn.results.toList (λvs=>some (.ret,vs,aS.h))=some (x,vs,g):=by unfold ML at fN;cases y<;>first|exact⟨.inl rfl,fN⟩ |exact⟨.inr rfl,fN⟩ |cases fN
  obtain⟨an,fN⟩:=nR;obtain⟨c9,h1,aa⟩:=Jn aj fN;simp only[Option.some.injEq,Prod.mk.injEq]at aa;obtain⟨_,rfl,rfl⟩:=aa;refine tm.2 ⟨m+1,?_⟩
  have my:km E (fns E p m) (.func f first cap) mid h=some (iY c9,aS.h):=by
   unfold km;dsimp only;rw[aB];dsimp only;rw[aA];dsimp only;rw[he,aE];dsimp only;have ab:(match y with| .normal| .ret=>true|_=>false)=true:=by rcases an with rfl|rfl<;>rfl
   have xj:aS.ds=[]:=w.ds;cases y<;>first|(rcases an with h|h<;>cases h;done) |skip
   all_goals
    dsimp only;rw[xj];dsimp only[qg];rw[h1];rcases c9 with _|⟨v1,_|⟨v2,l⟩⟩<;>rfl
  show oG E p (fns E p m) (.func f first cap) mid h=_;unfold oG;split
  ·rename_i q e;injection e with aw aL bo;subst aw;rw[aD];subst aL bo;exact my
  ·exact my
 ·cases ao
end
end Go.a6
namespace Go.Proofs.YtkdjcmpgnkecfaaGreatDoor
open Go.a6
section
set_option maxRecDepth 100000
def bx(n:String)(t o b:Nat) :Field:={name:=n,type:=t,offset:=o,embedded:=false,tag:= "",pkgPath:= "",byteOffset:=b}
def ef(n:String)(t o b:Nat)(p:String) :Field:={name:=n,type:=t,offset:=o,embedded:=false,tag:= "",pkgPath:=p,byteOffset:=b}
abbrev bf:J:=.int .i64 0
def fi(n:Nat) :List (Nat×Nat):=Nat.rec [] (λi l=>l++[(i,1)]) n
def aR{α:Type}(v:α) :bj α:=.node .nil (some v) .nil
def aP{α:Type}(l:bj α)(v:α)(r:bj α) :bj α:=.node l (some v) r
def S7:bm:=⟨(.int .i64),1,8,[bf],true,[]⟩
def q_:bm:=⟨(.int .i64),1,8,[bf],true,[]⟩
def Ku:bm:=⟨.bool,1,1,[.bool false],true,[]⟩
def ow:bm:=⟨(.int .u8),1,1,[.int .u8 0],true,[]⟩
def uA:bm:=⟨.string,1,16,[.str 0 0],true,[]⟩
def Tc:bm:=⟨(.array 4 3),4,32,[bf,bf,bf,bf],true,[]⟩
def Tf:bm:=⟨(.slice 132),1,24,[.bh],true,[]⟩
def Ti:bm:=⟨(.slice 149),1,24,[.bh],true,[]⟩
def Tm:bm:=⟨(.slice 9),1,24,[.bh],true,[]⟩
def Tt:bm:=⟨(.array 3 3),3,24,[bf,bf,bf],true,[]⟩
def Tv:bm:=⟨(.pointer 145),1,8,[.nilPtr],true,[]⟩
def Tx:bm:=⟨(.int .i64),1,8,[bf],true,[]⟩
def TE:bm:=⟨(.pointer 244),1,8,[.nilPtr],true,[]⟩
def TM:bm:=⟨(.slice 69),1,24,[.bh],true,[]⟩
def TP:bm:=⟨(.slice 71),1,24,[.bh],true,[]⟩
def TX:bm:=⟨(.func #[] #[4] false),1,8,[.nilFunc],true,[]⟩
def T1:bm:=⟨(.pointer 156),1,8,[.nilPtr],true,[]⟩
def T3:bm:=⟨(.pointer 199),1,8,[.nilPtr],true,[]⟩
def A9:bm:=⟨(.struct #[bx "From" 3 0 0,bx "To" 3 1 8,bx "Perm" 3 2 16,bx "Kind" 3 3 24,bx "File" 3 4 32,bx "Page" 3 5 40]),6,48,[bf,bf,bf,bf,bf,bf],true,fi 6⟩
def EL:bm:=⟨(.pointer 161),1,8,[.nilPtr],true,[]⟩
def Ul:bm:=⟨(.func #[3,3,3] #[4] false),1,8,[.nilFunc],true,[]⟩
def Um:bm:=⟨(.slice 63),1,24,[.bh],true,[]⟩
def Un:bm:=⟨(.struct #[bx "Pid" 3 0 0,bx "Parent" 3 1 8,bx "State" 3 2 16,bx "Code" 3 3 24]),4,32,[bf,bf,bf,bf],true,fi 4⟩
def yz:bm:=⟨(.slice 3),1,24,[.bh],true,[]⟩
def uz:bm:=⟨(.int .u64),1,8,[.int .u64 0],true,[]⟩
def Uo:bm:=⟨(.struct #[bx "Op" 3 0 0,bx "Pid" 3 1 8,bx "At" 3 2 16,bx "N" 3 3 24,bx "Perm" 3 4 32,bx "Name" 9 5 40,bx "Args" 25 6 56,bx "Env" 25 7 80,bx "Bits" 67 8 104]),9,112,[bf,bf,bf,bf,bf,.str 0 0,.bh,.bh,.int .u64 0],true,fi 9⟩
def Up:bm:=⟨(.struct #[bx "Err" 29 0 0,bx "N" 3 1 8,bx "Bits" 67 2 16]),3,24,[bf,bf,.int .u64 0],true,fi 3⟩
def A_:bm:=⟨(.slice 48),1,24,[.bh],true,[]⟩
def Kv:bm:=⟨(.pointer 234),1,8,[.nilPtr],true,[]⟩
def Uq:bm:=⟨(.slice 250),1,24,[.bh],true,[]⟩
def SD:bm:=⟨(.slice 22),1,24,[.bh],true,[]⟩
def SE:bm:=⟨(.struct #[bx "Exec" 4 0 0,bx "Text" 3 1 8,bx "Slot" 3 2 16,bx "Needs" 64 3 24,bx "Defs" 64 4 48,bx "Asks" 64 5 72,bx "Relocs" 101 6 96]),7,120,[.bool false,bf,bf,.bh,.bh,.bh,.bh],true,fi 7⟩
def SF:bm:=⟨(.slice 103),1,24,[.bh],true,[]⟩
def SG:bm:=⟨(.slice 113),1,24,[.bh],true,[]⟩
def SH:bm:=⟨(.struct #[bx "Args" 25 0 0,bx "Env" 25 1 24,bx "Aux" 107 2 48,bx "Is" 4 3 72,bx "At" 3 4 80]),5,88,[.bh,.bh,.bh,.bool false,bf],true,fi 5⟩
def SI:bm:=⟨(.struct #[bx "Tag" 3 0 0,bx "Value" 3 1 8]),2,16,[bf,bf],true,[(0,1),(1,1)]⟩
def SJ:bm:=⟨(.slice 117),1,24,[.bh],true,[]⟩
def SK:bm:=⟨(.struct #[bx "Op" 3 0 0,bx "Pid" 3 1 8,bx "Place" 3 2 16,bx "At" 3 3 24,bx "N" 3 4 32,bx "Name" 3 5 40,bx "Kind" 3 6 48,bx "Bits" 67 7 56,bx "Raw" 4 8 64,bx "Args" 25 9 72]),10,96,[bf,bf,bf,bf,bf,bf,bf,.int .u64 0,.bool false,.bh],true,fi 10⟩
def SL:bm:=⟨(.array 32 67),32,256,[.int .u64 0,.int .u64 0,.int .u64 0,.int .u64 0,.int .u64 0,.int .u64 0,.int .u64 0,.int .u64 0,.int .u64 0,.int .u64 0,.int .u64 0,.int .u64 0,.int .u64 0,.int .u64 0,.int .u64 0,.int .u64 0,.int .u64 0,.int .u64 0,.int .u64 0,.int .u64 0,.int .u64 0,.int .u64 0,.int .u64 0,.int .u64 0,.int .u64 0,.int .u64 0,.int .u64 0,.int .u64 0,.int .u64 0,.int .u64 0,.int .u64 0,.int .u64 0],true,[]⟩
def SM:bm:=⟨(.array 2 3),2,16,[bf,bf],true,[]⟩
def wk:bm:=⟨(.slice 47),1,24,[.bh],true,[]⟩
def SN:bm:=⟨(.func #[3] #[4] false),1,8,[.nilFunc],true,[]⟩
def SO:bm:=⟨(.slice 131),1,24,[.bh],true,[]⟩
def SP:bm:=⟨(.struct #[bx "Exec" 4 0 0,bx "Text" 3 1 8,bx "Slot" 3 2 16,bx "Needs" 64 3 24,bx "Defs" 64 4 48,bx "Asks" 64 5 72,bx "Relocs" 101 6 96]),7,120,[.bool false,bf,bf,.bh,.bh,.bh,.bh],true,fi 7⟩
def SQ:bm:=⟨(.struct #[bx "Exec" 4 0 0,bx "Text" 3 1 8,bx "Slot" 3 2 16,bx "Needs" 64 3 24,bx "Defs" 64 4 48,bx "Asks" 64 5 72,bx "Relocs" 101 6 96]),7,120,[.bool false,bf,bf,.bh,.bh,.bh,.bh],true,fi 7⟩
def SR:bm:=⟨(.slice 137),1,24,[.bh],true,[]⟩
def pg:bm:=⟨(.slice 5),1,24,[.bh],true,[]⟩
def SS:bm:=⟨(.struct #[bx "Name" 9 0 0,bx "Data" 9 1 16]),2,32,[.str 0 0,.str 0 0],true,[(0,1),(1,1)]⟩
def SU:bm:=⟨(.pointer 265),1,8,[.nilPtr],true,[]⟩
def SV:bm:=⟨(.pointer 142),1,8,[.nilPtr],true,[]⟩
def SW:bm:=⟨(.struct #[ef "space" 48 0 0 "flyleaf/kernel",ef "heap" 3 1 8 "flyleaf/kernel",ef "pages" 3 2 16 "flyleaf/kernel"]),3,24,[.nilPtr,bf,bf],true,fi 3⟩
def SX:bm:=⟨(.map 3 140),1,8,[.gf],true,[]⟩
def SY:bm:=⟨(.struct #[ef "files" 83 0 0 "flyleaf/kernel",ef "memory" 42 1 8 "flyleaf/kernel",ef "procs" 138 2 16 "flyleaf/kernel",ef "own" 143 3 24 "flyleaf/kernel"]),4,32,[.nilPtr,.nilPtr,.nilPtr,.gf],true,fi 4⟩
def SZ:bm:=⟨(.struct #[bx "Op" 3 0 0,bx "Pid" 3 1 8,bx "Place" 3 2 16,bx "At" 3 3 24,bx "N" 3 4 32,bx "Name" 3 5 40,bx "Kind" 3 6 48,bx "Bits" 67 7 56]),8,64,[bf,bf,bf,bf,bf,bf,bf,.int .u64 0],true,fi 8⟩
def Kp:bm:=⟨(.pointer 268),1,8,[.nilPtr],true,[]⟩
def S0:bm:=⟨(.pointer 295),1,8,[.nilPtr],true,[]⟩
def S1:bm:=⟨(.pointer 288),1,8,[.nilPtr],true,[]⟩
def S2:bm:=⟨(.struct #[ef "pool" 152 0 0 "flyleaf/space",ef "files" 83 1 8 "flyleaf/space",ef "cache" 153 2 16 "flyleaf/space",ef "area" 154 3 24 "flyleaf/space",ef "spaces" 75 4 32 "flyleaf/space"]),5,56,[.nilPtr,.nilPtr,.nilPtr,.nilPtr,.bh],true,fi 5⟩
def S3:bm:=⟨(.pointer 272),1,8,[.nilPtr],true,[]⟩
def S4:bm:=⟨(.struct #[ef "memory" 42 0 0 "flyleaf/space",ef "table" 157 1 8 "flyleaf/space",ef "regions" 126 2 16 "flyleaf/space"]),3,40,[.nilPtr,.nilPtr,.bh],true,fi 3⟩
def EJ:bm:=⟨(.struct #[bx "Here" 4 0 0,bx "Write" 4 1 1,bx "Copy" 4 2 2,bx "Out" 4 3 3,bx "N" 3 4 8]),5,16,[.bool false,.bool false,.bool false,.bool false,bf],true,fi 5⟩
def wm:bm:=⟨(.slice 178),1,24,[.bh],true,[]⟩
def Kq:bm:=⟨(.struct #[bx "Page" 3 0 0,bx "Slot" 169 1 8]),6,24,[bf,.bool false,.bool false,.bool false,.bool false,bf],true,[(0,1),(1,5)]⟩
def EK:bm:=⟨(.slice 182),1,24,[.bh],true,[]⟩
def yw:bm:=⟨(.struct #[bx "File" 3 0 0,bx "Page" 3 1 8]),2,16,[bf,bf],true,[(0,1),(1,1)]⟩
def S5:bm:=⟨(.map 3 4),1,8,[.gf],true,[]⟩
def Kr:bm:=⟨(.slice 204),1,24,[.bh],true,[]⟩
def S6:bm:=⟨(.struct #[bx "S" 25 0 0,bx "Used" 3 1 24,bx "Nodes" 197 2 32]),3,56,[.bh,bf,.bh],true,fi 3⟩
def yx:bm:=⟨(.slice 206),1,24,[.bh],true,[]⟩
def S8:bm:=⟨(.struct #[bx "Name" 9 0 0,bx "Size" 3 1 16,bx "Extents" 202 2 24]),3,48,[.str 0 0,bf,.bh],true,fi 3⟩
def A7:bm:=⟨(.struct #[bx "At" 3 0 0,bx "N" 3 1 8]),2,16,[bf,bf],true,[(0,1),(1,1)]⟩
def S9:bm:=⟨(.pointer 312),1,8,[.nilPtr],true,[]⟩
def S_:bm:=⟨(.pointer 213),1,8,[.nilPtr],true,[]⟩
def S':bm:=⟨(.slice 406),1,24,[.bh],true,[]⟩
def A8:bm:=⟨(.struct #[bx "F" 43 0 0,bx "L" 126 1 8,bx "P" 211 2 32]),3,56,[.nilPtr,.bh,.bh],true,fi 3⟩
def Ta:bm:=⟨(.struct #[bx "Pid" 3 0 0,bx "S" 210 1 8,bx "Heap" 3 2 16,bx "Pages" 3 3 24]),4,32,[bf,.nilPtr,bf,bf],true,fi 4⟩
def Tb:bm:=⟨(.slice 215),1,24,[.bh],true,[]⟩
def yy:bm:=⟨(.struct #[bx "F" 43 0 0,bx "T" 208 1 8,bx "M" 216 2 16]),3,40,[.nilPtr,.nilPtr,.bh],true,fi 3⟩
def Td:bm:=⟨(.func #[140,69] #[71] false),1,8,[.nilFunc],true,[]⟩
def Te:bm:=⟨(.struct #[bx "Pid" 3 0 0,bx "Code" 3 1 8,bx "E" 29 2 16]),3,24,[bf,bf,bf],true,fi 3⟩
def Tg:bm:=⟨(.map 9 3),1,8,[.gf],true,[]⟩
def Th:bm:=⟨(.struct #[ef "disk" 32 0 0 "flyleaf/files",ef "used" 3 1 8 "flyleaf/files",ef "nodes" 197 2 16 "flyleaf/files",ef "names" 232 3 40 "flyleaf/files"]),4,48,[.nilPtr,bf,.bh,.gf],true,fi 4⟩
def Tj:bm:=⟨(.struct #[ef "bytes" 135 0 0 "flyleaf/block",ef "sealed" 3 1 24 "flyleaf/block",ef "reads" 3 2 32 "flyleaf/block",ef "writes" 3 3 40 "flyleaf/block"]),4,48,[.bh,bf,bf,bf],true,fi 4⟩
def Tk:bm:=⟨(.struct #[bx "S" 48 0 0,bx "R" 210 1 8]),2,16,[.nilPtr,.nilPtr],true,[(0,1),(1,1)]⟩
def Tl:bm:=⟨(.slice 247),1,24,[.bh],true,[]⟩
def Tn:bm:=⟨(.struct #[bx "Kind" 3 0 0,bx "Space" 3 1 8,bx "At" 3 2 16,bx "From" 3 3 24,bx "To" 3 4 32,bx "Perm" 3 5 40,bx "Byte" 5 6 48]),7,56,[bf,bf,bf,bf,bf,bf,.int .u8 0],true,fi 7⟩
def Ks:bm:=⟨(.array 10 3),10,80,[bf,bf,bf,bf,bf,bf,bf,bf,bf,bf],true,[]⟩
def To:bm:=⟨(.array 8 3),8,64,[bf,bf,bf,bf,bf,bf,bf,bf],true,[]⟩
def Tp:bm:=⟨(.map 3 63),1,8,[.gf],true,[]⟩
def Tq:bm:=⟨(.struct #[ef "procs" 263 0 0 "flyleaf/proc"]),1,8,[.gf],true,[(0,1)]⟩
def Tr:bm:=⟨(.struct #[ef "bytes" 135 0 0 "flyleaf/frames",ef "held" 64 1 24 "flyleaf/frames",ef "free" 3 2 48 "flyleaf/frames"]),3,56,[.bh,.bh,bf],true,fi 3⟩
def Ts:bm:=⟨(.array 3 41),3,24,[.nilFunc,.nilFunc,.nilFunc],true,[]⟩
def Tu:bm:=⟨(.struct #[ef "pool" 152 0 0 "flyleaf/radix",ef "root" 3 1 8 "flyleaf/radix",ef "nodes" 3 2 16 "flyleaf/radix"]),3,24,[.nilPtr,bf,bf],true,fi 3⟩
def Kt:bm:=⟨(.func #[135] #[] false),1,8,[.nilFunc],true,[]⟩
def Tw:bm:=⟨(.struct #[ef "disk" 32 0 0 "flyleaf/swap",ef "first" 3 1 8 "flyleaf/swap",ef "held" 64 2 16 "flyleaf/swap",ef "used" 3 3 40 "flyleaf/swap"]),4,48,[.nilPtr,bf,.bh,bf],true,fi 4⟩
def q9:bm:=⟨(.map 182 296),1,8,[.gf],true,[]⟩
def wo:bm:=⟨(.slice 296),1,24,[.bh],true,[]⟩
def Ty:bm:=⟨(.struct #[ef "pool" 152 0 0 "flyleaf/cache",ef "files" 83 1 8 "flyleaf/cache",ef "pages" 292 2 16 "flyleaf/cache",ef "ring" 293 3 24 "flyleaf/cache",ef "hand" 3 4 48 "flyleaf/cache",ef "hits" 3 5 56 "flyleaf/cache",ef "fills" 3 6 64 "flyleaf/cache"]),7,72,[.nilPtr,.nilPtr,.gf,.bh,bf,bf,bf],true,fi 7⟩
def sZ:bm:=⟨(.pointer 298),1,8,[.nilPtr],true,[]⟩
def Tz:bm:=⟨(.struct #[ef "key" 182 0 0 "flyleaf/cache",ef "frame" 3 2 16 "flyleaf/cache",ef "fresh" 4 3 24 "flyleaf/cache"]),4,32,[bf,bf,bf,.bool false],true,[(0,2),(2,1),(3,1)]⟩
def TA:bm:=⟨(.struct #[bx "L" 60 0 0]),1,24,[.bh],true,[(0,1)]⟩
def TB:bm:=⟨(.slice 334),1,24,[.bh],true,[]⟩
def TC:bm:=⟨(.slice 323),1,24,[.bh],true,[]⟩
def TD:bm:=⟨(.struct #[bx "Entry" 3 0 0,bx "Modules" 313 1 8,bx "Regions" 126 2 32,bx "Zeros" 202 3 56,bx "Puts" 314 4 80]),5,104,[bf,.bh,.bh,.bh,.bh],true,fi 5⟩
def TF:bm:=⟨(.struct #[bx "Sp" 3 0 0,bx "S" 9 1 8,bx "E" 29 2 24]),3,32,[bf,.str 0 0,bf],true,fi 3⟩
def TG:bm:=⟨(.struct #[bx "At" 3 0 0,bx "Value" 67 1 8]),2,16,[bf,.int .u64 0],true,[(0,1),(1,1)]⟩
def TH:bm:=⟨(.slice 352),1,24,[.bh],true,[]⟩
def TI:bm:=⟨(.struct #[bx "Kind" 3 0 0,bx "Entry" 3 1 8,bx "Segments" 324 2 16]),3,40,[bf,bf,.bh],true,fi 3⟩
def TJ:bm:=⟨(.struct #[bx "Needed" 64 0 0,bx "Names" 3 1 24,bx "NamesSize" 3 2 32,bx "Symbols" 3 3 40,bx "Hash" 3 4 48,bx "Relocs" 3 5 56,bx "RelocsSize" 3 6 64,bx "Own" 3 7 72,bx "Slot" 3 8 80]),9,88,[.bh,bf,bf,bf,bf,bf,bf,bf,bf],true,fi 9⟩
def TK:bm:=⟨(.struct #[bx "File" 3 0 0,bx "Name" 9 1 8,bx "X" 326 2 24,bx "View" 9 5 64,bx "D" 328 6 80,bx "Base" 3 15 168]),16,176,[bf,.str 0 0,bf,bf,.bh,.str 0 0,.bh,bf,bf,bf,bf,bf,bf,bf,bf,bf],true,[(0,1),(1,1),(2,3),(5,1),(6,9),(15,1)]⟩
def TL:bm:=⟨(.struct #[bx "File" 3 0 0,bx "Base" 3 1 8,bx "Name" 9 2 16]),3,32,[bf,bf,.str 0 0],true,fi 3⟩
def TN:bm:=⟨(.array 11 3),11,88,[bf,bf,bf,bf,bf,bf,bf,bf,bf,bf,bf],true,[]⟩
def TO:bm:=⟨(.struct #[bx "Type" 3 0 0,bx "Flags" 3 1 8,bx "Off" 3 2 16,bx "Addr" 3 3 24,bx "Size" 3 4 32,bx "Mem" 3 5 40,bx "Align" 3 6 48]),7,56,[bf,bf,bf,bf,bf,bf,bf],true,fi 7⟩
def TQ:bm:=⟨(.func #[178] #[4] false),1,8,[.nilFunc],true,[]⟩
def TR:bm:=⟨(.slice 330),1,24,[.bh],true,[]⟩
def TS:bm:=⟨(.slice 382),1,24,[.bh],true,[]⟩
def TT:bm:=⟨(.struct #[bx "Size" 3 0 0,bx "Slot" 3 1 8]),2,16,[bf,bf],true,[(0,1),(1,1)]⟩
def TU:bm:=⟨(.slice 395),1,24,[.bh],true,[]⟩
def TV:bm:=⟨(.struct #[bx "R" 47 0 0,bx "Is" 4 6 48]),7,56,[bf,bf,bf,bf,bf,bf,.bool false],true,[(0,6),(6,1)]⟩
def TW:bm:=⟨(.struct #[bx "Page" 3 0 0,bx "S" 9 1 8]),2,24,[bf,.str 0 0],true,[(0,1),(1,1)]⟩
def TY:bm:=⟨(.int .u64),1,8,[.int .u64 0],true,[]⟩
def TZ:bm:=⟨(.struct #[bx "Name" 3 0 0,bx "Defined" 4 1 8,bx "Value" 3 2 16]),3,24,[bf,.bool false,bf],true,fi 3⟩
def T0:bm:=⟨(.struct #[bx "At" 3 0 0,bx "Kind" 3 1 8,bx "Symbol" 3 2 16,bx "Add" 2 3 24]),4,32,[bf,bf,bf,bf],true,fi 4⟩
def T2:bm:=⟨(.slice 430),1,24,[.bh],true,[]⟩
def T4:bm:=⟨(.pointer 434),1,8,[.nilPtr],true,[]⟩
def T5:bm:=⟨(.struct #[{name:= "Module",type:=334,offset:=0,embedded:=true,tag:= "",pkgPath:= "",byteOffset:=0},ef "image" 326 3 32 "flyleaf/load",ef "view" 9 6 72 "flyleaf/load",ef "table" 328 7 88 "flyleaf/load"]),16,176,[bf,bf,.str 0 0,bf,bf,.bh,.str 0 0,.bh,bf,bf,bf,bf,bf,bf,bf,bf],true,[(0,3),(3,3),(6,1),(7,9)]⟩
def T6:bm:=⟨(.pointer 440),1,8,[.nilPtr],true,[]⟩
def T7:bm:=⟨(.struct #[ef "addr" 438 0 0 "strings",ef "buf" 135 1 8 "strings"]),2,32,[.nilPtr,.bh],true,[(0,1),(1,1)]⟩
def T8:bm:=⟨(.array 2 25),2,48,[.bh,.bh],true,[]⟩
def T9:bm:=⟨(.slice 454),1,24,[.bh],true,[]⟩
def T_:bm:=⟨(.struct #[bx "Name" 9 0 0,bx "Needed" 25 1 16]),2,40,[.str 0 0,.bh],true,[(0,1),(1,1)]⟩
def T':bm:=⟨(.slice 417),1,24,[.bh],true,[]⟩
def Ua:bm:=⟨(.array 10 67),10,80,[.int .u64 0,.int .u64 0,.int .u64 0,.int .u64 0,.int .u64 0,.int .u64 0,.int .u64 0,.int .u64 0,.int .u64 0,.int .u64 0],true,[]⟩
def Ub:bm:=⟨(.array 10 4),10,10,[.bool false,.bool false,.bool false,.bool false,.bool false,.bool false,.bool false,.bool false,.bool false,.bool false],true,[]⟩
def Uc:bm:=⟨(.int .u32),1,4,[.int .u32 0],true,[]⟩
def Ud:bm:=⟨(.map 9 430),1,8,[.gf],true,[]⟩
def Ue:bm:=⟨(.map 67 4),1,8,[.gf],true,[]⟩
def Uf:bm:=⟨(.pointer 3),1,8,[.nilPtr],true,[]⟩
def Ug:bm:=⟨(.struct #[bx "Names" 25 0 0,bx "Depths" 64 1 24,bx "Missing" 25 2 48]),3,72,[.bh,.bh,.bh],true,fi 3⟩
def Uh:bm:=⟨(.map 9 25),1,8,[.gf],true,[]⟩
def Ui:bm:=⟨(.array 6 3),6,48,[bf,bf,bf,bf,bf,bf],true,[]⟩
def Uj:bm:=⟨(.map 9 4),1,8,[.gf],true,[]⟩
def Uk:bm:=⟨(.array 5 3),5,40,[bf,bf,bf,bf,bf],true,[]⟩
def Kw:bj bm:=(.node (.node (aP (.node (.node (.node (aP (.node (aR Ks) none .nil) Un .nil) none .nil) none (aP (.node (aR SX) none .nil) A9 (.node (aR wm) none .nil))) none (aP (.node (aP (aP (aR Tp) pg .nil) Up (aR S6)) none (aP (.node (aR Ty) none .nil) SE .nil)) Tf (.node (.node (.node (.node (aR Uj) none .nil) none .nil) none (aR Ta)) none (.node .nil none (aR Tk))))) q_ (.node (.node (.node (aP (aP (.node (aR Uh) none .nil) SP .nil) uz (.node (aR TG) none (aR T9))) none .nil) none (.node (aP .nil Kv (aP .nil S' (aR Ua))) none (aP (aR EK) SJ .nil))) none (aP (aP (aP (.node .nil none (aR TV)) A_ .nil) T3 (aR SG)) Tt (aP (.node (.node (.node (aR Uk) none .nil) none .nil) none (.node .nil none (aR Uc))) Ul .nil)))) none (aP (aP (.node (.node .nil none (.node (aP .nil S4 (aR T0)) none .nil)) none (.node (.node (aP (.node (aR Ui) none .nil) SY .nil) none .nil) none (aR SI))) uA (aP (aP (.node (aP (aR Tq) SS .nil) none .nil) TX (.node (aR EJ) none .nil)) Tm (.node (.node (aR S0) none .nil) none (aP (aP (aR TB) S5 .nil) SL (.node (aR TR) none .nil))))) ow (.node (.node (.node (aP (aR SR) Uo (aR Kr)) none (aP (.node (aR wo) none .nil) SD (aR Te))) none (.node (.node (aR SZ) none (aR A8)) none (aP .nil SK (.node .nil none (aR Ug))))) none (aP (.node (.node (.node (aR Ts) none .nil) none .nil) none (aP .nil SH (.node .nil none (aR Ue)))) Tx (.node (.node (aR S3) none .nil) none (.node (.node .nil none (aR T8)) none .nil)))))) none (aP (aP (.node (.node (aP (aP (aR SN) yz (.node (aR TF) none .nil)) TE (.node (.node (aR Tw) none .nil) none (.node (aR TO) none .nil))) none (aP (.node (.node (aR Tu) none .nil) none (aR S9)) EL .nil)) none (aP (.node (.node (.node .nil none (aR TU)) none (.node (aR TJ) none .nil)) none (aP (.node (aR sZ) none .nil) SF (aP .nil Tg (aR Ud)))) Ti (.node (.node (aR Kp) none (aP (aR TN) Tb .nil)) none (.node (.node (aR TA) none (aR T7)) none (aR Tl))))) Ku (.node (.node (aP (.node (aR SQ) none (.node (aR TH) none .nil)) TP (.node (.node (aR q9) none .nil) none .nil)) none (.node (.node .nil none (.node .nil none (aR Ub))) none (.node .nil none (aR Tj)))) none (aP (.node (.node (aP (aR Tr) SV .nil) none (aR S8)) none .nil) Tv (aP (.node (aR S2) none (aR Td)) Um (aP (.node (aR TD) none .nil) SM (.node (aR TS) none .nil)))))) S7 (.node (.node (.node (aP (.node (aP (aR To) SO .nil) none .nil) TM .nil) none (.node (.node .nil none (aR S_)) none (.node (aP .nil Kq (aR T5)) none .nil))) none (.node (aP (.node (aR SU) none (aP (aR TK) yx (aR T'))) T1 (.node (.node (aR Tz) none (aR T2)) none (aR Th))) none (.node (aP (aP .nil S1 (aR TY)) Uq (aR yy)) none (.node (.node (aR TC) none .nil) none (aR Tn))))) none (.node (aP (.node (.node .nil none (.node (aR TI) none (aR T_))) none .nil) Tc (.node (.node (.node .nil none (aR TW)) none .nil) none (.node (aP .nil yw (aR T6)) none .nil))) none (.node (.node (.node (aR SW) none (aP (aR TL) A7 .nil)) none (.node (.node .nil none (aR T4)) none (.node (aR TQ) none (aR Uf)))) none (.node (.node (.node (aR Kt) none (aR TZ)) none .nil) none (aP .nil wk (.node (aR TT) none .nil))))))))
open _root_.Go.Proofs.Tryz in
noncomputable def Gs:bj Func:=(.node (.node (aP (aP (aP (aP (aP (aP (aR f255) f127 .nil) f63 (aP (aR f319) f191 (aR f447))) f31 (aP (aP (aR f287) f159 (aR f415)) f95 (aP (aR f351) f223 .nil))) f15 (aP (aP (aP (aR f271) f143 (aR f399)) f79 (aP (aR f335) f207 (aR f463))) f47 (aP (aP (aR f303) f175 .nil) f111 (aP (aR f367) f239 .nil)))) f7 (aP (aP (aP (aP (aR f263) f135 (aR f391)) f71 (aP (aR f327) f199 (aR f455))) f39 (aP (aP (aR f295) f167 .nil) f103 (aP (aR f359) f231 .nil))) f23 (aP (aP (aP (aR f279) f151 (aR f407)) f87 (aP (aR f343) f215 (aR f471))) f55 (aP (aP (aR f311) f183 (aR f439)) f119 (aP (aR f375) f247 .nil))))) f3 (aP (aP (aP (aP (aR f131) f67 (aP .nil f195 (aR f451))) f35 (aP (aP (aR f291) f163 (aR f419)) f99 (aP (aR f355) f227 .nil))) f19 (aP (aP (aP (aR f275) f147 (aR f403)) f83 (aP (aR f339) f211 (aR f467))) f51 (aP (aP (aR f307) f179 .nil) f115 (aP (aR f371) f243 .nil)))) f11 (aP (aP (aP (aP (aR f267) f139 (aR f395)) f75 (aP (aR f331) f203 (aR f459))) f43 (aP (aP (aR f299) f171 (aR f427)) f107 (aP (aR f363) f235 .nil))) f27 (aP (aP (aP (aR f283) f155 (aR f411)) f91 (aP (aR f347) f219 .nil)) f59 (aP (aP (aR f315) f187 (aR f443)) f123 (aP (aR f379) f251 .nil)))))) none (aP (aP (aP (aP (aP (aP (aR f257) f129 .nil) f65 (aP (aR f321) f193 (aR f449))) f33 (aP (aP (aR f289) f161 (aR f417)) f97 (aP (aR f353) f225 .nil))) f17 (aP (aP (aP (aR f273) f145 (aR f401)) f81 (aP (aR f337) f209 (aR f465))) f49 (aP (aP (aR f305) f177 .nil) f113 (aR f241)))) f9 (aP (aP (aP (aP (aR f265) f137 (aR f393)) f73 (aP (aR f329) f201 (aR f457))) f41 (aP (aP (aR f297) f169 (aR f425)) f105 (aP (aR f361) f233 .nil))) f25 (aP (aP (aP (aR f281) f153 (aR f409)) f89 (aP (aR f345) f217 .nil)) f57 (aP (aP (aR f313) f185 (aR f441)) f121 (aP (aR f377) f249 .nil))))) f5 (aP (aP (aP (aP (aR f133) f69 (aP (aR f325) f197 (aR f453))) f37 (aP (aP (aR f293) f165 .nil) f101 (aP (aR f357) f229 .nil))) f21 (aP (aP (aP (aR f277) f149 (aR f405)) f85 (aP (aR f341) f213 (aR f469))) f53 (aP (aP (aR f309) f181 (aR f437)) f117 (aP (aR f373) f245 .nil)))) f13 (aP (aP (aP (aP (aR f269) f141 (aR f397)) f77 (aP (aR f333) f205 .nil)) f45 (aP (aP (aR f301) f173 (aR f429)) f109 (aP (aR f365) f237 .nil))) f29 (aP (aP (aP (aR f285) f157 (aR f413)) f93 (aP (aR f349) f221 .nil)) f61 (aP (aP (aR f317) f189 (aR f445)) f125 (aR f253))))))) none (.node (aP (aP (aP (aP (aP (aP (aR f256) f128 .nil) f64 (aP (aR f320) f192 (aR f448))) f32 (aP (aP (aR f288) f160 (aR f416)) f96 (aP (aR f352) f224 .nil))) f16 (aP (aP (aP (aR f272) f144 (aR f400)) f80 (aP (aR f336) f208 .nil)) f48 (aP (aP (aR f304) f176 .nil) f112 (aR f240)))) f8 (aP (aP (aP (aP (aR f264) f136 (aR f392)) f72 (aP (aR f328) f200 (aR f456))) f40 (aP (aP (aR f296) f168 (aR f424)) f104 (aP (aR f360) f232 .nil))) f24 (aP (aP (aP (aR f280) f152 (aR f408)) f88 (aP (aR f344) f216 (aR f472))) f56 (aP (aP (aR f312) f184 (aR f440)) f120 (aP (aR f376) f248 .nil))))) f4 (aP (aP (aP (aP (aR f132) f68 (aP .nil f196 (aR f452))) f36 (aP (aP (aR f292) f164 (aR f420)) f100 (aP (aR f356) f228 .nil))) f20 (aP (aP (aP (aR f276) f148 (aR f404)) f84 (aP (aR f340) f212 (aR f468))) f52 (aP (aP (aR f308) f180 (aR f436)) f116 (aP (aR f372) f244 .nil)))) f12 (aP (aP (aP (aP (aR f268) f140 (aR f396)) f76 (aP (aR f332) f204 (aR f460))) f44 (aP (aP (aR f300) f172 (aR f428)) f108 (aP (aR f364) f236 .nil))) f28 (aP (aP (aP (aR f284) f156 (aR f412)) f92 (aP (aR f348) f220 .nil)) f60 (aP (aP (aR f316) f188 (aR f444)) f124 (aR f252)))))) none (aP (aP (aP (aP (aP (aP (aR f258) f130 .nil) f66 (aR f194)) f34 (aP (aP (aR f290) f162 (aR f418)) f98 (aP (aR f354) f226 .nil))) f18 (aP (aP (aP (aR f274) f146 (aR f402)) f82 (aP (aR f338) f210 (aR f466))) f50 (aP (aP (aR f306) f178 .nil) f114 (aP (aR f370) f242 .nil)))) f10 (aP (aP (aP (aP (aR f266) f138 (aR f394)) f74 (aP (aR f330) f202 (aR f458))) f42 (aP (aP (aR f298) f170 .nil) f106 (aP (aR f362) f234 .nil))) f26 (aP (aP (aP (aR f282) f154 (aR f410)) f90 (aP (aR f346) f218 .nil)) f58 (aP (aP (aR f314) f186 (aR f442)) f122 (aP (aR f378) f250 .nil))))) f6 (aP (aP (aP (aP (aP (aR f262) f134 .nil) f70 (aP (aR f326) f198 (aR f454))) f38 (aP (aP (aR f294) f166 .nil) f102 (aP (aR f358) f230 .nil))) f22 (aP (aP (aP (aR f278) f150 (aR f406)) f86 (aP (aR f342) f214 (aR f470))) f54 (aP (aP (aR f310) f182 (aR f438)) f118 (aP (aR f374) f246 .nil)))) f14 (aP (aP (aP (aP (aR f270) f142 (aR f398)) f78 (aP (aR f334) f206 .nil)) f46 (aP (aP (aR f302) f174 .nil) f110 (aP (aR f366) f238 .nil))) f30 (aP (aP (aP (aR f286) f158 (aR f414)) f94 (aP (aR f350) f222 .nil)) f62 (aP (aP (aR f318) f190 (aR f446)) f126 (aR f254))))))))
noncomputable def env (fs:List Fact) :Env:={fn:=bj.get Gs,ty:=bj.get Kw,facts:=fs,xX:=1}
noncomputable def ai:Env:=env []
def sG(l n:Nat) :Nat->Nat:=Nat.rec 0 (λ_ acc=>n+acc<<< (8*l))
def DX:List J->ag->Option (J×ag)
 |[.str l n,.int .i64 (.ofNat k)],h=>bif Nat.ble (l*k) 140737488355328&&Nat.ble k 9223372036854775807 then some (.str (l*k) (sG l n k),h)else none
 |_,_=>none
def w'(n:Nat)(c:Nat) :Nat->Nat->Int
 |0,_=> -1
 |k+1,i=>bif Nat.beq (cC n i) c then .ofNat i else w' n c k (i+1)
def HE:List J->ag->Option (J×ag)
 |[.str l n,.int .u8 (.ofNat c)],h=>bif Nat.blt c 256 then some (.int .i64 (w' n c l 0),h)else none
 |_,_=>none
def xJ(n:Int) :List Int->List Int
 |[]=>[n]
 |m::l=>bif n_ n m then n::m::l else m::xJ n l
def Ae:List (J×J×Nat)->Option (List Int)
 |[]=>some []
 |(k,_,_)::es=>match k,Ae es with
  | .int .i64 n,some l=>bif n_ (-9223372036854775808) n&&n_ n 9223372036854775807 then some (n::l)else none
  |_,_=>none
def nr:List (J×J×Nat)->Nat->Nat->Bool
 |[],_,_=>true
 |(_,_,b)::es,lo,clock=>Nat.ble lo b&&Nat.blt b clock&&nr es (b+1) clock
def p0:List Int->List Int
 |[]=>[]
 |n::l=>xJ n (p0 l)
def AF:List Int->Bool
 |[]=>true
 |[_]=>true
 |a::b::l=>mE a b&&AF (b::l)
def H0:List J->ag->Option (J×ag)
 |[.map id],h=>some (.func 261 [] [.ptr h.next 0],h.new (.ro 1 (.node .nil (some (.map id)) .nil)))
 |_,_=>none
def ace(l:List Int)(h:ag) :J×ag:=match l with
 |[]=>(.bh,h)
 |k::l=>(.slice h.next 0 (l.length+1) (l.length+1) 1 false,h.new (.cells (l.length+1) false [] (bj.ofList ((k::l).map (J.int .i64)))))
def JN:List J->ag->Option (J×ag)
 |[.func f [] [.ptr a 0]],h=>bif Nat.beq f 261 then match h.get a with
  | .ro 1 (.node _ (some (.map id)) _)=>match h.get id with
   | .map es clock=>match Ae es with
    |some f'=>bif AF (p0 f') &&nr es 0 clock&&Nat.ble es.length 16777216 then some (ace (p0 f') h)else none
    |none=>none
   |_=>none
  |_=>none
  else none
 |_,_=>none
def Aw:List (FuncId×(List J->ag->Option (J×ag))):=[(296,DX),(425,HE),(172,JN),(173,H0)]
def ta:cw:=qV Aw
def okF(f:Nat) :Bool:= !(Nat.beq f 28||Nat.beq f 56||Nat.beq f 61)
class db (P:outParam cw) :Prop where
 same:∀f,okF f=true->P f=ta f
section
variable{PV:cw} [db PV]
theorem QG{f:Nat}(h:okF f=true)(h0:ta f=none) :PV f=none:=(db.same f h).trans h0
end
end
section
set_option maxRecDepth 100000
def Ak{α:Type} :List (Nat×α)->bj α
 |[]=>.nil
 |(k,v)::l=>(Ak l).set k v
theorem GA{α:Type}(f:List (Nat×α)->Nat->Option α)(h0:∀u,f [] u=none)(h1:∀t i r u,f ((t,i)::r) u=bif Nat.beq u t then some i else f r u) :∀(l:List (Nat×α)) (t:Nat),bj.get (Ak l) t=f l t
 |[],t=>(h0 t).symm
 |(k,v)::l,t=>by
  rw[h1,Ak,bj.kq,GA f h0 h1 l t];by_cases e:t=k
  ·rw[if_pos e,beq_true.2 e];rfl
  ·rw[if_neg e,beq_false.2 e];rfl
def Kx:List (TypeId×bm):=[(2,S7),(3,q_),(4,Ku),(5,ow),(9,uA),(22,Tc),(23,Tf),(24,Ti),(25,Tm),(27,Tt),(28,Tv),(29,Tx),(32,TE),(34,TM),(36,TP),(41,TX),(42,T1),(43,T3),(47,A9),(48,EL),(59,Ul),(60,Um),(63,Un),(64,yz),(67,uz),(69,Uo),(71,Up),(75,A_),(83,Kv),(90,Uq),(101,SD),(103,SE),(104,SF),(107,SG),(109,SH),(113,SI),(115,SJ),(117,SK),(121,SL),(124,SM),(126,wk),(128,SN),(130,SO),(131,SP),(132,SQ),(133,SR),(135,pg),(137,SS),(138,SU),(140,SV),(142,SW),(143,SX),(145,SY),(149,SZ),(152,Kp),(153,S0),(154,S1),(156,S2),(157,S3),(161,S4),(169,EJ),(175,wm),(178,Kq),(179,EK),(182,yw),(185,S5),(197,Kr),(199,S6),(202,yx),(204,S8),(206,A7),(208,S9),(210,S_),(211,S'),(213,A8),(215,Ta),(216,Tb),(218,yy),(220,Td),(229,Te),(232,Tg),(234,Th),(244,Tj),(247,Tk),(248,Tl),(250,Tn),(255,Ks),(258,To),(263,Tp),(265,Tq),(268,Tr),(269,Ts),(272,Tu),(286,Kt),(288,Tw),(292,q9),(293,wo),(295,Ty),(296,sZ),(298,Tz),(312,TA),(313,TB),(314,TC),(316,TD),(320,TF),(323,TG),(324,TH),(326,TI),(328,TJ),(330,TK),(334,TL),(344,TN),(352,TO),(366,TQ),(377,TR),(380,TS),(382,TT),(392,TU),(395,TV),(406,TW),(410,TY),(414,TZ),(417,T0),(426,T2),(430,T4),(434,T5),(438,T6),(440,T7),(445,T8),(451,T9),(454,T_),(458,T'),(467,Ua),(468,Ub),(475,Uc),(488,Ud),(493,Ue),(494,Uf),(501,Ug),(515,Uh),(529,Ui),(535,Uj),(539,Uk)]
open _root_.Go.Proofs.Tryz in
noncomputable def Gt:List (FuncId×Func):=[(3,f3),(4,f4),(5,f5),(6,f6),(7,f7),(8,f8),(9,f9),(10,f10),(11,f11),(12,f12),(13,f13),(14,f14),(15,f15),(16,f16),(17,f17),(18,f18),(19,f19),(20,f20),(21,f21),(22,f22),(23,f23),(24,f24),(25,f25),(26,f26),(27,f27),(28,f28),(29,f29),(30,f30),(31,f31),(32,f32),(33,f33),(34,f34),(35,f35),(36,f36),(37,f37),(38,f38),(39,f39),(40,f40),(41,f41),(42,f42),(43,f43),(44,f44),(45,f45),(46,f46),(47,f47),(48,f48),(49,f49),(50,f50),(51,f51),(52,f52),(53,f53),(54,f54),(55,f55),(56,f56),(57,f57),(58,f58),(59,f59),(60,f60),(61,f61),(62,f62),(63,f63),(64,f64),(65,f65),(66,f66),(67,f67),(68,f68),(69,f69),(70,f70),(71,f71),(72,f72),(73,f73),(74,f74),(75,f75),(76,f76),(77,f77),(78,f78),(79,f79),(80,f80),(81,f81),(82,f82),(83,f83),(84,f84),(85,f85),(86,f86),(87,f87),(88,f88),(89,f89),(90,f90),(91,f91),(92,f92),(93,f93),(94,f94),(95,f95),(96,f96),(97,f97),(98,f98),(99,f99),(100,f100),(101,f101),(102,f102),(103,f103),(104,f104),(105,f105),(106,f106),(107,f107),(108,f108),(109,f109),(110,f110),(111,f111),(112,f112),(113,f113),(114,f114),(115,f115),(116,f116),(117,f117),(118,f118),(119,f119),(120,f120),(121,f121),(122,f122),(123,f123),(124,f124),(125,f125),(126,f126),(127,f127),(128,f128),(129,f129),(130,f130),(131,f131),(132,f132),(133,f133),(134,f134),(135,f135),(136,f136),(137,f137),(138,f138),(139,f139),(140,f140),(141,f141),(142,f142),(143,f143),(144,f144),(145,f145),(146,f146),(147,f147),(148,f148),(149,f149),(150,f150),(151,f151),(152,f152),(153,f153),(154,f154),(155,f155),(156,f156),(157,f157),(158,f158),(159,f159),(160,f160),(161,f161),(162,f162),(163,f163),(164,f164),(165,f165),(166,f166),(167,f167),(168,f168),(169,f169),(170,f170),(171,f171),(172,f172),(173,f173),(174,f174),(175,f175),(176,f176),(177,f177),(178,f178),(179,f179),(180,f180),(181,f181),(182,f182),(183,f183),(184,f184),(185,f185),(186,f186),(187,f187),(188,f188),(189,f189),(190,f190),(191,f191),(192,f192),(193,f193),(194,f194),(195,f195),(196,f196),(197,f197),(198,f198),(199,f199),(200,f200),(201,f201),(202,f202),(203,f203),(204,f204),(205,f205),(206,f206),(207,f207),(208,f208),(209,f209),(210,f210),(211,f211),(212,f212),(213,f213),(214,f214),(215,f215),(216,f216),(217,f217),(218,f218),(219,f219),(220,f220),(221,f221),(222,f222),(223,f223),(224,f224),(225,f225),(226,f226),(227,f227),(228,f228),(229,f229),(230,f230),(231,f231),(232,f232),(233,f233),(234,f234),(235,f235),(236,f236),(237,f237),(238,f238),(239,f239),(240,f240),(241,f241),(242,f242),(243,f243),(244,f244),(245,f245),(246,f246),(247,f247),(248,f248),(249,f249),(250,f250),(251,f251),(252,f252),(253,f253),(254,f254),(255,f255),(256,f256),(257,f257),(258,f258),(262,f262),(263,f263),(264,f264),(265,f265),(266,f266),(267,f267),(268,f268),(269,f269),(270,f270),(271,f271),(272,f272),(273,f273),(274,f274),(275,f275),(276,f276),(277,f277),(278,f278),(279,f279),(280,f280),(281,f281),(282,f282),(283,f283),(284,f284),(285,f285),(286,f286),(287,f287),(288,f288),(289,f289),(290,f290),(291,f291),(292,f292),(293,f293),(294,f294),(295,f295),(296,f296),(297,f297),(298,f298),(299,f299),(300,f300),(301,f301),(302,f302),(303,f303),(304,f304),(305,f305),(306,f306),(307,f307),(308,f308),(309,f309),(310,f310),(311,f311),(312,f312),(313,f313),(314,f314),(315,f315),(316,f316),(317,f317),(318,f318),(319,f319),(320,f320),(321,f321),(325,f325),(326,f326),(327,f327),(328,f328),(329,f329),(330,f330),(331,f331),(332,f332),(333,f333),(334,f334),(335,f335),(336,f336),(337,f337),(338,f338),(339,f339),(340,f340),(341,f341),(342,f342),(343,f343),(344,f344),(345,f345),(346,f346),(347,f347),(348,f348),(349,f349),(350,f350),(351,f351),(352,f352),(353,f353),(354,f354),(355,f355),(356,f356),(357,f357),(358,f358),(359,f359),(360,f360),(361,f361),(362,f362),(363,f363),(364,f364),(365,f365),(366,f366),(367,f367),(370,f370),(371,f371),(372,f372),(373,f373),(374,f374),(375,f375),(376,f376),(377,f377),(378,f378),(379,f379),(391,f391),(392,f392),(393,f393),(394,f394),(395,f395),(396,f396),(397,f397),(398,f398),(399,f399),(400,f400),(401,f401),(402,f402),(403,f403),(404,f404),(405,f405),(406,f406),(407,f407),(408,f408),(409,f409),(410,f410),(411,f411),(412,f412),(413,f413),(414,f414),(415,f415),(416,f416),(417,f417),(418,f418),(419,f419),(420,f420),(424,f424),(425,f425),(427,f427),(428,f428),(429,f429),(436,f436),(437,f437),(438,f438),(439,f439),(440,f440),(441,f441),(442,f442),(443,f443),(444,f444),(445,f445),(446,f446),(447,f447),(448,f448),(449,f449),(451,f451),(452,f452),(453,f453),(454,f454),(455,f455),(456,f456),(457,f457),(458,f458),(459,f459),(460,f460),(463,f463),(465,f465),(466,f466),(467,f467),(468,f468),(469,f469),(470,f470),(471,f471),(472,f472)]
theorem aka:Fi Tryz.prog Kx:=by
 unfold Kx;repeat refine⟨by constructor<;>kernel_rfl,?_⟩
 exact trivial
theorem YE:Fc Tryz.prog Gt:=by
 unfold Gt;repeat refine⟨⟨by kernel_rfl,by kernel_rfl⟩,?_⟩
 exact trivial
theorem aj':Ak Kx=Kw:=by kernel_rfl
theorem Ys:Ak Gt=Gs:=by kernel_rfl
theorem Mu(fs:List Fact)(σ:Nat->Int)(h:∀f,f∈fs->f.ok Tryz.prog σ) :cX Tryz.prog (env fs) σ where
 fn:=λf fn aB=>by have e:bj.get Gs f=some fn:=aB;rw[<-Ys,GA Cg (λ_=>rfl) (λ_ _ _ _=>rfl)]at e;exact MU YE f fn e
 ty:=λt i aN=>by have e:bj.get Kw t=some i:=aN;rw[<-aj',GA EM (λ_=>rfl) (λ_ _ _ _=>rfl)]at e;exact Ur aka t i e
 facts:=h
 mixed:=by kernel_rfl
end
end Go.Proofs.YtkdjcmpgnkecfaaGreatDoor
namespace Go.Proofs
open Go.Shelf
def Tryz.acR:Go.Shelf.Ren:=⟨λ|217=>425|266=>462|n=>n,λ|9=>9|5=>5|3=>3|n=>n,λ|n=>n⟩
theorem Tryz.acQ:Go.Proofs.Lays.n217 Tryz.prog Tryz.acR:={
 mixed:=by kernel_rfl
 f217:=Tryz.func425.trans (congrArg some (by kernel_rfl))
 f266:=Tryz.func462.trans (congrArg some (by kernel_rfl))
 t3:=Tryz.underlying3
 a3:=Tryz.isAgg3
 z3:=Tryz.sizeOf3
 v3:=Tryz.zeroValue3
 t5:=Tryz.underlying5
 a5:=Tryz.isAgg5
 z5:=Tryz.sizeOf5
 v5:=Tryz.zeroValue5
 t9:=Tryz.underlying9
 a9:=Tryz.isAgg9
 z9:=Tryz.sizeOf9
 v9:=Tryz.zeroValue9}
open Go.RowKit Go.Lib in
theorem Tryz.stringslite_IndexByte(s:ByteArray)(c:Int)(w:World) :
 Calls Tryz.prog 425 #[.string s,.int .u8 c] w λe aM=>e=.returned (.int .i64 (Lib.indexByte s.data.toList c.toNat.toUInt8))/\aM=w:=Any.stringslite_IndexByte Tryz.acQ s c w
def Tryz.OU:Go.Shelf.Ren:=⟨λ|105=>296|212=>368|99=>369|165=>370|166=>337|170=>339|169=>340|263=>421|264=>422|206=>423|240=>406|241=>424|276=>450|277=>461|n=>n,λ|9=>9|3=>3|4=>4|20=>20|0=>0|46=>410|109=>469|5=>5|72=>440|76=>443|51=>475|146=>505|53=>67|148=>507|70=>438|37=>135|75=>442|127=>492|164=>524|80=>262|n=>n,λ|n=>n⟩
theorem Tryz.acP:Go.Proofs.Lays.n105 Tryz.prog Tryz.OU:={
 mixed:=by kernel_rfl
 f99:=Tryz.func369.trans (congrArg some (by kernel_rfl))
 f105:=Tryz.func296.trans (congrArg some (by kernel_rfl))
 f165:=Tryz.func370.trans (congrArg some (by kernel_rfl))
 f166:=Tryz.func337.trans (congrArg some (by kernel_rfl))
 f169:=Tryz.func340.trans (congrArg some (by kernel_rfl))
 f170:=Tryz.func339.trans (congrArg some (by kernel_rfl))
 f206:=Tryz.func423.trans (congrArg some (by kernel_rfl))
 f212:=Tryz.func368.trans (congrArg some (by kernel_rfl))
 f240:=Tryz.func406.trans (congrArg some (by kernel_rfl))
 f241:=Tryz.func424.trans (congrArg some (by kernel_rfl))
 f263:=Tryz.func421.trans (congrArg some (by kernel_rfl))
 f264:=Tryz.func422.trans (congrArg some (by kernel_rfl))
 f276:=Tryz.func450.trans (congrArg some (by kernel_rfl))
 f277:=Tryz.func461.trans (congrArg some (by kernel_rfl))
 t0:=Tryz.underlying0
 a0:=Tryz.isAgg0
 z0:=Tryz.sizeOf0
 v0:=Tryz.zeroValue0
 t3:=Tryz.underlying3
 a3:=Tryz.isAgg3
 z3:=Tryz.sizeOf3
 v3:=Tryz.zeroValue3
 t4:=Tryz.underlying4
 a4:=Tryz.isAgg4
 z4:=Tryz.sizeOf4
 v4:=Tryz.zeroValue4
 t5:=Tryz.underlying5
 a5:=Tryz.isAgg5
 z5:=Tryz.sizeOf5
 v5:=Tryz.zeroValue5
 t9:=Tryz.underlying9
 a9:=Tryz.isAgg9
 z9:=Tryz.sizeOf9
 v9:=Tryz.zeroValue9
 t20:=Tryz.underlying20
 a20:=Tryz.isAgg20
 z20:=Tryz.sizeOf20
 v20:=Tryz.zeroValue20
 t37:=Tryz.underlying135
 a37:=Tryz.isAgg135
 z37:=Tryz.sizeOf135
 v37:=Tryz.zeroValue135
 t46:=Tryz.underlying410
 a46:=Tryz.isAgg410
 z46:=Tryz.sizeOf410
 v46:=Tryz.zeroValue410
 t51:=Tryz.underlying475
 a51:=Tryz.isAgg475
 z51:=Tryz.sizeOf475
 v51:=Tryz.zeroValue475
 t53:=Tryz.underlying67
 a53:=Tryz.isAgg67
 z53:=Tryz.sizeOf67
 v53:=Tryz.zeroValue67
 t70:=Tryz.underlying438
 a70:=Tryz.isAgg438
 z70:=Tryz.sizeOf438
 v70:=Tryz.zeroValue438
 t72:=Tryz.underlying440
 a72:=Tryz.isAgg440
 z72:=Tryz.sizeOf440
 v72:=Tryz.zeroValue440
 t75:=Tryz.underlying442
 a75:=Tryz.isAgg442
 z75:=Tryz.sizeOf442
 v75:=Tryz.zeroValue442
 t76:=Tryz.underlying443
 a76:=Tryz.isAgg443
 z76:=Tryz.sizeOf443
 v76:=Tryz.zeroValue443
 t109:=Tryz.underlying469
 a109:=Tryz.isAgg469
 z109:=Tryz.sizeOf469
 v109:=Tryz.zeroValue469
 t127:=Tryz.underlying492
 a127:=Tryz.isAgg492
 z127:=Tryz.sizeOf492
 v127:=Tryz.zeroValue492
 t146:=Tryz.underlying505
 a146:=Tryz.isAgg505
 z146:=Tryz.sizeOf505
 v146:=Tryz.zeroValue505
 t148:=Tryz.underlying507
 a148:=Tryz.isAgg507
 z148:=Tryz.sizeOf507
 v148:=Tryz.zeroValue507
 t164:=Tryz.underlying524
 a164:=Tryz.isAgg524
 z164:=Tryz.sizeOf524
 v164:=Tryz.zeroValue524}
theorem Tryz.U9:Builder.Extra Tryz.prog Tryz.OU:={
 sizeBuilder:=by kernel_rfl
 liesBuilder:=by kernel_rfl
 t5:=Tryz.underlying5
 a5:=Tryz.isAgg5
 z5:=Tryz.sizeOf5
 v5:=Tryz.zeroValue5
 infoByte:=by kernel_rfl
 cellsByte:=by kernel_rfl
 sizeByte:=by kernel_rfl
 neB5:=by decide}
open Go.RowKit Go.Lib in
open Go.RowKit Go.Lib in
open Go.RowKit Go.Lib in
open Go.RowKit Go.Lib in
open Go.RowKit Go.Lib in
open Go.RowKit Go.Lib in
open Go.RowKit Go.Lib in
theorem Tryz.strings_Repeat(s:ByteArray)(c:Nat)(w:World)(aA:c<=9223372036854775807)(hlen:s.size*c<=140737488355328) :
 Calls Tryz.prog 296 #[.string s,.int .i64 c] w λe aM=>e=.returned (.string ⟨(Lib.repeatL s.data.toList c).toArray⟩)/\Below w.heap.size w aM:=Any.strings_Repeat Tryz.acP Tryz.U9 s c w aA hlen
def Tryz.OK:Go.Shelf.Ren:=⟨λ|7=>173|10=>261|n=>n,λ|23=>263|26=>3|3=>63|28=>302|0=>0|27=>301|33=>128|4=>4|n=>n,λ|n=>n⟩
theorem Tryz.OJ:Go.Proofs.SlLaysZI.n7 Tryz.prog Tryz.OK:={
 mixed:=by kernel_rfl
 f7:=⟨Tryz.f173.name,by decide,Tryz.func173.trans (congrArg some (by kernel_rfl))⟩
 f10:=⟨Tryz.f261.name,by decide,Tryz.func261.trans (congrArg some (by kernel_rfl))⟩
 t0:=Tryz.underlying0
 a0:=Tryz.isAgg0
 z0:=Tryz.sizeOf0
 v0:=Tryz.zeroValue0
 t4:=Tryz.underlying4
 a4:=Tryz.isAgg4
 z4:=Tryz.sizeOf4
 v4:=Tryz.zeroValue4
 t23:=Tryz.underlying263
 a23:=Tryz.isAgg263
 z23:=Tryz.sizeOf263
 v23:=Tryz.zeroValue263
 t26:=Tryz.underlying3
 a26:=Tryz.isAgg3
 z26:=Tryz.sizeOf3
 v26:=Tryz.zeroValue3
 t27:=Tryz.underlying301
 a27:=Tryz.isAgg301
 z27:=Tryz.sizeOf301
 v27:=Tryz.zeroValue301
 t28:=Tryz.underlying302
 a28:=Tryz.isAgg302
 z28:=Tryz.sizeOf302
 v28:=Tryz.zeroValue302
 t33:=Tryz.underlying128
 a33:=Tryz.isAgg128
 z33:=Tryz.sizeOf128
 v33:=Tryz.zeroValue128}
def Tryz.RG:Go.Shelf.Ren:=⟨λ|6=>172|8=>259|9=>260|11=>322|13=>324|12=>323|23=>389|24=>390|14=>380|15=>381|16=>382|17=>383|18=>384|19=>385|20=>386|21=>387|22=>388|25=>430|26=>431|27=>432|28=>433|29=>434|30=>435|31=>464|n=>n,λ|26=>3|28=>302|24=>64|0=>0|3=>3|37=>410|48=>475|50=>67|4=>4|40=>479|39=>478|45=>183|5=>5|9=>9|51=>510|55=>494|57=>533|58=>446|33=>128|n=>n,λ|n=>n⟩
theorem Tryz.aiy:Go.Proofs.SlLaysZI.n6 Tryz.prog Tryz.RG:={
 mixed:=by kernel_rfl
 f6:=⟨Tryz.f172.name,by decide,Tryz.func172.trans (congrArg some (by kernel_rfl))⟩
 f8:=⟨Tryz.f259.name,by decide,Tryz.func259.trans (congrArg some (by kernel_rfl))⟩
 f11:=⟨Tryz.f322.name,by decide,Tryz.func322.trans (congrArg some (by kernel_rfl))⟩
 t0:=Tryz.underlying0
 a0:=Tryz.isAgg0
 z0:=Tryz.sizeOf0
 v0:=Tryz.zeroValue0
 t24:=Tryz.underlying64
 a24:=Tryz.isAgg64
 z24:=Tryz.sizeOf64
 v24:=Tryz.zeroValue64
 t26:=Tryz.underlying3
 a26:=Tryz.isAgg3
 z26:=Tryz.sizeOf3
 v26:=Tryz.zeroValue3
 t28:=Tryz.underlying302
 a28:=Tryz.isAgg302
 z28:=Tryz.sizeOf302
 v28:=Tryz.zeroValue302
 i26:=by kernel_rfl}
def Tryz.aix:Go.Shelf.Ren:=⟨λ|5=>260|8=>324|7=>323|19=>389|20=>390|10=>380|11=>381|12=>382|13=>383|14=>384|15=>385|16=>386|17=>387|18=>388|30=>430|31=>431|32=>432|33=>433|34=>434|35=>435|40=>464|n=>n,λ|23=>64|25=>3|3=>3|32=>410|22=>64|0=>0|44=>475|46=>67|4=>4|36=>479|35=>478|41=>183|5=>5|9=>9|53=>510|57=>494|63=>533|64=>446|n=>n,λ|n=>n⟩
theorem Tryz.RE:Go.Proofs.SlLaysM.n5 Tryz.prog Tryz.aix:={
 mixed:=by kernel_rfl
 f5:=⟨Tryz.f260.name,by decide,Tryz.func260.trans (congrArg some (by kernel_rfl))⟩
 f7:=⟨Tryz.f323.name,by decide,Tryz.func323.trans (congrArg some (by kernel_rfl))⟩
 f8:=Tryz.func324.trans (congrArg some (by kernel_rfl))
 f10:=⟨Tryz.f380.name,by decide,Tryz.func380.trans (congrArg some (by kernel_rfl))⟩
 f11:=⟨Tryz.f381.name,by decide,Tryz.func381.trans (congrArg some (by kernel_rfl))⟩
 f12:=⟨Tryz.f382.name,by decide,Tryz.func382.trans (congrArg some (by kernel_rfl))⟩
 f13:=⟨Tryz.f383.name,by decide,Tryz.func383.trans (congrArg some (by kernel_rfl))⟩
 f14:=⟨Tryz.f384.name,by decide,Tryz.func384.trans (congrArg some (by kernel_rfl))⟩
 f15:=⟨Tryz.f385.name,by decide,Tryz.func385.trans (congrArg some (by kernel_rfl))⟩
 f16:=⟨Tryz.f386.name,by decide,Tryz.func386.trans (congrArg some (by kernel_rfl))⟩
 f17:=⟨Tryz.f387.name,by decide,Tryz.func387.trans (congrArg some (by kernel_rfl))⟩
 f18:=⟨Tryz.f388.name,by decide,Tryz.func388.trans (congrArg some (by kernel_rfl))⟩
 f19:=Tryz.func389.trans (congrArg some (by kernel_rfl))
 f20:=Tryz.func390.trans (congrArg some (by kernel_rfl))
 f30:=⟨Tryz.f430.name,by decide,Tryz.func430.trans (congrArg some (by kernel_rfl))⟩
 f31:=Tryz.func431.trans (congrArg some (by kernel_rfl))
 f32:=Tryz.func432.trans (congrArg some (by kernel_rfl))
 f33:=⟨Tryz.f433.name,by decide,Tryz.func433.trans (congrArg some (by kernel_rfl))⟩
 f34:=⟨Tryz.f434.name,by decide,Tryz.func434.trans (congrArg some (by kernel_rfl))⟩
 f35:=⟨Tryz.f435.name,by decide,Tryz.func435.trans (congrArg some (by kernel_rfl))⟩
 f40:=⟨Tryz.f464.name,by decide,Tryz.func464.trans (congrArg some (by kernel_rfl))⟩
 t0:=Tryz.underlying0
 a0:=Tryz.isAgg0
 z0:=Tryz.sizeOf0
 v0:=Tryz.zeroValue0
 t3:=Tryz.underlying3
 a3:=Tryz.isAgg3
 z3:=Tryz.sizeOf3
 v3:=Tryz.zeroValue3
 t4:=Tryz.underlying4
 a4:=Tryz.isAgg4
 z4:=Tryz.sizeOf4
 v4:=Tryz.zeroValue4
 t5:=Tryz.underlying5
 a5:=Tryz.isAgg5
 z5:=Tryz.sizeOf5
 v5:=Tryz.zeroValue5
 t9:=Tryz.underlying9
 a9:=Tryz.isAgg9
 z9:=Tryz.sizeOf9
 v9:=Tryz.zeroValue9
 t22:=Tryz.underlying64
 a22:=Tryz.isAgg64
 z22:=Tryz.sizeOf64
 v22:=Tryz.zeroValue64
 t23:=Tryz.underlying64
 a23:=Tryz.isAgg64
 z23:=Tryz.sizeOf64
 v23:=Tryz.zeroValue64
 t25:=Tryz.underlying3
 a25:=Tryz.isAgg3
 z25:=Tryz.sizeOf3
 v25:=Tryz.zeroValue3
 t32:=Tryz.underlying410
 a32:=Tryz.isAgg410
 z32:=Tryz.sizeOf410
 v32:=Tryz.zeroValue410
 t35:=Tryz.underlying478
 a35:=Tryz.isAgg478
 z35:=Tryz.sizeOf478
 v35:=Tryz.zeroValue478
 t36:=Tryz.underlying479
 a36:=Tryz.isAgg479
 z36:=Tryz.sizeOf479
 v36:=Tryz.zeroValue479
 t41:=Tryz.underlying183
 a41:=Tryz.isAgg183
 z41:=Tryz.sizeOf183
 v41:=Tryz.zeroValue183
 t44:=Tryz.underlying475
 a44:=Tryz.isAgg475
 z44:=Tryz.sizeOf475
 v44:=Tryz.zeroValue475
 t46:=Tryz.underlying67
 a46:=Tryz.isAgg67
 z46:=Tryz.sizeOf67
 v46:=Tryz.zeroValue67
 t53:=Tryz.underlying510
 a53:=Tryz.isAgg510
 z53:=Tryz.sizeOf510
 v53:=Tryz.zeroValue510
 t57:=Tryz.underlying494
 a57:=Tryz.isAgg494
 z57:=Tryz.sizeOf494
 v57:=Tryz.zeroValue494
 t63:=Tryz.underlying533
 a63:=Tryz.isAgg533
 z63:=Tryz.sizeOf533
 v63:=Tryz.zeroValue533
 t64:=Tryz.underlying446
 a64:=Tryz.isAgg446
 z64:=Tryz.sizeOf446
 v64:=Tryz.zeroValue446}
end Go.Proofs
namespace Go.Proofs.YtkdjcmpgnkecfaaGreatDoor
open Go.a6 Go.RowKit Go.Shelf Go.Maps
theorem MM(n c:Nat)(aA:c<256) :∀(k i:Nat),w' n c k i=if Lib.indexByte (bytesOf k (n/256^i)) (UInt8.ofNat c)= -1 then-1 else Lib.indexByte (bytesOf k (n/256^i)) (UInt8.ofNat c) +i
 |0,i=>by simp[w',bytesOf,Lib.indexByte]
 |k+1,i=>by
  have aw:n/256^i%256=cC n i:=by rw[hP,show 2^(8*i)=256^i by rw[Nat.pow_mul]]
  have aL:n/256^i/256=n/256^(i+1):=by rw[Nat.div_div_eq_div_mul,Nat.pow_succ]
  have bo:(UInt8.ofNat (cC n i) ==UInt8.ofNat c)=Nat.beq (cC n i) c:=by
   rw[Bool.eq_iff_iff,a6.beq_true,beq_iff_eq];constructor
   ·intro h;have:=congrArg UInt8.toNat h;simpa [Nat.mod_eq_of_lt (nJ n i),Nat.mod_eq_of_lt aA]using this
   ·intro h;rw[h]
  unfold w' bytesOf Lib.indexByte;rw[aw,aL,bo,MM n c aA k (i+1)];have qD:=Lib.indexByte_ge (bytesOf k (n/256^(i+1))) (UInt8.ofNat c);cases Nat.beq (cC n i) c with
  |true=>simp
  |false=>
   simp only[cond_false,Bool.false_eq_true,if_false,beq_iff_eq];by_cases h:Lib.indexByte (bytesOf k (n/256^(i+1))) (UInt8.ofNat c)= -1
   ·simp[h]
   ·rw[if_neg h,if_neg h,if_neg (by omega)];omega
theorem Yw:Tryz.f425.body=some (Tryz.f425.body.getD .skip):=by kernel_rfl
theorem YB(fs:List Fact) :(env fs).fn 425=some Tryz.f425:=by kernel_rfl
theorem ab_{fs:List Fact}{σ:Nat->Int}(ok:cX Tryz.prog (env fs) σ) :wL Tryz.prog (env fs) σ 425 HE:=by
 intro args h v bg he μ w us aE rel hu;unfold HE at he;split at he
 ·rename_i l n c;replace he:=c' he;obtain⟨aA,he⟩:=he;have aA:=c4.1 aA;cases he;obtain⟨aW,cg,aw,⟨al,au⟩,a_,cK,aL,aa,bo⟩:=hu
  have a7:us= #[.string ⟨(bytesOf l n).toArray⟩,.int .u8 (.ofNat c)]:=by apply Array.ext';rw[aw,aL,bo,au,aa]
  subst a7;refine FN ok (YB fs) Yw rel ((Tryz.stringslite_IndexByte _ _ w).mono λe aM ⟨h1,aa⟩=>⟨_,h1,?_,by subst aa;exact Below.refl _ _⟩);have:=MM n c aA l 0;simp only[Nat.pow_zero,Nat.div_one,Int.natCast_zero,Int.add_zero,Int.ofNat_eq_natCast]at this;show Value.int .i64 _=.int .i64 (w' n c l 0);rw[this];congr 1;have e:(Int.ofNat c).toNat.toUInt8=UInt8.ofNat c:=rfl;rw[e];split<;>simp_all
 ·cases he
theorem QY(l n:Nat)(al:n<2^(8*l)) :∀k,sG l n k<2^(8*(l*k))
 |0=>by show(0:Nat) <_;exact Nat.two_pow_pos _
 |k+1=>by have bI:=QY l n al k;show n+sG l n k<<< (8*l) <_;rw[Nat.shiftLeft_eq,Nat.mul_succ,Nat.mul_add,Nat.pow_add];have:(sG l n k+1) *2^(8*l)<=2^(8*(l*k)) *2^(8*l):=Nat.mul_le_mul_right _ bI;rw[Nat.add_mul,Nat.one_mul]at this;omega
theorem QX(l n:Nat)(al:n<2^(8*l)) :∀k,bytesOf (l*k) (sG l n k)=Lib.repeatL (bytesOf l n) k
 |0=>rfl
 |k+1=>by show bytesOf (l*(k+1)) (n+sG l n k<<< (8*l))=_;rw[Nat.mul_succ,Nat.add_comm,LQ _ _ _ _ al,QX l n al k];rfl
theorem Yv:Tryz.f296.body=some (Tryz.f296.body.getD .skip):=by kernel_rfl
theorem YA(fs:List Fact) :(env fs).fn 296=some Tryz.f296:=by kernel_rfl
theorem ahK{fs:List Fact}{σ:Nat->Int}(ok:cX Tryz.prog (env fs) σ) :wL Tryz.prog (env fs) σ 296 DX:=by
 intro args h v bg he μ w us aE rel hu;unfold DX at he;split at he
 ·rename_i l n k;replace he:=c' he;obtain⟨af,he⟩:=he;simp only[Bool.and_eq_true]at af;have ar:=dr.1 af.1;have aj:=dr.1 af.2;cases he;obtain⟨aW,cg,aw,⟨al,au⟩,a_,cK,aL,aa,bo⟩:=hu
  have a7:us= #[.string ⟨(bytesOf l n).toArray⟩,.int .i64 (k:Nat)]:=by apply Array.ext';rw[aw,aL,bo,au,aa];rfl
  subst a7
  have ev:(⟨(bytesOf l n).toArray⟩ :ByteArray).size=l:=by show(bytesOf l n).toArray.size=l;simp[ma]
  refine FN ok (YA fs) Yv rel ((Tryz.strings_Repeat ⟨(bytesOf l n).toArray⟩ k w aj (by rw[ev];exact ar)).mono λe aM ⟨h1,aa⟩=>⟨_,h1,?_,aa⟩);refine⟨QY l n al k,?_⟩;rw[QX l n al k]
 ·cases he
theorem Oy{f:FuncId}{fn:Func}{fs:List Fact}{σ:Nat->Int}(ok:cX Tryz.prog (env fs) σ)(aB:(env fs).fn f=some fn)(af:fn.body=some (fn.body.getD .skip))(us:Array Value)(w:World) :
 (inv (.func (.func f) #[] #[]) us).run Tryz.prog w=.ok (.enter f us) w:=HK ok aB af us w
theorem Yu:Tryz.f173.body=some (Tryz.f173.body.getD .skip):=by kernel_rfl
theorem Yz(fs:List Fact) :(env fs).fn 173=some Tryz.f173:=by kernel_rfl
theorem acE(Ir:Option Nat)(w:World) :Calls Tryz.prog 173 #[.map Ir] w λe aM=>e=.returned (.func (.func 261) #[] #[.pointer (some ⟨w.heap.size,0,none⟩)])/\aM=w.alloc (.cells #[.map Ir] 263):=
 callsIn_wide.1 (AnyZI.keys_in Tryz.OJ Fence.wide 5 trivial rfl Ir w)
theorem acD{fs:List Fact}{σ:Nat->Int}(ok:cX Tryz.prog (env fs) σ) :wL Tryz.prog (env fs) σ 173 H0:=by
 intro args h v bg he μ w us aE rel hu;unfold H0 at he;split at he
 ·rename_i id;cases he;obtain⟨aW,cg,aw,⟨loc,hm,au⟩,bo⟩:=hu
  have a7:us= #[.map (some loc.b)]:=by apply Array.ext';rw[aw,bo,au]
  subst a7;refine .inl ⟨173,_,Oy ok (Yz fs) Yu _ w,λcs=> ?_⟩;obtain⟨e,aM,fr,⟨rfl,rfl⟩,h1,aa,av⟩:=acE (some loc.b) w cs;have cE:id≠h.next:=λe=>by rw[e,rel.gv h.next (Nat.le_refl _)]at hm;cases hm
  have hU:(μ.aq h.next ⟨w.heap.size,0,1⟩) id=some loc:=by rw[Map.jb _ _ cE];exact hm
  have Iy:=rel.new (x:=.cells #[.map (some loc.b)] 263) (o:=.ro 1 (.node .nil (some (.map id)) .nil)) (room:=1)
   ⟨λ_ _=>rfl, #[.map (some loc.b)],263,(0,0),rfl,λi U=>by
    have:i=0:=by omega
    subst this
    exact⟨.map id,.map (some loc.b),rfl,rfl,loc,hU,rfl⟩⟩
  refine⟨fr,_,_,μ.aq h.next ⟨w.heap.size,0,1⟩,h1,aa,av,⟨rfl,rfl,rfl⟩,Iy,?_⟩;exact⟨#[], #[.pointer (some ⟨w.heap.size,0,none⟩)],rfl,rfl,_,_,rfl,⟨⟨w.heap.size,0,1⟩,Map.hb _ _ _,rfl⟩,rfl⟩
 ·cases he
theorem HG(n:Int) :∀l:List Int,(xJ n l).Perm (n::l)
 |[]=>List.Perm.refl _
 |m::l=>by
  unfold xJ;cases Go.a6.n_ n m with
  |true=>exact List.Perm.refl _
  |false=>exact((HG n l).cons m).trans (List.Perm.swap n m l)
theorem Ed:∀l:List Int,(p0 l).Perm l
 |[]=>List.Perm.refl _
 |n::l=>(HG n (p0 l)).trans ((Ed l).cons n)
theorem Oo(n:Int) :∀l:List Int,l.Pairwise (·<= ·)->(xJ n l).Pairwise (·<= ·)
 |[],_=>List.pairwise_singleton _ _
 |m::l,h=>by
  unfold xJ;have hm:=List.pairwise_cons.1 h;cases e:Go.a6.n_ n m with
  |true=>
   rw[tU,decide_eq_true_eq]at e;refine List.pairwise_cons.2 ⟨λx ab=> ?_,h⟩;rcases List.mem_cons.1 ab with rfl|ab
   ·exact e
   ·exact Int.le_trans e (hm.1 x ab)
  |false=>
   rw[tU,decide_eq_false_iff_not]at e;refine List.pairwise_cons.2 ⟨λx ab=> ?_,Oo n l hm.2⟩;rcases List.mem_cons.1 ((HG n l).mem_iff.1 ab)with rfl|ab
   ·omega
   ·exact hm.1 x ab
theorem RF:∀l:List Int,(p0 l).Pairwise (·<= ·)
 |[]=>List.Pairwise.nil
 |n::l=>Oo n _ (RF l)
theorem Q3:∀l:List Int,AF l=true->l.Pairwise (· < ·)
 |[],_=>List.Pairwise.nil
 |[a],_=>List.pairwise_singleton _ _
 |a::b::l,h=>by
  simp only[AF,Bool.and_eq_true]at h;have bI:=Q3 (b::l) h.2;have ix:a<b:=by have:=h.1;rw[oa,decide_eq_true_eq]at this;exact this
  refine List.pairwise_cons.2 ⟨λx ab=> ?_,bI⟩;rcases List.mem_cons.1 ab with rfl|ab
  ·exact ix
  ·exact Int.lt_trans ix ((List.pairwise_cons.1 bI).1 x ab)
theorem insert_perm{H:Type}(x:Lit×DataW H) :∀l:List (Lit×DataW H),(DataW.insert x l).Perm (x::l)
 |[]=>List.Perm.refl _
 |y::l=>by
  unfold DataW.insert;split
  ·exact List.Perm.refl _
  ·exact((insert_perm x l).cons y).trans (List.Perm.swap x y l)
theorem Gu{H:Type} :∀l:List (Lit×DataW H),(l.foldr DataW.insert []).Perm l
 |[]=>List.Perm.refl _
 |x::l=>(insert_perm x _).trans ((Gu l).cons x)
def ud:Value->Option (DataW Unit×List MemPlace):=λ_=>some (.nil,[])
theorem akg:Tryz.prog.underlying 3=some (.int .i64):=Tryz.underlying3
theorem OL{σ:Nat->Int}{μ:a6.Map} :∀{es:List (J×J×Nat)} {cj:List MapEntry} {f':List Int},fX σ μ es cj->Ae es=some f'->
  cj.map (·.key)=f'.map (Value.int .i64)/\∀n,n∈f'->(Lit.int .i64 n).wf=true
 |[],cj,f',he,aj=>by cases aj;rw[show cj=[]from he];exact⟨rfl,λn h=>by cases h⟩
 |(k,v,b)::es,cj,f',he,aj=>by
  obtain⟨e,r,aw,h1,aa,av,aO⟩:=he;simp only[Ae]at aj;split at aj
  ·rename_i n l ar;replace aj:=c' aj;obtain⟨af,aj⟩:=aj;cases aj;obtain⟨g1,g2⟩:=OL aO ar;subst aw;have vg:e.key=.int .i64 n:=h1;refine⟨by simp[vg,g1],λm hm=> ?_⟩;rcases List.mem_cons.1 hm with rfl|hm
   ·simp only[Bool.and_eq_true,tU,decide_eq_true_eq]at af;simp only[Lit.wf,Bool.and_eq_true,decide_eq_true_eq];exact⟨af.1,af.2⟩
   ·exact g2 m hm
  ·cases aj
theorem RU{σ:Nat->Int}{μ:a6.Map} :∀{es:List (J×J×Nat)} {cj:List MapEntry} {lo clock:Nat},fX σ μ es cj->nr es lo clock=true->
  (∀x,x∈cj->lo<=x.born/\x.born<clock)/\(cj.map (·.born)).Nodup
 |[],cj,lo,clock,he,au=>by rw[show cj=[]from he];exact⟨(λx h=>by cases h),List.nodup_nil⟩
 |(k,v,b)::es,cj,lo,clock,he,au=>by
  obtain⟨e,r,aw,h1,aa,av,aO⟩:=he;simp only[nr,Bool.and_eq_true]at au;obtain⟨⟨s1,s2⟩,du⟩:=au;have s1:=dr.1 s1;have s2:=c4.1 s2;obtain⟨g1,g2⟩:=RU aO du;subst aw;refine⟨λx ab=> ?_,?_⟩
  ·rcases List.mem_cons.1 ab with rfl|ab
   ·rw[av];exact⟨s1,s2⟩
   ·have:=g1 x ab;omega
  ·rw[List.map_cons,List.nodup_cons];refine⟨λhm=> ?_,g2⟩;obtain⟨x,ab,ex⟩:=List.mem_map.1 hm;have:=g1 x ab;omega
theorem agC{σ:Nat->Int}{μ:a6.Map}{w:World}{b:Nat}{es:List (J×J×Nat)}{cj:Array MapEntry}{clock:Nat}{f':List Int}(af:w.heap[b]? =some (.map cj clock))(he:fX σ μ es cj.toList)(aj:Ae es=some f')
  (au:nr es 0 clock=true) (ah:AF (p0 f')=true) (ar:es.length<=16777216) :
  ∃D:DataW Unit,w.ownsMap Tryz.prog 3 ud b es.length D/\(intKeys D).Perm f'/\Maps.size D=es.length:=by
 obtain⟨g1,g2⟩:=OL he aj;obtain⟨s1,s2⟩:=RU he au
 have hlen:∀{es:List (J×J×Nat)} {cj:List MapEntry},fX σ μ es cj->cj.length=es.length:=by
  intro es;induction es with
  |nil=>intro cj h;rw[show cj=[]from h];rfl
  |cons p es bI=>
   intro cj h;obtain⟨k,v,b⟩:=p;obtain⟨e,r,aw,_,_,_,aO⟩:=h;rw[aw,List.length_cons,bI aO,List.length_cons]
 have ev:cj.size=es.length:=by rw[<-Array.length_toList];exact hlen he
 have cL:f'.Nodup:=by
  have h1:=Q3 _ ah;have aa:(p0 f').Nodup:=h1.imp λh=>Int.ne_of_lt h
  exact(Ed f').nodup_iff.1 aa
 have QO:∀x,x∈cj.toList->∃n,x.key=.int .i64 n/\Go.WideElems.rd Tryz.prog 3 ud x=some (.int .i64 n,.nil):=by
  intro x ab;have hm:x.key∈cj.toList.map (·.key):=List.mem_map.2 ⟨x,ab,rfl⟩;rw[g1]at hm;obtain⟨n,al,e⟩:=List.mem_map.1 hm;refine⟨n,e.symm,?_⟩
  have hj:keyOf Tryz.prog 3 x.key=some (.int .i64 n):=by rw[<-e];simp only[keyOf,akg,mapKey,g2 n al,and_self,if_true]
  unfold Go.WideElems.rd;rw[hj];rfl
 have fit:Go.WideElems.Fit Tryz.prog 3 ud cj clock:=
  {size:=by rw[ev];unfold maxLen;omega
   stamped:=⟨λx ab=>(s1 x ab).2,s2,by rw[g1];exact List.pairwise_map.2 (List.Pairwise.imp (λh e=>h (by cases e;rfl)) cL)⟩
   reads:=λx ab=>let⟨n,_,h⟩:=QO x ab;⟨_,h⟩}
 refine⟨_,⟨cj,clock,af,fit,by omega,rfl⟩,?_,?_⟩
 ·show(((cj.toList.map (Go.WideElems.rg Tryz.prog 3 ud)).foldr DataW.insert []).map λp=>Go.intOf p.1).Perm f';refine((Gu _).map _).trans ?_
  have:∀l:List MapEntry,(∀x,x∈l->∃n,x.key=.int .i64 n/\Go.WideElems.rd Tryz.prog 3 ud x=some (.int .i64 n,.nil))->
    ((l.map (Go.WideElems.rg Tryz.prog 3 ud)).map λp=>Go.intOf p.1).map (Value.int .i64)=l.map (·.key):=by
   intro l;induction l with
   |nil=>intro _;rfl
   |cons x l bI=>
    intro h;obtain⟨n,aw,aL⟩:=h x List.mem_cons_self;simp only[List.map_cons,bI λy an=>h y (List.mem_cons_of_mem _ an),Go.WideElems.rg_of aL,aw];rfl
  have h1:=this cj.toList QO;rw[g1]at h1;have aa:=List.map_inj_right (f:=Value.int .i64) (λa b h=>by cases h;rfl) |>.1 h1;rw[aa]
 ·show((cj.toList.map (Go.WideElems.rg Tryz.prog 3 ud)).foldr DataW.insert []).length=es.length;rw[(Gu _).length_eq,List.length_map,Array.length_toList,ev]
theorem aiB(m:Nat) :AnyZI.SortsIn Tryz.prog Tryz.RG Fence.wide m:=
 ⟨λjY off cap mP W Y' GM ev=>callsIn_wide.2 (AnyM.slices_Sort_int Tryz.RE jY off cap mP W Y' GM ev),
  λp cap W=>callsIn_wide.2 (AnyM.slices_Sort_int_none Tryz.RE p cap W)⟩
theorem aiz{w:World}{wI b nn:Nat}{D:DataW Unit}(Y_:wI<w.heap.size)(hm:w.cell? ⟨wI,0,none⟩=some (.map (some b)))(qH:w.ownsMap Tryz.prog 3 ud b nn D)(NK:Maps.size D<=maxLen)(ZB:Maps.size D*8<=140737488355328) :
  Calls Tryz.prog 172 #[.func (.func 261) #[] #[.pointer (some ⟨wI,0,none⟩)]] w λe aM=>∃(v:Value) (mP:List Int),e=.returned v/\mP.Perm (intKeys D)/\
   aM.ownsRow w.heap.size 3 1 v mP.length ((mP.mergeSort (λx y=>decide (x<=y))).map encZ)/\(v=.slice none 0 0↔mP=[])/\Below w.heap.size w aM:=by
 have abm:SeqGives Fence.wide 2 Tryz.prog 261 #[.pointer (some ⟨wI,0,none⟩)] encZ (λmP=>mP.Perm (intKeys D)) (Maps.size D) w:=
  AnyZI.keys_gives (ρ:=Tryz.OK) {Tryz.OJ with} Fence.wide _ trivial rfl (by omega) wI b nn D w Y_ hm qH
 have yU:=AnyZI.sorted_in Tryz.aiy Fence.wide 5 trivial trivial trivial trivial rfl (by omega) (aiB _) (enters_of Tryz.func260 (by kernel_rfl) rfl) 261 #[.pointer (some ⟨wI,0,none⟩)] trivial (enters_of Tryz.func261 (by kernel_rfl) rfl) _ _ NK ZB _ abm;exact callsIn_wide.1 yU
theorem Vu{σ:Nat->Int}{μ:a6.Map}{h:ag}{H jv:Array Obj}{g room:Nat}{o:bp}(rel:c_ σ μ h H)(hA:∀k,k<H.size->jv[k]? =H[k]?)(ev:H.size<=jv.size)(aE:H.size<=g)(zt:g<jv.size)
  (ah:fg σ (μ.aq h.next ⟨g,0,room⟩) o ⟨g,0,room⟩ jv[g]?) :dj σ μ h H (μ.aq h.next ⟨g,0,room⟩) (h.new o) jv:=by
 have al:=rel.gv h.next (Nat.le_refl _);have xW:(h.new o).next=h.next+1:=rfl
 have old:∀j,j≠h.next->(μ.aq h.next ⟨g,0,room⟩) j=μ j:=λj az=>Map.jb _ _ az
 exact
  {ext:=Map.pj _ _ al
   rel:=
    {obj:=λj l q az ay=>by
      rw[mR]at ay;by_cases e:j=h.next
      ·rw[if_pos e]at ay;cases ay;rw[e,Map.hb]at az;cases az;exact ah
      ·rw[if_neg e]at ay;rw[old j e]at az;rw[hA l.b (rel.lt j l az)];exact(rel.obj j l q az ay).ext (Map.pj _ _ al)
     inj:=λi j l bz U az af pG hR=>by
      rw[mR]at hR;by_cases j1:i=h.next
      ·by_cases jj:j=h.next
       ·rw[j1,jj]
       ·rw[j1,Map.hb]at U;cases U;rw[old j jj]at az;have:=rel.lt j bz az;simp at af;omega
      ·rw[old i j1]at U;by_cases jj:j=h.next
       ·rw[jj,Map.hb]at az;cases az;have:=rel.lt i l U;simp at af;omega
       ·rw[old j jj]at az;rw[if_neg jj]at hR;exact rel.inj i j l bz U az af (λx ab=>pG x (by rw[mR,if_neg j1];exact ab)) hR
     lt:=λj l az=>by
      by_cases e:j=h.next
      ·rw[e,Map.hb]at az;cases az;exact zt
      ·rw[old j e]at az;exact Nat.lt_of_lt_of_le (rel.lt j l az) ev
     gv:=λj az=>by rw[xW]at az;rw[old j (by omega)];exact rel.gv j (by omega)
     jR:=λj az=>by
      rw[xW]at az;rw[mR,if_neg (by omega)]
      exact rel.jR j (by omega)}
   next:=by rw[xW];omega
   l0:=λj az ab=>by rw[old j (by omega)];exact ab
   kept:=λj az _=>by rw[mR,if_neg (by omega)]
   size:=ev
   own:=λb af ⟨id,loc,q,h1,aa,av,aO⟩=>by
    by_cases e:id=h.next
    ·rw[e,Map.hb]at h1;cases h1;simp at aO;omega
    ·rw[old id e]at h1;rw[mR,if_neg e]at aa;exact⟨id,loc,q,h1,aa,av,aO⟩
   frame:=λb af _=>hA b af}
theorem Yt:Tryz.f172.body=some (Tryz.f172.body.getD .skip):=by kernel_rfl
theorem Yy(fs:List Fact) :(env fs).fn 172=some Tryz.f172:=by kernel_rfl
theorem get_some{h:ag}{id:Nat}{o:bp}(aE:h.get id=o)(ao:o≠.dead) :h.c7.get id=some o:=by
 unfold ag.get at aE;split at aE
 ·rename_i q ay;rw[ay,aE]
 ·exact absurd aE.symm ao
theorem aiA{fs:List Fact}{σ:Nat->Int}(ok:cX Tryz.prog (env fs) σ) :wL Tryz.prog (env fs) σ 172 JN:=by
 intro args h v bg he μ w us aE rel hu;unfold JN at he;split at he
 ·rename_i f a;replace he:=c' he;obtain⟨aB,he⟩:=he;have aB:=a6.beq_true.1 aB;subst aB;split at he
  ·rename_i ha id c7 aU;split at he
   ·rename_i es clock hid;split at he
    ·rename_i f' aas;replace he:=c' he;obtain⟨af,he⟩:=he;simp only[Bool.and_eq_true]at af;obtain⟨⟨ah,dy⟩,hlen⟩:=af;have hlen:=dr.1 hlen;obtain⟨aW,cg,aw,⟨x,y,oW,ab,an⟩,bo⟩:=hu;have abM:x= #[]:=by apply Array.ext';exact ab
     obtain⟨a_,cK,aL,⟨loc,hm,pO⟩,eh⟩:=an;have ni:=rel.obj a loc _ hm (get_some aU (by intro e;cases e));obtain⟨CO,c,alk,YH,rV,ZE⟩:=ni;replace CO:=CO id rfl;obtain⟨v0,am3,xF,Oe,hk⟩:=ZE 0 (by omega)
     have abF:v0=.map id:=by have:(bp.ro 1 (.node ha (some (.map id)) c7)).cell 0=some (.map id):=rfl;rw[this]at xF;exact(Option.some.inj xF).symm
     subst abF;obtain⟨lm,aau,abU⟩:=hk;have og:=rel.obj id lm _ aau (get_some hid (by intro e;cases e));obtain⟨cj,Z2,CS⟩:=og;obtain⟨D,qH,NY,oT⟩:=agC Z2 CS aas dy ah hlen
     have a7:us= #[.func (.func 261) #[] #[.pointer (some ⟨loc.b,0,none⟩)]]:=by
      have abV:y= #[.pointer (some ⟨loc.b,0,none⟩)]:=by apply Array.ext';rw[aL,eh,pO,CO]
      apply Array.ext';rw[aw,bo,oW,abM,abV]
     subst a7
     have iy:w.cell? ⟨loc.b,0,none⟩=some (.map (some lm.b)):=by simp only[World.cell?,rV];rw[CO]at Oe;simpa [abU]using Oe
     refine .inl ⟨172,_,Oy ok (Yy fs) Yt _ w,λcs=> ?_⟩;obtain⟨e,aM,fr,⟨df,mP,rfl,Ht,dY,Hh,hA⟩,h1,aa,av⟩:=aiz (rel.lt a loc hm) iy qH (by rw[oT];unfold maxLen;omega) (by rw[oT];omega) cs
     have abo:mP.mergeSort (λx y=>decide (x<=y))=p0 f':=by refine List.Perm.eq_of_pairwise (le:=λa b=>a<=b) (λa b _ _ p q=>Int.le_antisymm p q) ?_ (RF f') (((List.mergeSort_perm mP _).trans (Ht.trans NY)).trans (Ed f').symm);have:=List.pairwise_mergeSort (le:=λx y:Int=>decide (x<=y)) (λa b c p q=>by simp only[decide_eq_true_eq]at*;omega) (λa b=>by simp only[Bool.or_eq_true,decide_eq_true_eq];omega) mP;exact this.imp λp=>by simpa using p
     rw[abo]at dY;have r4:mP.length=(p0 f').length:=((Ht.trans NY).trans (Ed f').symm).length_eq;cases en:p0 f' with
     |nil=>
      rw[en]at he r4;cases he;have:mP=[]:=List.length_eq_zero_iff.1 r4;have ae:=Hh.2 this;exact⟨fr,df,aM,μ,h1,aa,av,⟨hA.os,hA.tape,hA.output⟩,Px rel hA,ae⟩
     |cons k l=>
      rw[en]at he r4 dY;cases he;obtain⟨vw,dY⟩:=dY;rcases dY with⟨_,h0⟩ |⟨g,cap,cur,ae,aac,G0,al,lq,m6,oU⟩
      ·rw[r4]at h0;cases h0
      ·have xm:g<aM.heap.size:=by
        by_cases bK:g<aM.heap.size
        ·exact bK
        ·rw[Array.getElem?_eq_none (by omega)]at G0;cases G0
       simp only[Nat.mul_one]at m6 oU;have qG:l.length+1<=cap:=by rw[r4]at al;simpa using al
       have Iy:=Vu (o:=.cells (l.length+1) false [] (bj.ofList ((k::l).map (J.int .i64)))) (room:=cap) rel (λb af=>hA.block b af) hA.size aac xm
        ⟨cur,3,(0,0),G0,by simp[m6],qG,(λ_=>rfl),(λi _ U=>by simp at U),λi U=>by
         have eo:i<(k::l).length:=by simpa using U
         refine⟨.int .i64 ((k::l)[i]'eo),.int .i64 ((k::l)[i]'eo),?_,?_,rfl⟩
         ·show(bif Nat.blt i (l.length+1)then _ else none)=_;rw[c4.2 U,bj.tx,List.getElem?_map,List.getElem?_eq_getElem eo];rfl
         ·have e6:(cur.toList.take mP.length)[i]? =((k::l).map encZ)[i]? :=by rw[oU]
          rw[List.getElem?_take,if_pos (by rw[r4];exact eo),List.getElem?_map,List.getElem?_eq_getElem eo]at e6
          simpa using e6⟩
       refine⟨fr,df,aM,_,h1,aa,av,⟨hA.os,hA.tape,hA.output⟩,Iy,?_⟩;refine⟨⟨g,0,cap⟩,⟨g,0,none⟩,cap,Map.hb _ _ _,?_,Nat.le_refl _,qG,(λe=>by cases e),λ_=>rfl,by simp⟩;rw[ae,r4];rfl
    ·cases he
   ·cases he
  ·cases he
 ·cases he
theorem QC{fs:List Fact}{σ:Nat->Int}(ok:cX Tryz.prog (env fs) σ) :tc Tryz.prog (env fs) σ ta:=
 Ax (ahK ok) (Ax (ab_ ok) (Ax (aiA ok) (Ax (acD ok) agZ)))
section
open Go.a6 Go.ChangeShapes Go.WideShapes Go.ChangeAt Go.RowKit Go.Deep
theorem own:ownKnob Tryz.prog.godebug=none:=by kernel_rfl
abbrev sj:List (String×DataW Unit):=[("flyleaf/word.widths",Rows.laid_flyleaf_word_widths)]
theorem M0:Tryz.prog.globalNamed "flyleaf/word.widths" =some 0:=by kernel_rfl
theorem ai0:(Tryz.prog.globals[0]?).map (·.type)=some 255:=by kernel_rfl
theorem dA:Tryz.prog.cellsOf 3=1:=by kernel_rfl
theorem LS:Tryz.prog.cellsOf 255=10:=by kernel_rfl
def ju:List Int:=[0,1,2,4,8,1,2,4,8,8]
theorem XB(os:Os)(args:Array Value) :laidMetH Tryz.prog sj ((World.doorLaid Tryz.prog 400 os).forCall (λ_ _=>0) ⟨#[],args,[]⟩).memory:=
 laidMetH_of_parts3 (fuel:=8) (laidMet_of_run' 8 (by kernel_rfl) (by kernel_rfl)) (by kernel_rfl) (by kernel_rfl)
theorem Qb{W:World}(h:laidMetH Tryz.prog sj W) :∃(c:Array Value) (t:TypeId),W.heap[0]? =some (.cells c t (0,0))/\∀(i:Nat) (n:Int),ju[i]? =some n->c[i]? =some (.int .i64 n):=by
 rw[MakeChecks.laidMetH_plain _ _ _ (by kernel_rfl)]at h;obtain⟨ps,⟨g0,t0,B2,f0,Ja,ahd,aaa,abv,xF,ZN,CP,vl⟩,_,dY⟩:=h;obtain rfl:=Option.some.inj (M0.symm.trans aaa);obtain rfl:=Option.some.inj (ai0.symm.trans abv);obtain⟨xs,cA,rfl,ab,hlen,al,ZZ⟩:=DataW.trod_array Tryz.underlying255 ZN
 have iy:∀(i:Nat) (n:Int),ju[i]? =some n->B2[i]? =some (.int .i64 n):=by
  intro i n U
  have CF:i<10:=by have:=(List.getElem?_eq_some_iff.1 U).1;simpa [ju]using this
  have h1:=ZZ i CF;rw[dA,Nat.mul_one]at h1;have C5:i<xs.length:=by omega
  rw[List.getElem?_eq_getElem C5]at h1;obtain⟨k,aw,aL,_⟩:=DataW.trod_int Tryz.underlying3 h1
  have aj:k=n:=by
   have gq:xs.map (·.1)=ju.map λn=>(DataW.lit (Lit.int .i64 n) :DataW Unit):=by have aw:(DataW.agg (xs.map (·.1)) :DataW Unit)=DataW.agg (ju.map λn=>(DataW.lit (Lit.int .i64 n) :DataW Unit)):=(Prod.mk.inj ab).1.symm;exact DataW.agg.inj aw
   have aa:(xs.map (·.1))[i]? =(ju.map λn=>(DataW.lit (Lit.int .i64 n) :DataW Unit))[i]? :=by rw[gq]
   rw[List.getElem?_map,List.getElem?_map,U,List.getElem?_eq_getElem C5,aL]at aa;simpa using aa
  subst aj;rw[LS]at hlen;have qE:i<B2.toList.length:=by omega
  rw[List.drop_eq_getElem_cons qE]at aw;simp only[List.take_succ_cons,List.take_zero,List.cons.injEq,and_true]at aw;rw[<-Array.getElem?_toList,List.getElem?_eq_getElem qE,aw]
 have ev:0<B2.size:=by rw[LS]at hlen;rw[<-Array.length_toList];omega
 obtain⟨⟨c,t,aA⟩,_⟩:=dY 0 0 (by
  rw[vl];apply List.mem_append_left;apply List.mem_append_left;simp[MemPlace.row]
  exact ev)
 refine⟨c,t,aA,λi n U=> ?_⟩
 have lh:W.var? Tryz.prog "flyleaf/word.widths" =some c:=by simp only[World.var?,M0,Option.bind_some,aA]
 have:c=B2:=Option.some.inj (lh.symm.trans xF);subst this;exact iy i n U
def yH:bj J:=bj.ofList (ju.map (J.int .i64))
def en:ag:={next:=1,c7:=.node .nil (some (.ro 10 yH)) .nil}
def xT(n:Nat) :a6.Map:=λid=>if id=0 then some ⟨0,0,n⟩else none
theorem Kk(id:Nat)(o:bp)(h:en.c7.get id=some o) :id=0/\o=.ro 10 yH:=by
 have e:en.c7.get id=if id=0 then some (.ro 10 yH)else if id%2=1 then bj.nil.get (id/2)else bj.nil.get (id/2-1):=bj.oM _ _ _ _
 rw[e]at h;by_cases h0:id=0
 ·rw[if_pos h0]at h;exact⟨h0,(Option.some.inj h).symm⟩
 ·rw[if_neg h0]at h;simp[bj.get_nil]at h
end
section
open Go
theorem OR:laidOutB Tryz.prog=true:=by kernel_rfl
theorem ae7:mapsRowed Tryz.prog=true:=by kernel_rfl
def H5(P:Program)(fn:Func)(s:ChangeSpec)(c:OpenClaim) :Bool:=
 fn.params.all (P.readableRec ·) &&namedTie P c.named s.vars&&
 (c.stops==[]) &&(c.knobs==[]) &&
 (c.maps==(fn.params.toList++s.plain.varTypes P).any (P.mapsRec ·)) &&(c.ifaces==(fn.params.toList++s.plain.varTypes P).any (P.ifacesRec ·)) &&(c.mapsOut==P.mapsAmong fn.resultTypes.toList) &&
 (c.loops==(fn.params.toList++s.plain.varTypes P).any (P.loopsFrom ·)) &&(c.wideKeys==(fn.params.toList++s.plain.varTypes P++fn.resultTypes.toList).any (P.wideKeysFrom ·)) &&
 s.vars.all (P.varReadable ·) &&fn.resultTypes.all (λt=>P.readableRec t&&decide (t<P.types.size)) &&(c.ifacesOut==fn.resultTypes.toList.any (P.ifacesRec ·)) &&(c.loopsOut==fn.resultTypes.toList.any (P.loopsFrom ·)) &&c.shortTexts.isNone&&(c.kinds==(if c.domain.isEmpty then[]else fn.params.toList.map λt=>match P.underlying t with|some (.int k)=>some k|_=>none)) &&(c.pinned==c.pinnedBy) &&
 (c.veiled==(fn.params.toList++s.plain.varTypes P++fn.resultTypes.toList).any (P.veiledRec ·)) &&c.veiledFits P fn.params.toList (fn.params.toList++s.plain.varTypes P++fn.resultTypes.toList)
theorem acs{P:Program}{f:FuncId}{fn:Func}{s:ChangeSpec}{c:OpenClaim}
  (aa:laidOutB P=true) (av:mapsRowed P=true)
  (g1:(P.stops==[])=true) (g2:(P.stopKnobs==[])=true) (g3:(c.plainKeys==P.plainKeys)=true) (g4:P.stopsHeard=true) (g5:P.mayEnter=true) (g6:(c.lifted==P.liftsFinal)=true) (g7:(P.make==some c.make)=true)
  (h1:c.wf (OpenSpec.ofChange s)=true)
  (aO:(c.inPlace==P.inPlace f)=true) (bb:(c.unfollowed==P.unfollowed f)=true) (cp:(c.recurses==P.recurses f)=true)
  (gC:(c.named==P.varsNamed f)=true) (dR:H5 P fn s c=true) :joinedFacts P f fn s c=true:=by
 unfold H5 at dR;unfold joinedFacts;simp only[Bool.and_eq_true]at dR|-;simp only[h1,aa,av,aO,bb,cp,gC,g1,g2,g3,g4,g5,g6,g7,and_true,true_and];simp only[and_assoc]at dR|-;exact dR
end
end Go.Proofs.YtkdjcmpgnkecfaaGreatDoor
end
