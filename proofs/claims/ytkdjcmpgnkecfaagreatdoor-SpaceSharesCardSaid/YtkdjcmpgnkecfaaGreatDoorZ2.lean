/-
  Texts E25 E26 E27 E28 L0 L1 L2 L3 L4 L5 S0 S1 S2 S3 S4 T0 J0, joined; own names made short.
-/
import Derived.Test.YtkdjcmpgnkecfaaGreatDoorZ1
import Derived.Below
import Derived.Laws.Tables
import Derived.Test.YtkdjcmpgnkecfaaGreatDoorProg
import Derived.KernelRfl
import Derived.Shelf.Strings.Search1
import Derived.Shelf.Strings.Repeat
import Derived.Shelf.SlIterI.Nil
import Derived.Shelf.SortM.Plain
import Derived.Shelf.SortM.SortNone
import Derived.Test.YtkdjcmpgnkecfaaGreatDoorRows
import Derived.WalkKit
import Derived.ProofKit
import Derived.OpenShut
import Derived.ChangeSame
import Derived.Deep.Fields
import Derived.LaidMore
import Derived.Stop.Joined
import Derived.JoinedOf
set_option linter.unusedVariables false
set_option linter.unusedSimpArgs false
set_option linter.unusedSectionVars false
set_option exponentiation.threshold 600
noncomputable section
namespace Go.a8
mutual
theorem aa.Ji:∀(a b:aa),aa.beq a b=true->a=b
 | .undef,b,h=>by cases b<;>first|rfl|(simp only[aa.beq]at h;cases h;done)
 | .bool a,b,h=>by cases b<;>first|(simp only[aa.beq,beq_iff_eq]at h;rw[h];done) |(simp only[aa.beq]at h;cases h;done)
 | .int k a,b,h=>by
  cases b<;>first
   |(simp only[aa.beq,Bool.and_eq_true]at h;rw[l'.1 h.1,J_.1 h.2];done)
   |(simp only[aa.beq]at h;cases h;done)
 | .sym k a,b,h=>by
  cases b<;>first
   |(simp only[aa.beq,Bool.and_eq_true]at h;rw[l'.1 h.1,Go.a8.beq_true.1 h.2];done)
   |(simp only[aa.beq]at h;cases h;done)
 | .str l a,b,h=>by
  cases b<;>first
   |(simp only[aa.beq,Bool.and_eq_true]at h;rw[Go.a8.beq_true.1 h.1,Go.a8.beq_true.1 h.2];done)
   |(simp only[aa.beq]at h;cases h;done)
 | .nilPtr,b,h=>by cases b<;>first|rfl|(simp only[aa.beq]at h;cases h;done)
 | .ptr l a,b,h=>by
  cases b<;>first
   |(simp only[aa.beq,Bool.and_eq_true]at h;rw[Go.a8.beq_true.1 h.1,Go.a8.beq_true.1 h.2];done)
   |(simp only[aa.beq]at h;cases h;done)
 | .bI,b,h=>by cases b<;>first|rfl|(simp only[aa.beq]at h;cases h;done)
 | .slice ao a2 a3 a4 a5 hZ,b,h=>by
  cases b<;>first
   |(simp only[aa.beq,Bool.and_eq_true,beq_iff_eq]at h;obtain⟨⟨⟨⟨⟨h1,ab⟩,al⟩,aE⟩,aL⟩,bm⟩:=h
     rw[Go.a8.beq_true.1 h1,Go.a8.beq_true.1 ab,Go.a8.beq_true.1 al,Go.a8.beq_true.1 aE,Go.a8.beq_true.1 aL,bm];done)
   |(simp only[aa.beq]at h;cases h;done)
 | .hG,b,h=>by cases b<;>first|rfl|(simp only[aa.beq]at h;cases h;done)
 | .map a,b,h=>by cases b<;>first|(simp only[aa.beq]at h;rw[Go.a8.beq_true.1 h];done) |(simp only[aa.beq]at h;cases h;done)
 | .nilFunc,b,h=>by cases b<;>first|rfl|(simp only[aa.beq]at h;cases h;done)
 | .func f x y,b,h=>by
  cases b<;>first
   |(simp only[aa.beq,Bool.and_eq_true]at h;obtain⟨⟨h1,ab⟩,al⟩:=h;rw[Go.a8.beq_true.1 h1,aa.BC _ _ ab,aa.BC _ _ al];done)
   |(simp only[aa.beq]at h;cases h;done)
 | .yield a,b,h=>by cases b<;>first|(simp only[aa.beq]at h;rw[Go.a8.beq_true.1 h];done) |(simp only[aa.beq]at h;cases h;done)
 | .nilIface,b,h=>by cases b<;>first|rfl|(simp only[aa.beq]at h;cases h;done)
 | .iface t x,b,h=>by
  cases b<;>first
   |(simp only[aa.beq,Bool.and_eq_true]at h;rw[Go.a8.beq_true.1 h.1,aa.Ji _ _ h.2];done)
   |(simp only[aa.beq]at h;cases h;done)
 | .agg x,b,h=>by cases b<;>first|(simp only[aa.beq]at h;rw[aa.BC _ _ h];done) |(simp only[aa.beq]at h;cases h;done)
 | .tuple x,b,h=>by cases b<;>first|(simp only[aa.beq]at h;rw[aa.BC _ _ h];done) |(simp only[aa.beq]at h;cases h;done)
theorem aa.BC:∀(a b:List aa),aa.qj a b=true->a=b
 |[],b,h=>by cases b<;>first|rfl|(simp only[aa.qj]at h;cases h;done)
 |x::xs,b,h=>by
  cases b<;>first
   |(simp only[aa.qj,Bool.and_eq_true]at h;rw[aa.Ji _ _ h.1,aa.BC _ _ h.2];done)
   |(simp only[aa.qj]at h;cases h;done)
end
theorem BD(n i:Nat) :ka n i=n.testBit i:=by unfold ka;rw[Nat.testBit_eq_decide_div_mod_eq,Nat.shiftRight_eq_div_pow,abz]
theorem J4{acc:List Nat}{x:Nat} :∀(es:List Edge),ka (sD acc es) x=true->∃e,e∈es/\Region.binds .any e=true/\(x=e.on\/ka (acc.getD e.on 0) x=true)
 |[],h=>by rw[BD]at h;simp[sD]at h
 |e::es,h=>by
  simp only[sD]at h;cases aj:Region.binds .any e with
  |false=>
   rw[aj]at h;obtain⟨de,h1,ab,al⟩:=J4 es h;exact⟨de,List.mem_cons_of_mem _ h1,ab,al⟩
  |true=>
   rw[aj,cond_true,BD,Nat.testBit_or,Nat.testBit_or,Nat.testBit_two_pow]at h;simp only[Bool.or_eq_true,decide_eq_true_eq]at h;rcases h with(h|h) |h
   ·exact⟨e,List.mem_cons_self,aj,.inl h.symm⟩
   ·exact⟨e,List.mem_cons_self,aj,.inr (by rw[BD];exact h)⟩
   ·obtain⟨de,h1,ab,al⟩:=J4 es (by rw[BD];exact h);exact⟨de,List.mem_cons_of_mem _ h1,ab,al⟩
theorem Jh:∀(l:List Oper) (acc:List Nat),(lf l acc).take acc.length=acc/\∀k o,l[k]? =some o->
  (lf l acc).getD (acc.length+k) 0=sD ((lf l acc).take (acc.length+k)) o.after.toList
 |[],acc=>⟨by simp[lf],λk o h=>by simp at h⟩
 |o::rest,acc=>by
  obtain⟨h1,ab⟩:=Jh rest (acc++[sD acc o.after.toList]);simp only[lf];generalize aj:lf rest (acc++[sD acc o.after.toList])=bs at h1 ab;simp only[List.length_append,List.length_cons,List.length_nil,Nat.zero_add]at h1 ab
  have al:bs.take acc.length=acc:=by
   have:(bs.take (acc.length+1)).take acc.length=acc:=by rw[h1];simp
   rwa[List.take_take,Nat.min_eq_left (Nat.le_succ _)]at this
  refine⟨al,λk cg av=> ?_⟩;cases k with
  |zero=>
   simp at av;subst av;rw[Nat.add_zero,al];have:(bs.take (acc.length+1))[acc.length]? =some (sD acc o.after.toList):=by rw[h1];simp
   rw[List.getElem?_take]at this;simp at this;simp[this]
  |succ k=>
   have:=ab k cg (by simpa using av);rwa[show acc.length+1+k=acc.length+(k+1)by omega]at this
theorem aby{ops:Array Oper}{D:Nat->Prop}(fz:∀j o,ops[j]? =some o->D j->∀e,e∈o.after->Region.binds .any e=true->D e.on)
  (ma:∀j o,ops[j]? =some o->∀e,e∈o.after->Region.binds .any e=true->e.on<j) :
  ∀i o x,ops[i]? =some o->(∀e,e∈o.after->Region.binds .any e=true->D e.on)->ka ((lf ops.toList []).getD i 0) x=true->D x:=by
 intro i;induction i using Nat.strongRecOn with
 |_ i b1=>
  intro o x bg an aj;obtain⟨_,ab⟩:=Jh ops.toList [];have:=ab i o (by simpa using bg);rw[List.length_nil,Nat.zero_add]at this;rw[this]at aj;obtain⟨e,he,KI,ag⟩:=J4 _ aj;have n3:e∈o.after:=by simpa using he
  have b6:=ma i o bg e n3 KI;rcases ag with rfl|ag
  ·exact an e n3 KI
  ·have me:((lf ops.toList []).take i).getD e.on 0=(lf ops.toList []).getD e.on 0:=by
    rw[List.getD_eq_getElem?_getD,List.getD_eq_getElem?_getD,List.getElem?_take,if_pos b6]
   rw[me]at ag;have aw:e.on<ops.size:=Nat.lt_trans b6 (Array.getElem?_eq_some_iff.1 bg).1;have Uk:ops[e.on]? =some ops[e.on]:=Array.getElem?_eq_getElem aw;exact b1 e.on b6 _ x Uk (fz _ _ Uk (an e n3 KI)) ag
theorem SS{j:Nat} :∀{es:List Edge},Fg j es=true->∀e,e∈es->Region.binds .any e=true->e.on<j
 |[],_,e,he,_=>by cases he
 |f::es,h,e,he,aj=>by
  simp only[Fg,Bool.and_eq_true,Bool.or_eq_true,Bool.not_eq_true']at h;rcases List.mem_cons.1 he with rfl|he
  ·rcases h.1 with h1|h1
   ·rw[h1]at aj;cases aj
   ·exact dM.1 h1
  ·exact SS h.2 e he aj
def nN(E:Env)(ops:Array Oper)(x y:Oper) :Prop:=(CT E x&&CT E y)=false/\EL ops x y=true
theorem WQ{E:Env}{ops:Array Oper}{b j:Nat}{y:Oper} :∀(xs:List Oper) (i:Nat),Hm E ops b j y xs i=true->∀k x,xs[k]? =some x->i+k<j->ka b (i+k)=true\/nN E ops x y
 |[],i,_,k,x,av,_=>by simp at av
 |z::Iw,i,h,k,x,av,b6=>by
  simp only[Hm]at h;rw[dM.2 (by omega),cond_true,Bool.and_eq_true,Bool.or_eq_true,Bool.and_eq_true,Bool.not_eq_true']at h;cases k with
  |zero=>simp at av;subst av;exact h.1
  |succ k=>
   have:=WQ Iw (i+1) h.2 k x (by simpa using av) (by omega);rwa[show i+1+k=i+(k+1)by omega]at this
theorem X_{E:Env}{ops:Array Oper}{bs:List Nat} :∀(l:List Oper) (j:Nat),AS E ops bs l j=true->∀k y,l[k]? =some y->
  (∀e,e∈y.after->Region.binds .any e=true->e.on<j+k)/\∀i x,ops[i]? =some x->i<j+k->ka (bs.getD (j+k) 0) i=true\/nN E ops x y
 |[],j,_,k,y,av=>by simp at av
 |z::Iw,j,h,k,y,av=>by
  simp only[AS,Bool.and_eq_true]at h;cases k with
  |zero=>
   simp at av;subst av;refine⟨λe he aj=>SS h.1.1 e (by simpa using he) aj,λi x ag af=> ?_⟩;have:=WQ ops.toList 0 h.1.2 i x (by simpa using ag) (by omega);simpa using this
  |succ k=>
   have:=X_ Iw (j+1) h.2 k y (by simpa using av);rwa[show j+1+k=j+(k+1)by omega]at this
theorem apart_spec{ops:Array Oper}{x y:Oper}(h:EL ops x y=true) :
  (∀d,x.dst=some d->d∉tmpsOf ops y)/\(∀d,x.dst=some d->y.dst≠some d)/\(∀d,y.dst=some d->d∉tmpsOf ops x):=by
 unfold EL at h;refine⟨λd aC hm=> ?_,λd aC he=> ?_,λd aC hm=> ?_⟩
 ·rw[aC]at h;simp only[Aj.2 hm,Bool.not_true,Bool.false_and]at h;cases h
 ·rw[aC,he]at h;simp only[Go.a8.beq_true.2 rfl,Bool.not_true,Bool.and_false,Bool.false_and]at h;cases h
 ·rw[aC]at h;simp only[Aj.2 hm,Bool.not_true,Bool.and_false]at h;cases h
structure EF(E:Env)(F:gT)(ops:Array Oper)(base i:Nat)(o:Oper)(s aY:cU)(v:aa) :Prop where
 dst:∀t,o.dst=some t->t<s.n
 hJ:aY={s with r:=gP s.r o.dst v,h:=aY.h}
 off:h5 ops s.r o=false->v=.undef/\aY.h=s.h
 act:kindOf E o.op=.act->∀cR,tJ ops o cR s.r->kB E F ops o {s with r:=cR}=some {s with r:=gP cR o.dst v,h:=aY.h}
 make:kindOf E o.op=.make->h5 ops s.r o=true->∃f ob,kA E s.r o.op=some (f,ob)/\v=f (base+i)/\aY.h=s.h.put (base+i) ob
 look:kindOf E o.op=.look->h5 ops s.r o=true->fi E s.r s.h o.op=some v/\aY.h=s.h
def pb(E:Env)(S:Nat->cU) :List Oper->Nat->List (Nat×ae)
 |[],_=>[]
 |o::rest,i=>match kindOf E o.op with
  | .act=>(i,(S i).h)::pb E S rest (i+1)
  |_=>pb E S rest (i+1)
theorem RG{E:Env}{S su:Nat->cU} :∀(l:List Oper) (i:Nat),(∀j,i<=j->S j=su j)->pb E S l i=pb E su l i
 |[],_,_=>rfl
 |o::rest,i,h=>by simp only[pb,h i (Nat.le_refl _),RG rest (i+1) λj aO=>h j (by omega)]
theorem YH{E:Env}{F:gT}{ops:Array Oper}{base:Nat} :∀(l:List Oper) (i:Nat) (s:cU) (gs:List (Nat×ae)) (ls:List Seen) (aY:cU) (gW:List (Nat×ae)) (gn:List Seen),
  kd E F ops base l i s gs ls=some (aY,gW,gn)->∃(S:Nat->cU) (V:Nat->aa),S i=s/\S (i+l.length)=aY/\
   (∀k o,l[k]? =some o->EF E F ops base (i+k) o (S (i+k)) (S (i+k+1)) (V (i+k)))/\gW=(pb E S l i).reverse++gs/\(∀x,x∈ls->x∈gn)/\
   (∀k o,l[k]? =some o->kindOf E o.op=.look->h5 ops (S (i+k)).r o=true->({i:=i+k,o,r:=(S (i+k)).r,v:=V (i+k)} :Seen)∈gn)
 |[],i,s,gs,ls,aY,gW,gn,he=>by simp only[kd]at he;cases he;exact⟨λ_=>s,λ_=>.undef,rfl,rfl,λk o h=>by simp at h,by simp[pb],λx ag=>ag,λk o h=>by simp at h⟩
 |o::rest,i,s,gs,ls,aY,gW,gn,he=>by
  have build:∀(s1:cU) (v:aa) (po:List (Nat×ae)) (nD:List Seen),kd E F ops base rest (i+1) s1 po nD=some (aY,gW,gn)->EF E F ops base i o s s1 v->
    (po=match kindOf E o.op with| .act=>(i,s.h)::gs|_=>gs)->(∀x,x∈ls->x∈nD)->(kindOf E o.op=.look->h5 ops s.r o=true->({i,o,r:=s.r,v} :Seen)∈nD)->
    ∃(S:Nat->cU) (V:Nat->aa),S i=s/\S (i+(o::rest).length)=aY/\
     (∀k cg,(o::rest)[k]? =some cg->EF E F ops base (i+k) cg (S (i+k)) (S (i+k+1)) (V (i+k)))/\gW=(pb E S (o::rest) i).reverse++gs/\(∀x,x∈ls->x∈gn)/\
     (∀k cg,(o::rest)[k]? =some cg->kindOf E cg.op=.look->h5 ops (S (i+k)).r cg=true->({i:=i+k,o:=cg,r:=(S (i+k)).r,v:=V (i+k)} :Seen)∈gn):=by
   intro s1 v po nD afD aA af1 Cp Lf;obtain⟨S,V,h1,ab,al,aE,aL,bm⟩:=YH rest (i+1) s1 po nD aY gW gn afD;let su:Nat->cU:=λj=>if j=i then s else S j
   let By:Nat->aa:=λj=>if j=i then v else V j
   have vR:su i=s:=by simp[su]
   have SQ:By i=v:=by simp[By]
   have zs:∀j,i<j->su j=S j:=λj aO=>by simp only[su];rw[if_neg (by omega)]
   have SR:∀j,i<j->By j=V j:=λj aO=>by simp only[By];rw[if_neg (by omega)]
   refine⟨su,By,vR,?_,λk cg av=> ?_,?_,λx ag=>aL x (Cp x ag),λk cg av ay aN=> ?_⟩
   ·rw[zs _ (by simp),List.length_cons,<-ab];congr 1;omega
   ·cases k with
    |zero=>
     simp at av;subst av;rw[Nat.add_zero,vR,SQ,zs _ (by omega),h1];exact aA
    |succ k=>
     have:=al k cg (by simpa using av);rw[show i+(k+1)=i+1+k by omega,zs _ (by omega),zs _ (by omega),SR _ (by omega)];exact this
   ·rw[aE,af1];have BO:=RG (E:=E) (S:=su) (su:=S) rest (i+1) λj aO=>zs j (by omega)
    simp only[pb,vR,BO];cases kindOf E o.op<;>simp
   ·cases k with
    |zero=>
     simp at av;subst av;rw[Nat.add_zero,vR]at aN|-;rw[SQ];exact aL _ (Lf ay aN)
    |succ k=>
     rw[show i+(k+1)=i+1+k by omega]at aN|-;rw[zs _ (by omega)]at aN|-;rw[SR _ (by omega)];exact bm k cg (by simpa using av) ay aN
  simp only[kd]at he;split at he
  ·rename_i av;split at he
   ·rename_i s1 h1;obtain⟨v,bo,cp,ed,gh⟩:=amy h1;exact build s1 v _ _ he ⟨bo,cp,ed,λ_=>gh,(λh=>by rw[av]at h;cases h),(λh=>by rw[av]at h;cases h)⟩ (by rw[av]) (λx ag=>ag) (λh=>by rw[av]at h;cases h)
   ·cases he
  ·rename_i av aN;split at he
   ·rename_i f ob aw;split at he
    ·rename_i s1 h1;obtain⟨d1,d2⟩:=yy h1;refine build s1 _ _ _ he ⟨d1,by rw[d2],(λh=>by rw[aN]at h;cases h),(λh=>by rw[av]at h;cases h),λ_ _=>⟨f,ob,aw,rfl,by rw[d2]⟩,(λh=>by rw[av]at h;cases h)⟩ (by rw[av]) (λx ag=>ag) (λh=>by rw[av]at h;cases h)
    ·cases he
   ·cases he
  ·rename_i av aN;split at he
   ·rename_i v ai;split at he
    ·rename_i s1 h1;obtain⟨d1,d2⟩:=yy h1;refine build s1 v _ _ he ⟨d1,by rw[d2],(λh=>by rw[aN]at h;cases h),(λh=>by rw[av]at h;cases h),(λh=>by rw[av]at h;cases h),λ_ _=>⟨ai,by rw[d2]⟩⟩ (by rw[av]) (λx ag=>List.mem_cons_of_mem _ ag) (λ_ _=>List.mem_cons_self)
    ·cases he
   ·cases he
  ·rename_i aN pA;split at he
   ·rename_i s1 h1;obtain⟨d1,d2⟩:=yy h1;have av:kindOf E o.op≠.act:=λh=>pA h
    refine build s1 .undef _ _ he ⟨d1,by rw[d2],λ_=>⟨rfl,by rw[d2]⟩,λh=>absurd h av,(λ_ h=>by rw[aN]at h;cases h),(λ_ h=>by rw[aN]at h;cases h)⟩ ?_ (λx ag=>ag) (λ_ h=>by rw[aN]at h;cases h);cases af':kindOf E o.op<;>first|rfl|exact absurd af' av
   ·cases he
theorem VE{E:Env}{bs:List Nat}{gs:List (Nat×ae)}{last:ae} :∀{ls:List Seen},uL E bs gs last ls=true->∀s,s∈ls->qK bs s.i (rW E s) last gs=true
 |[],_,s,aA=>by cases aA
 |x::xs,h,s,aA=>by
  simp only[uL,Bool.and_eq_true]at h;rcases List.mem_cons.1 aA with rfl|aA
  ·exact h.1
  ·exact VE h.2 s aA
theorem VD{E:Env}{bs:List Nat}{i:Nat}{f:ae->Bool}{S:Nat->cU}{n p:Nat}{D:Nat->Prop}(h1:∀a,ka (bs.getD i 0) a=true->D a)(ab:∀a,D a->ka (bs.getD a 0) i=true->False) :
  ∀(l:List Oper) (k:Nat),k+l.length=n->k<=p->p<=n->(∀j o,l[j]? =some o->k+j<p->kindOf E o.op=.act->D (k+j))->(∀j o,l[j]? =some o->k+j=p->kindOf E o.op=.act/\¬D p)->
   qK bs i f (S n).h (pb E S l k)=true->f (S p).h=true
 |[],k,aw,av,aI,_,_,hw=>by
  simp only[List.length_nil]at aw;have:p=n:=by omega
  subst this;exact hw
 |o::rest,k,aw,av,aI,bc,ml,hw=>by
  have F8:k<p->qK bs i f (S n).h (pb E S rest (k+1))=true->f (S p).h=true:=λb6 iI=>
   VD h1 ab rest (k+1) (by simp only[List.length_cons]at aw;omega) b6 aI
    (λj cg aO ay iV=>by have:=bc (j+1) cg (by simpa using aO) (by omega) iV;rwa[show k+(j+1)=k+1+j by omega]at this)
    (λj cg aO he=>ml (j+1) cg (by simpa using aO) (by omega)) iI
  simp only[pb]at hw;by_cases aga:k=p
  ·subst aga;obtain⟨uj,db⟩:=ml 0 o rfl rfl;rw[uj]at hw;simp only[qK]at hw
   have aj:ka (bs.getD i 0) k=false:=by
    cases aj:ka (bs.getD i 0) k with
    |false=>rfl
    |true=>exact absurd (h1 k aj) db
   rw[aj,cond_false,Bool.and_eq_true]at hw;exact hw.1
  ·have b6:k<p:=by omega
   cases iV:kindOf E o.op with
   |act=>
    rw[iV]at hw;simp only[qK]at hw;cases aj:ka (bs.getD i 0) k with
    |true=>rw[aj,cond_true]at hw;exact F8 b6 hw
    |false=>
     rw[aj,cond_false,Bool.and_eq_true,Bool.or_eq_true]at hw;rcases hw.2 with hw|hw
     ·exact(ab k (bc 0 o rfl (by omega) iV) hw).elim
     ·exact F8 b6 hw
   |look=>rw[iV]at hw;exact F8 b6 hw
   |make=>rw[iV]at hw;exact F8 b6 hw
def xk(ops:Array Oper)(k:Nat) :Option Tmp:=(ops[k]?).bind (·.dst)
def hg(r0:bE)(ops:Array Oper)(V:Nat->aa)(D:Nat->Bool) :Nat->bE
 |0=>r0
 |k+1=>bif D k then gP (hg r0 ops V D k) (xk ops k) (V k)else hg r0 ops V D k
def l7(D:Nat->Bool)(i:Nat) :Nat->Bool:=λj=>D j||Nat.beq j i
theorem xa(D:Nat->Bool)(i:Nat) :l7 D i i=true:=by simp[l7,Go.a8.beq_true.2 rfl]
theorem oF(D:Nat->Bool){i j:Nat}(h:j≠i) :l7 D i j=D j:=by simp[l7,Go.a8.beq_false.2 h]
section
variable{E:Env}{ops:Array Oper}{bs:List Nat}{r0:bE}{V:Nat->aa}{D:Nat->Bool}
structure Order(E:Env)(ops:Array Oper)(bs:List Nat) :Prop where
 pair:∀i j x y,ops[i]? =some x->ops[j]? =some y->i<j->ka (bs.getD j 0) i=true\/nN E ops x y
 J3:∀j o,ops[j]? =some o->∀e,e∈o.after->Region.binds .any e=true->e.on<j
 bits:bs=lf ops.toList []
def Ey(ops:Array Oper)(D:Nat->Bool) :Prop:=∀j o,ops[j]? =some o->D j=true->∀e,e∈o.after->Region.binds .any e=true->D e.on=true
def y8(ops:Array Oper)(D:Nat->Bool)(o:Oper) :Prop:=∀e,e∈o.after->Region.binds .any e=true->D e.on=true
theorem Order.ahead(hH:Order E ops bs)(aH:Ey ops D){i:Nat}{o:Oper}(af:ops[i]? =some o)(an:y8 ops D o){x:Nat}(aj:ka (bs.getD i 0) x=true) :D x=true:=by rw[hH.bits]at aj;exact aby (D:=λx=>D x=true) aH hH.J3 i o x af an aj
theorem Xe(hH:Order E ops bs)(aH:Ey ops D){i:Nat}{o:Oper}(af:ops[i]? =some o)(an:y8 ops D o)(aw:D i=false) :
  tJ ops o (hg r0 ops V D ops.size) (hg r0 ops V (λ_=>true) i):=by
 intro t aW
 have h1:∀k,k<=i->(hg r0 ops V D k).get t=(hg r0 ops V (λ_=>true) k).get t:=by
  intro k;induction k with
  |zero=>intro _;rfl
  |succ k b1=>
   intro av;have b1:=b1 (by omega);simp only[hg,cond_true];by_cases aC:xk ops k=some t
   ·have fz:D k=true:=by
     obtain⟨y,aq,CQ⟩:=Option.bind_eq_some_iff.1 aC;rcases hH.pair k i y o aq af (by omega)with aj|bc
     ·exact hH.ahead aH af an aj
     ·exact absurd aW ((apart_spec bc.2).1 t CQ)
    rw[fz,cond_true,pZ,pZ,if_pos aC,if_pos aC]
   ·cases fz:D k with
    |true=>rw[cond_true,pZ,pZ,if_neg aC,if_neg aC,b1]
    |false=>rw[cond_false,pZ,if_neg aC,b1]
 have ab:∀m,i+m<=ops.size->(hg r0 ops V D (i+m)).get t=(hg r0 ops V D i).get t:=by
  intro m;induction m with
  |zero=>intro _;rfl
  |succ m b1=>
   intro hm;have b1:=b1 (by omega);rw[<-Nat.add_assoc];simp only[hg];cases fz:D (i+m)with
   |false=>rw[cond_false,b1]
   |true=>
    rw[cond_true,pZ];by_cases aC:xk ops (i+m)=some t
    ·obtain⟨y,aq,CQ⟩:=Option.bind_eq_some_iff.1 aC;have zR:m≠0:=λe=>by subst e;rw[Nat.add_zero,aw]at fz;cases fz
     rcases hH.pair i (i+m) o y af aq (by omega)with aj|bc
     ·have:=hH.ahead aH aq (aH _ _ aq fz) aj;rw[aw]at this;cases this
     ·exact absurd aW ((apart_spec bc.2).2.2 t CQ)
    ·rw[if_neg aC,b1]
 have b6:i<ops.size:=(Array.getElem?_eq_some_iff.1 af).1;have:=ab (ops.size-i) (by omega);rw[show i+(ops.size-i)=ops.size by omega]at this;rw[this];exact h1 i (Nat.le_refl _)
theorem Xd(hH:Order E ops bs)(aH:Ey ops D){i:Nat}{o:Oper}(af:ops[i]? =some o)(an:y8 ops D o)(aw:D i=false)(t:Nat) :
  (hg r0 ops V (l7 D i) ops.size).get t=(gP (hg r0 ops V D ops.size) o.dst (V i)).get t:=by
 have rE:xk ops i=o.dst:=by simp[xk,af]
 have h1:∀k,k<=i->hg r0 ops V (l7 D i) k=hg r0 ops V D k:=by
  intro k;induction k with
  |zero=>intro _;rfl
  |succ k b1=>intro av;simp only[hg,b1 (by omega),oF D (show k≠i by omega)]
 have ab:∀m,i+1+m<=ops.size->(hg r0 ops V (l7 D i) (i+1+m)).get t=(gP (hg r0 ops V D (i+1+m)) o.dst (V i)).get t:=by
  intro m;induction m with
  |zero=>
   intro _;simp only[Nat.add_zero,hg,xa,cond_true,aw,cond_false,h1 i (Nat.le_refl _),rE]
  |succ m b1=>
   intro hm;have b1:=b1 (by omega);rw[<-Nat.add_assoc];simp only[hg,oF D (show i+1+m≠i by omega)];cases fz:D (i+1+m)with
   |false=>simpa only[cond_false]using b1
   |true=>
    simp only[cond_true];rw[pZ,b1,pZ,pZ,pZ];by_cases av:xk ops (i+1+m)=some t
    ·have:o.dst≠some t:=λaC=>by
      obtain⟨y,aq,CQ⟩:=Option.bind_eq_some_iff.1 av;rcases hH.pair i (i+1+m) o y af aq (by omega)with aj|bc
      ·have:=hH.ahead aH aq (aH _ _ aq fz) aj;rw[aw]at this;cases this
      ·exact(apart_spec bc.2).2.1 t aC CQ
     rw[if_pos av,if_neg this,if_pos av]
    ·rw[if_neg av,if_neg av]
 have b6:i<ops.size:=(Array.getElem?_eq_some_iff.1 af).1;have:=ab (ops.size-(i+1)) (by omega);rwa[show i+1+(ops.size-(i+1))=ops.size by omega]at this
theorem anW(h:∀j,j<ops.size->D j=true) :∀k,k<=ops.size->hg r0 ops V D k=hg r0 ops V (λ_=>true) k:=by
 intro k;induction k with
 |zero=>intro _;rfl
 |succ k b1=>intro av;simp only[hg,b1 (by omega),h k (by omega),cond_true]
end
theorem dU.fresh{σ:Nat->Int}{μ:Map}{h:ae}{H:Array Obj}(r:dU σ μ h H){id:Nat}{ob:bT}(aW:h.dS.get id=none)(b6:id<h.next)
  (hm:∀loc,μ id=some loc->hq σ μ ob loc H[loc.b]?) :dU σ μ (h.put id ob) H where
 obj:=λj l q aO aF=>by
  rw[nJ]at aF;by_cases e:j=id
  ·rw[if_pos e]at aF;cases aF;rw[e]at aO;exact hm l aO
  ·rw[if_neg e]at aF;exact r.obj j l q aO aF
 inj:=λi j l bQ af aO aj rE jv=>by
  refine r.inj i j l bQ af aO aj (λo bg=> ?_) λaC=> ?_
  ·by_cases e:i=id
   ·rw[e,aW]at bg;cases bg
   ·exact rE o (by rw[nJ,if_neg e];exact bg)
  ·by_cases e:j=id
   ·rw[e,aW]at aC;cases aC
   ·exact jv (by rw[nJ,if_neg e];exact aC)
 lt:=r.lt
 hW:=r.hW
 k8:=λj aO=>by have:id<j:=Nat.lt_of_lt_of_le b6 aO;rw[nJ,if_neg (by omega)];exact r.k8 j aO
section
variable{P:Program}{E:Env}{σ:Nat->Int}{F:gT}{ops:Array Oper}{bs:List Nat}{S:Nat->cU}{V:Nat->aa}{s:cU}{j_:Map}{ih:World}
structure Text(E:Env)(F:gT)(ops:Array Oper)(bs:List Nat)(s:cU)(S:Nat->cU)(V:Nat->aa) :Prop where
 hH:Order E ops bs
 start:S 0={s with h:={s.h with next:=s.h.next+ops.size}}
 DB:∀k o,ops[k]? =some o->EF E F ops s.h.next k o (S k) (S (k+1)) (V k)
 look:∀k o,ops[k]? =some o->kindOf E o.op=.look->h5 ops (S k).r o=true->qK bs k (rW E {i:=k,o,r:=(S k).r,v:=V k}) (S ops.size).h (pb E S ops.toList 0)=true
theorem Text.shape(fg:Text E F ops bs s S V) :∀k,k<=ops.size->(S k).n=s.n/\(S k).ds=s.ds/\(S k).r=hg s.r ops V (λ_=>true) k:=by
 intro k;induction k with
 |zero=>intro _;rw[fg.start];exact⟨rfl,rfl,rfl⟩
 |succ k b1=>
  intro av;obtain⟨h1,ab,al⟩:=b1 (by omega);have bg:ops[k]? =some ops[k]:=Array.getElem?_eq_getElem (by omega);have:=(fg.DB k _ bg).hJ;rw[this];refine⟨h1,ab,?_⟩;simp only[hg,cond_true,al,xk,bg,Option.bind_some]
structure i'(P:Program)(E:Env)(σ:Nat->Int)(ops:Array Oper)(S:Nat->cU)(V:Nat->aa)(s:cU)(j_:Map)(ih:World)(D:Nat->Bool)(q:Nat)(μ:Map)(w:World)(a:Act) :Prop where
 le:q<=ops.size
 kN:∀j o,ops[j]? =some o->kindOf E o.op=.act->(D j=true↔j<q)
 mK:Ey ops D
 g:k' E μ
 im:ej σ j_ s.h ih.heap μ (S q).h w.heap
 same:dC ih w
 qQ:s.h.next+ops.size<=(S q).h.next
 qP:∀i,i<ops.size->D i=false->μ (s.h.next+i)=none
 dS:∀i o f ob,ops[i]? =some o->kindOf E o.op=.make->h5 ops (S i).r o=true->kA E (S i).r o.op=some (f,ob)->D i=false->∀x,(S q).h.dS.get (s.h.next+i)=some x->x=ob
 put:∀i,q<=i->i<ops.size->(S q).h.dS.get (s.h.next+i)=none
 made:∀i o f ob,ops[i]? =some o->kindOf E o.op=.make->h5 ops (S i).r o=true->kA E (S i).r o.op=some (f,ob)->D i=true->
  ∃loc,μ (s.h.next+i)=some loc/\ih.heap.size<=loc.b/\(q<=i->hq σ μ ob loc w.heap[loc.b]?)
 bare:∀i loc,i<ops.size->μ (s.h.next+i)=some loc->ih.heap.size<=loc.b
 hJ:l6 σ μ s.n (hg s.r ops V D ops.size) a.tmps
 defs:vA μ s.ds a.defers
theorem i'.next(fg:Text E F ops bs s S V){D:Nat->Bool}{q:Nat}{μ:Map}{w:World}{a:Act}(j:i' P E σ ops S V s j_ ih D q μ w a){o:Oper}(bg:ops[q]? =some o)(av:kindOf E o.op≠.act) :
  i' P E σ ops S V s j_ ih D (q+1) μ w a:=by
 have aF:q<ops.size:=(Array.getElem?_eq_some_iff.1 bg).1;have st:=fg.DB q o bg
 have FK:∀i o,ops[i]? =some o->kindOf E o.op=.act->(D i=true↔i<q+1):=λi cg af zQ=>by
  rw[j.kN i cg af zQ];constructor
  ·intro h;omega
  ·intro h;have:i≠q:=λe=>by subst e;rw[bg]at af;cases af;exact av zQ
   omega
 have stay:(S (q+1)).h=(S q).h->i' P E σ ops S V s j_ ih D (q+1) μ w a:=λe=>
  {le:=aF,kN:=FK,mK:=j.mK,g:=j.g,im:=by rw[e];exact j.im,same:=j.same,qQ:=by rw[e];exact j.qQ,qP:=j.qP,dS:=by rw[e];exact j.dS
   put:=λi h1 ab=>by rw[e];exact j.put i (by omega) ab
   made:=λi o f ob h1 ab al aE aL=>let⟨loc,ao,a2,a3⟩:=j.made i o f ob h1 ab al aE aL;⟨loc,ao,a2,λh=>a3 (by omega)⟩
   bare:=j.bare,hJ:=j.hJ,defs:=j.defs}
 cases aN:h5 ops (S q).r o with
 |false=>exact stay (st.off aN).2
 |true=>
  cases iV:kindOf E o.op with
  |act=>exact absurd iV av
  |look=>exact stay (st.look iV aN).2
  |make=>
   obtain⟨f,ob,aw,ai,aD⟩:=st.make iV aN;have aW:=j.put q (Nat.le_refl _) aF;have b6:s.h.next+q<(S q).h.next:=Nat.lt_of_lt_of_le (by omega) j.qQ
   have xP:∀loc,μ (s.h.next+q)=some loc->hq σ μ ob loc w.heap[loc.b]? :=λloc ay=>by
    cases fz:D q with
    |false=>rw[j.qP q aF fz]at ay;cases ay
    |true=>
     obtain⟨Mg,ao,a2,a3⟩:=j.made q o f ob bg iV aN aw fz;rw[ay]at ao;cases ao;exact a3 (Nat.le_refl _)
   exact
    {le:=aF,kN:=FK,mK:=j.mK,g:=j.g,same:=j.same
     im:=
      {ext:=j.im.ext
       rel:=by rw[aD];exact j.im.rel.fresh aW b6 xP
       next:=by rw[aD];exact j.im.next
       nC:=j.im.nC
       kept:=λid hid ag=>by rw[aD,nJ,if_neg (by omega)];exact j.im.kept id hid ag
       size:=j.im.size
       own:=λb aj ⟨id,loc,x,h1,ab,al,aE⟩=>by
        rw[aD,nJ]at ab;by_cases e:id=s.h.next+q
        ·rw[e]at h1;have:=j.bare q loc aF h1;omega
        ·rw[if_neg e]at ab;exact j.im.own b aj ⟨id,loc,x,h1,ab,al,aE⟩
       frame:=j.im.frame}
     qQ:=by rw[aD];exact j.qQ
     qP:=j.qP
     dS:=λi cg ht mq h1 ab al aE aL x ag=>by
      rw[aD,nJ]at ag;by_cases e:s.h.next+i=s.h.next+q
      ·have:i=q:=by omega
       subst this;rw[if_pos e]at ag;cases ag;rw[bg]at h1;cases h1;rw[aw]at aE;cases aE;rfl
      ·rw[if_neg e]at ag;exact j.dS i cg ht mq h1 ab al aE aL x ag
     put:=λi h1 ab=>by rw[aD,nJ,if_neg (by omega)];exact j.put i (by omega) ab
     made:=λi o f ob h1 ab al aE aL=>let⟨loc,ao,a2,a3⟩:=j.made i o f ob h1 ab al aE aL;⟨loc,ao,a2,λh=>a3 (by omega)⟩
     bare:=j.bare,hJ:=j.hJ,defs:=j.defs}
theorem i'.on(fg:Text E F ops bs s S V){D:Nat->Bool}{μ:Map}{w:World}{a:Act} :∀(m q:Nat),i' P E σ ops S V s j_ ih D q μ w a->q+m<=ops.size->
  (∀i o,ops[i]? =some o->q<=i->i<q+m->kindOf E o.op≠.act)->i' P E σ ops S V s j_ ih D (q+m) μ w a
 |0,q,j,_,_=>j
 |m+1,q,j,hle,e7=>by
  have bg:ops[q]? =some ops[q]:=Array.getElem?_eq_getElem (by omega);have:=i'.on fg m (q+1) (j.next fg bg (e7 q _ bg (Nat.le_refl _) (by omega))) (by omega) λi o af h1 ab=>e7 i o af (by omega) (by omega)
  rwa[show q+1+m=q+(m+1)by omega]at this
theorem l6.congr{n:Nat}{r cR:bE}{tmps:Array Value}{μ:Map}(h:∀t,cR.get t=r.get t)(an:l6 σ μ n r tmps) :l6 σ μ n cR tmps:=⟨an.1,λi=>by rw[h];exact an.2 i⟩
theorem i'.op(ok:dL P E σ)(eF:lB P E σ F)(fg:Text E F ops bs s S V){D:Nat->Bool}{p k5 i:Nat}{μ:Map}{w:World}{a:Act}(j:i' P E σ ops S V s j_ ih D p μ w a){o:Oper}
  (af:ops[i]? =some o) (aw:D i=false) (an:y8 ops D o)
  (oa:kB E F ops o {r:=hg s.r ops V D ops.size,n:=s.n,ds:=s.ds,h:=(S p).h}=some {r:=gP (hg s.r ops V D ops.size) o.dst (V i),n:=s.n,ds:=s.ds,h:=(S k5).h})
  (Up:p<=k5) (nv:k5<=ops.size) (FK:∀j o,ops[j]? =some o->kindOf E o.op=.act->(l7 D i j=true↔j<k5))
  (e7:kindOf E o.op=.make->h5 ops (S i).r o=true->False) (b:Frame) (k:List Item) (cs:List Frame) (rest:List Nat) :
  ∃bS aZ e',i' P E σ ops S V s j_ ih (l7 D i) k5 bS aZ e'/\Steps P (lone (b.atR a (.inRegion ops (i::rest)::k)) cs w) (lone (b.atR e' (.inRegion ops rest::k)) cs aZ):=by
 obtain⟨bS,aZ,e',c5,dr,eu,e2⟩:=WC ok eF af oa (a:=a) (μ:=μ) (w:=w) ⟨j.g,j.im.rel,j.hJ,j.defs⟩ b k cs (rest:=rest);refine⟨bS,aZ,e',?_,e2⟩;have b6:∀i,i<ops.size->s.h.next+i<(S p).h.next:=λi af=>Nat.lt_of_lt_of_le (by omega) j.qQ
 have qC:=j.im.size
 exact
  {le:=nv,kN:=FK
   mK:=λx fo ag fz e he aj=>by
    by_cases ex:x=i
    ·subst ex;rw[af]at ag;cases ag;have:=an e he aj;simp only[l7,this,Bool.true_or]
    ·rw[oF D ex]at fz;have:=j.mK x fo ag fz e he aj;simp only[l7,this,Bool.true_or]
   g:=eu.g
   im:=j.im.trans c5
   same:=j.same.trans dr
   qQ:=Nat.le_trans j.qQ c5.next
   qP:=λx ag fz=>by
    have ex:x≠i:=λe=>by subst e;rw[xa]at fz;cases fz
    rw[oF D ex]at fz;exact c5.nC _ (b6 x ag) (j.qP x ag fz)
   dS:=λx fo f ob h1 ab al aE aL y aq=>by
    have ex:x≠i:=λe=>by subst e;rw[xa]at aL;cases aL
    rw[oF D ex]at aL;have ag:=(Array.getElem?_eq_some_iff.1 h1).1;have e:=c5.kept _ (b6 x ag) (.inl (j.qP x ag aL));dsimp only at e;rw[e]at aq;exact j.dS x fo f ob h1 ab al aE aL y aq
   put:=λx h1 ab=>by have ag:=j.put x (by omega) ab;have e:=c5.kept _ (b6 x ab) (.inr ag);dsimp only at e;rw[e];exact ag
   made:=λx fo f ob h1 ab al aE aL=>by
    have ex:x≠i:=λe=>by subst e;rw[af]at h1;cases h1;exact e7 ab al
    rw[oF D ex]at aL;obtain⟨loc,ao,a2,a3⟩:=j.made x fo f ob h1 ab al aE aL;refine⟨loc,c5.ext _ _ ao,a2,λag=> ?_⟩;have hl:=(Array.getElem?_eq_some_iff.1 h1).1;have Ct:=j.put x (by omega) hl;have aj:=j.im.rel.lt _ _ ao
    have e7:¬Own μ (S p).h loc.b:=by rintro⟨id,bQ,y,eA,gr,jO,h9⟩;have:=j.im.rel.inj (s.h.next+x) id loc bQ ao eA h9.symm (λz aP=>by rw[Ct]at aP;cases aP) (λaC=>by rw[gr]at aC;cases aC;cases jO);rw[<-this,Ct]at gr;cases gr
    have qo:aZ.heap[loc.b]? =w.heap[loc.b]? :=c5.frame loc.b aj e7;rw[qo];exact(a3 (by omega)).ext c5.ext
   bare:=λx loc ag hm=>by
    cases z8:μ (s.h.next+x)with
    |none=>
     have:=c5.nC _ (b6 x ag) z8;rw[hm]at this;cases this
    |some bQ=>
     have:=c5.ext _ _ z8;rw[hm]at this;cases this;exact j.bare x _ ag z8
   hJ:=eu.r.congr λt=>Xd fg.hH j.mK af an aw t
   defs:=eu.d}
theorem i'.new(ok:dL P E σ)(fg:Text E F ops bs s S V){D:Nat->Bool}{p i:Nat}{μ:Map}{w:World}{a:Act}(j:i' P E σ ops S V s j_ ih D p μ w a){o:Oper}
  (af:ops[i]? =some o) (aw:D i=false) (an:y8 ops D o) (av:kindOf E o.op=.make) (aN:h5 ops (S i).r o=true) (b:Frame) (k:List Item) (cs:List Frame) (rest:List Nat) :
  ∃bS aZ e',i' P E σ ops S V s j_ ih (l7 D i) p bS aZ e'/\Steps P (lone (b.atR a (.inRegion ops (i::rest)::k)) cs w) (lone (b.atR e' (.inRegion ops rest::k)) cs aZ):=by
 have b6:=(Array.getElem?_eq_some_iff.1 af).1;have st:=fg.DB i o af;obtain⟨f,ob,fK,ai,aD⟩:=st.make av aN;obtain⟨aG,aT,bJ⟩:=fg.shape i (by omega);have pr:=Xe (r0:=s.r) (V:=V) fg.hH j.mK af an aw;rw[<-bJ]at pr;have agF:kA E (hg s.r ops V D ops.size) o.op=some (f,ob):=by rw[VR o.op pr.operand];exact fK
 obtain⟨x,obj,room,aZ,h1,ab,al,aE⟩:=VS (P:=P) (σ:=σ) (μ:=μ) ok j.g j.hJ.2 agF w;have z8:=j.qP i b6 aw;have jH:=Map.q7 μ (id:=s.h.next+i) ⟨w.heap.size,0,room⟩ z8;obtain⟨cS,dm⟩:=aE (μ.az (s.h.next+i) ⟨w.heap.size,0,room⟩) (s.h.next+i) jH (Map.iS _ _ _);refine⟨μ.az (s.h.next+i) ⟨w.heap.size,0,room⟩,aZ,a.put o.dst x,?_,?_⟩
 ·have jx:s.h.next+i<(S p).h.next:=Nat.lt_of_lt_of_le (by omega) j.qQ;have qC:=j.im.size
  exact
   {le:=j.le
    kN:=λy hV aq Lb=>by
     have:y≠i:=λe=>by subst e;rw[af]at aq;cases aq;rw[av]at Lb;cases Lb
     rw[oF D this];exact j.kN y hV aq Lb
    mK:=λx fo ag fz e he aj=>by
     by_cases ex:x=i
     ·subst ex;rw[af]at ag;cases ag;have:=an e he aj;simp only[l7,this,Bool.true_or]
     ·rw[oF D ex]at fz;have:=j.mK x fo ag fz e he aj;simp only[l7,this,Bool.true_or]
    g:=j.g.ext jH
    im:=
     {ext:=j.im.ext.trans jH
      rel:=by rw[ab];exact j.im.rel.make z8 jx dm λq aF=>j.dS i o f ob af av aN fK aw q aF
      next:=j.im.next
      nC:=λid hid ag=>by rw[Map.kn _ _ (by omega)];exact j.im.nC id hid ag
      kept:=j.im.kept
      size:=by rw[ab,Array.size_push];omega
      own:=λb aj ⟨id,loc,y,eA,gr,jO,h9⟩=>by
       by_cases e:id=s.h.next+i
       ·rw[e,Map.iS]at eA;cases eA;simp only at h9;omega
       ·rw[Map.kn _ _ e]at eA;exact j.im.own b aj ⟨id,loc,y,eA,gr,jO,h9⟩
      frame:=λb aj e7=>by
       have gK:b<w.heap.size:=Nat.lt_of_lt_of_le aj qC;rw[ab,Array.getElem?_push_lt gK,<-Array.getElem?_eq_getElem gK]
       exact j.im.frame b aj e7}
    same:=j.same.trans al
    qQ:=j.qQ
    qP:=λy aq fz=>by
     have sF:y≠i:=λe=>by subst e;rw[xa]at fz;cases fz
     rw[oF D sF]at fz;rw[Map.kn _ _ (by omega)];exact j.qP y aq fz
    dS:=λy hV ht mq eA gr jO h9 kD z aP=>by
     have sF:y≠i:=λe=>by subst e;rw[xa]at kD;cases kD
     rw[oF D sF]at kD;exact j.dS y hV ht mq eA gr jO h9 kD z aP
    put:=j.put
    made:=λy hV ht mq eA gr jO h9 kD=>by
     by_cases sF:y=i
     ·subst sF;rw[af]at eA;cases eA;rw[fK]at h9;cases h9;exact⟨_,Map.iS _ _ _,qC,λ_=>by rw[ab];simpa using dm⟩
     ·rw[oF D sF]at kD;obtain⟨loc,ao,a2,a3⟩:=j.made y hV ht mq eA gr jO h9 kD;refine⟨loc,jH _ _ ao,a2,λag=> ?_⟩;have aj:=j.im.rel.lt _ _ ao;rw[ab,Array.getElem?_push_lt aj,<-Array.getElem?_eq_getElem aj];exact(a3 ag).ext jH
    bare:=λy loc aq hm=>by
     by_cases sF:y=i
     ·subst sF;rw[Map.iS]at hm;cases hm;exact qC
     ·rw[Map.kn _ _ (by omega)]at hm;exact j.bare y loc aq hm
    hJ:=by
     refine l6.congr (λt=>Xd fg.hH j.mK af an aw t) ?_;have aC:=st.dst;rw[aG]at aC;rw[ai];have base:=j.hJ.ext jH;cases xF:o.dst with
     |none=>exact base
     |some d=>exact base.put (aC d xF) cS
    defs:=by
     have:(a.put o.dst x).defers=a.defers:=by cases o.dst<;>rfl
     rw[this]
     exact j.defs.ext jH}
 ·have hw:Region.wanted o (yielded ops a.tmps)=true:=by rw[TC j.hJ ops o,pr.guard,aN]
  have db:∀c,o.op≠.defer c:=λc aH=>by rw[aH]at av;cases av
  have xX:=stepGR_op (P:=P) (b:=b) (k:=k) (cs:=cs) (w:=w) (rest:=rest) af hw;rw[Oper.semAt_eq _ _ _ db,BW b a]at xX
  have sW:∀v,(b.atR a (.inRegion ops (i::rest)::k)).finish v=b.atR (a.put o.dst v) (.inRegion ops rest::k):=by intro v;rw[Frame.finish_atR,af];rfl
  refine .one (step_lone_go ?_);rw[xX,<-sW];simp[stepG.apply,h1]
end
section
variable{P:Program}{E:Env}{σ:Nat->Int}{F:gT}{ops:Array Oper}{bs:List Nat}{S:Nat->cU}{V:Nat->aa}{s:cU}{j_:Map}{ih:World}
theorem i'.to(fg:Text E F ops bs s S V){D:Nat->Bool}{μ:Map}{w:World}{a:Act} :∀(m q:Nat),ops.size-q<=m->i' P E σ ops S V s j_ ih D q μ w a->
  ∃p,i' P E σ ops S V s j_ ih D p μ w a/\∀o,ops[p]? =some o->kindOf E o.op=.act
 |0,q,hm,j=>⟨q,j,λo bg=>by have:=(Array.getElem?_eq_some_iff.1 bg).1;omega⟩
 |m+1,q,hm,j=>by
  cases bg:ops[q]? with
  |none=>exact⟨q,j,λo h=>by rw[bg]at h;cases h⟩
  |some o=>
   have aF:=(Array.getElem?_eq_some_iff.1 bg).1;by_cases av:kindOf E o.op=.act
   ·exact⟨q,j,λcg h=>by rw[bg]at h;cases h;exact av⟩
   ·exact i'.to fg m (q+1) (by omega) (j.next fg bg av)
theorem aa9(hH:Order E ops bs){i j:Nat}{x y:Oper}(af:ops[i]? =some x)(aO:ops[j]? =some y)(b6:i<j)(ag:kindOf E x.op=.act)(aq:kindOf E y.op=.act) :ka (bs.getD j 0) i=true:=by
 rcases hH.pair i j x y af aO b6 with h|h
 ·exact h
 ·have:=h.1;simp[CT,ag,aq]at this
theorem i'.one(ok:dL P E σ)(eF:lB P E σ F)(fg:Text E F ops bs s S V){D:Nat->Bool}{q i:Nat}{μ:Map}{w:World}{a:Act}(j:i' P E σ ops S V s j_ ih D q μ w a){o:Oper}
  (af:ops[i]? =some o) (aw:D i=false) (an:y8 ops D o) (b:Frame) (k:List Item) (cs:List Frame) (rest:List Nat) :
  ∃k5 bS aZ e',i' P E σ ops S V s j_ ih (l7 D i) k5 bS aZ e'/\Steps P (lone (b.atR a (.inRegion ops (i::rest)::k)) cs w) (lone (b.atR e' (.inRegion ops rest::k)) cs aZ):=by
 have b6:=(Array.getElem?_eq_some_iff.1 af).1;have st:=fg.DB i o af;obtain⟨aG,aT,bJ⟩:=fg.shape i (by omega);have pr:=Xe (r0:=s.r) (V:=V) fg.hH j.mK af an aw;rw[<-bJ]at pr;have xF:=st.dst;rw[aG]at xF
 have same:∀{p:Nat},i' P E σ ops S V s j_ ih D p μ w a->kindOf E o.op≠.act->(kindOf E o.op=.make->h5 ops (S i).r o=true->False)->
   kB E F ops o {r:=hg s.r ops V D ops.size,n:=s.n,ds:=s.ds,h:=(S p).h}=some {r:=gP (hg s.r ops V D ops.size) o.dst (V i),n:=s.n,ds:=s.ds,h:=(S p).h}->
   ∃k5 bS aZ e',i' P E σ ops S V s j_ ih (l7 D i) k5 bS aZ e'/\Steps P (lone (b.atR a (.inRegion ops (i::rest)::k)) cs w) (lone (b.atR e' (.inRegion ops rest::k)) cs aZ):=by
  intro p jp pA F5 ea;refine⟨p,jp.op ok eF fg af aw an ea (Nat.le_refl _) jp.le (λx fo ag pz=> ?_) F5 b k cs rest⟩;have:x≠i:=λe=>by subst e;rw[af]at ag;cases ag;exact pA pz
  rw[oF D this];exact jp.kN x fo ag pz
 have off:h5 ops (S i).r o=false->kindOf E o.op≠.act->
   ∃k5 bS aZ e',i' P E σ ops S V s j_ ih (l7 D i) k5 bS aZ e'/\Steps P (lone (b.atR a (.inRegion ops (i::rest)::k)) cs w) (lone (b.atR e' (.inRegion ops rest::k)) cs aZ):=by
  intro aN pA;refine same j pA (λ_ h=>by rw[aN]at h;cases h) ?_;unfold kB;simp only[pr.guard,aN];rw[oq (s:={r:=hg s.r ops V D ops.size,n:=s.n,ds:=s.ds,h:=(S q).h}) xF,(st.off aN).1]
 cases av:kindOf E o.op with
 |act=>
  have uj:∀x fo,ops[x]? =some fo->kindOf E fo.op=.act->x<i->D x=true:=λx fo ag pz Gq=>fg.hH.ahead j.mK af an (aa9 fg.hH ag af Gq pz av)
  have atw:q<=i:=by
   rcases Nat.lt_or_ge i q with h|h
   ·have:=(j.kN i o af av).2 h;rw[aw]at this;cases this
   ·exact h
  have L4:=j.on fg (i-q) q (by omega) λx fo ag h1 ab pz=>by have:=(j.kN x fo ag pz).1 (uj x fo ag pz (by omega));omega
  rw[show q+(i-q)=i by omega]at L4;have ea:=st.act av (hg s.r ops V D ops.size) pr;rw[aG,aT]at ea;refine⟨i+1,L4.op ok eF fg af aw an ea (Nat.le_succ _) b6 (λx fo ag pz=> ?_) (λh=>by rw[av]at h;cases h) b k cs rest⟩;by_cases ex:x=i
  ·subst ex;rw[xa];simp
  ·rw[oF D ex,L4.kN x fo ag pz];omega
 |make=>
  cases aN:h5 ops (S i).r o with
  |false=>exact off aN (by rw[av];simp)
  |true=>exact⟨q,j.new ok fg af aw an av aN b k cs rest⟩
 |look=>
  cases aN:h5 ops (S i).r o with
  |false=>exact off aN (by rw[av];simp)
  |true=>
   obtain⟨p,jp,aI⟩:=j.to fg (ops.size-q) q (Nat.le_refl _);refine same jp (by rw[av];simp) (λh=>by rw[av]at h;cases h) ?_;have hw:=fg.look i o af av aN
   have oX:=VD (E:=E) (D:=λx=>D x=true) (p:=p) (λx aj=>fg.hH.ahead jp.mK af an aj)
    (λx ag aj=>by
      have ahH:x<ops.size\/¬x<ops.size:=Nat.lt_or_ge x ops.size|>.imp id (λh=>by omega);rcases ahH with gm|gm
      ·have Cu:ops[x]? =some ops[x]:=Array.getElem?_eq_getElem gm;have:=fg.hH.ahead jp.mK Cu (jp.mK x _ Cu ag) aj;rw[aw]at this;cases this
      ·obtain⟨_,ab⟩:=Jh ops.toList [];rw[fg.hH.bits]at aj
       have hlen:(lf ops.toList []).length=ops.size:=by
        have:∀(l:List Oper) (acc:List Nat),(lf l acc).length=acc.length+l.length:=by
         intro l;induction l with
         |nil=>intro acc;rfl
         |cons y en b1=>intro acc;simp only[lf,b1,List.length_append,List.length_cons,List.length_nil];omega
        rw[this];simp
       have:(lf ops.toList []).getD x 0=0:=by rw[List.getD_eq_getElem?_getD,List.getElem?_eq_none (by omega)];rfl
       rw[this,BD]at aj
       simp at aj)
    ops.toList 0 (by simp) (Nat.zero_le _) jp.le
    (λx fo ag mh pz=>(jp.kN _ fo (by simpa using ag) pz).2 (by simpa using mh))
    (λx fo ag he=>by
      have hl:ops[x]? =some fo:=by simpa using ag
      rw[Nat.zero_add]at he;subst he;refine⟨aI fo hl,λfz=> ?_⟩;have:=(jp.kN x fo hl (aI fo hl)).1 fz
      omega) hw
   unfold rW at oX;dsimp only at oX;split at oX
   ·rename_i v ai;have cQ:=aa.Ji _ _ oX;subst cQ;have ay:fi E (hg s.r ops V D ops.size) (S p).h o.op=some (V i):=by rw[VC o.op pr.operand];exact ai
    unfold kB;simp only[pr.guard,aN,jN,av,ay,o9.MZ];rw[oq (s:={r:=hg s.r ops V D ops.size,n:=s.n,ds:=s.ds,h:=(S p).h}) xF]
   ·cases oX
theorem ad_{p k5:Nat->Bool}{l:List Nat}{i:Nat}(af:i∈l)(aI:p i=true)(nv:k5 i=false)(hle:∀x,k5 x=true->p x=true) :(l.filter k5).length<(l.filter p).length:=by
 induction l with
 |nil=>cases af
 |cons y en b1=>
  have f_:(en.filter k5).length<=(en.filter p).length:=by
   clear b1 af;induction en with
   |nil=>simp
   |cons z Iw b1=>
    simp only[List.filter_cons];cases h1:k5 z with
    |true=>rw[hle z h1];simpa using b1
    |false=>cases ab:p z<;>simp<;>omega
  simp only[List.filter_cons];rcases List.mem_cons.1 af with rfl|af
  ·rw[aI,nv];simp;omega
  ·have:=b1 af;cases h1:k5 y with
   |true=>rw[hle y h1];simpa using this
   |false=>cases ab:p y<;>simp<;>omega
theorem XT{D:Nat->Bool} :∀(m:Nat),(∃i,i<m/\D i=false)->∃i,i<m/\D i=false/\∀x,x<i->D x=true
 |0,⟨i,h,_⟩=>by omega
 |m+1,⟨i,h,aC⟩=>by
  by_cases hex:∃i,i<m/\D i=false
  ·obtain⟨x,h1,ab,al⟩:=XT m hex;exact⟨x,by omega,ab,al⟩
  ·have as9:i=m:=by
    rcases Nat.lt_or_ge i m with bC|bC
    ·exact absurd ⟨i,bC,aC⟩ hex
    ·omega
   refine⟨i,h,aC,λx ag=> ?_⟩;cases fz:D x with
   |true=>rfl
   |false=>exact absurd ⟨x,by omega,fz⟩ hex
theorem Vv(fg:Text E F ops bs s S V){D:Nat->Bool}{q:Nat}{μ:Map}{w:World}{a:Act}(j:i' P E σ ops S V s j_ ih D q μ w a)(hD:∀i,i<ops.size->D i=true)
  (b:Frame) (k:List Item) (cs:List Frame) :Ends P E σ b j_ s.h ih (lone (b.atR a (.inRegion ops []::k)) cs w) k cs .normal (S ops.size):=by
 have hle:=j.le
 have x6:=j.on fg (ops.size-q) q (by omega) λx fo ag h1 ab pz=>by have:=(j.kN x fo ag pz).1 (hD x (Array.getElem?_eq_some_iff.1 ag).1);omega
 rw[show q+(ops.size-q)=ops.size by omega]at x6;obtain⟨aG,aT,bJ⟩:=fg.shape ops.size (Nat.le_refl _);refine⟨μ,w,a,x6.im,x6.same,⟨x6.g,x6.im.rel,?_,by rw[aT];exact x6.defs⟩,.one stepR_region_end⟩;rw[aG,bJ,<-anW hD ops.size (Nat.le_refl _)];exact x6.hJ
theorem akH(ok:dL P E σ)(eF:lB P E σ F)(fg:Text E F ops bs s S V)(b:Frame)(k:List Item)(cs:List Frame) :∀(fuel t:Nat) (listed:Array Bool) (q:Nat) (μ:Map) (w:World) (a:Act),
  listed.size=ops.size->((List.range ops.size).filter λi=> !listed.getD i false).length<=fuel->i' P E σ ops S V s j_ ih (λi=>listed.getD i false) q μ w a->
   Ends P E σ b j_ s.h ih (lone (b.atR a (.inRegion ops (Region.linearise.go .any ops fuel t listed [])::k)) cs w) k cs .normal (S ops.size):=by
 intro fuel;induction fuel with
 |zero=>
  intro t listed q μ w a eR aJ j
  have hD:∀i,i<ops.size->listed.getD i false=true:=λi af=>by
   cases fz:listed.getD i false with
   |true=>rfl
   |false=>
    have:i∈(List.range ops.size).filter λi=> !listed.getD i false:=by rw[List.mem_filter];exact⟨List.mem_range.2 af,by simp only[fz];rfl⟩
    rw[List.eq_nil_of_length_eq_zero (Nat.le_zero.1 aJ)]at this;cases this
  simp only[Region.linearise.go,List.reverse_nil];exact Vv fg j hD b k cs
 |succ fuel b1=>
  intro t listed q μ w a eR aJ j;simp only[Region.linearise.go]
  change Ends P E σ b j_ s.h ih (lone (b.atR a (.inRegion ops (match(Region.ready .any ops listed)[t%(Region.ready .any ops listed).length]? with
   |some i=>Region.linearise.go .any ops fuel (t/(Region.ready .any ops listed).length) (listed.setIfInBounds i true) [i]
   |none=>[].reverse)::k)) cs w) k cs .normal (S ops.size)
  cases af:(Region.ready .any ops listed)[t%(Region.ready .any ops listed).length]? with
  |none=>
   have Lk:Region.ready .any ops listed=[]:=by
    cases an:Region.ready .any ops listed with
    |nil=>rfl
    |cons x xs=>
     rw[an]at af;have b6:t%(x::xs).length<(x::xs).length:=Nat.mod_lt _ (by simp);simp at af;simp at b6;omega
   have hD:∀i,i<ops.size->listed.getD i false=true:=λi af=>by
    cases fz:listed.getD i false with
    |true=>rfl
    |false=>
     obtain⟨x,h1,ab,al⟩:=XT (D:=λi=>listed.getD i false) ops.size ⟨i,af,fz⟩
     have ag:x∈Region.ready .any ops listed:=by
      rw[mem_ready];have Cu:ops[x]? =some ops[x]:=Array.getElem?_eq_getElem h1;refine⟨?_,_,Cu,λe he aj=>al e.on (fg.hH.J3 x _ Cu e he aj)⟩;have gm:x<listed.size:=by omega
      simp[gm]at ab|-;exact ab
     rw[Lk]at ag;cases ag
   simp only[List.reverse_nil];exact Vv fg j hD b k cs
  |some i=>
   obtain⟨h0,o,bg,hD⟩:=mem_ready.1 (List.mem_of_getElem? af);have b6:=(Array.getElem?_eq_some_iff.1 bg).1;have Cp:i<listed.size:=by omega
   have aw:listed.getD i false=false:=by simp[Cp]at h0|-;exact h0
   simp only;rw[linearise_go_acc,List.reverse_singleton,List.singleton_append];obtain⟨k5,bS,aZ,e',Gw,ea⟩:=j.one ok eF fg bg aw (λe he aj=>hD e he aj) b k cs (Region.linearise.go .any ops fuel (t/(Region.ready .any ops listed).length) (listed.setIfInBounds i true) [])
   have fz:l7 (λi=>listed.getD i false) i=λx=>(listed.setIfInBounds i true).getD x false:=by
    funext x;by_cases ex:x=i
    ·subst ex;rw[xa];simp[Cp]
    ·rw[oF _ ex,getD_set_ne false (Ne.symm ex)]
   rw[fz]at Gw;refine(b1 _ (listed.setIfInBounds i true) k5 bS aZ e' (by simpa using eR) ?_ Gw).of_steps ea
   have:=ad_ (p:=λx=> !listed.getD x false) (k5:=λx=> !(listed.setIfInBounds i true).getD x false) (l:=List.range ops.size) (i:=i) (List.mem_range.2 b6) (by simp only[aw];rfl) (by simp[Cp])
    (λx ag=>by
      by_cases ex:x=i
      ·subst ex;simp only[aw];rfl
      ·simpa only[getD_set_ne false (Ne.symm ex)]using ag)
   omega
theorem adg(ok:dL P E σ)(eF:lB P E σ F) :IA P E σ F:=by
 intro ops s aY he μ w a b id k cs rel;unfold ud at he;dsimp only at he;replace he:=dV he;obtain⟨ahd,he⟩:=he;split at he
 ·rename_i s1 gs ls ahl;replace he:=dV he;obtain⟨Lf,he⟩:=he;cases he;obtain⟨S,V,h1,ab,al,aE,aL,bm⟩:=YH ops.toList 0 _ [] [] _ gs ls ahl;rw[Nat.zero_add,Array.length_toList]at ab;have spec:=X_ ops.toList 0 ahd
  have fg:Text E F ops (lf ops.toList []) s S V:=
   {hH:=
     {pair:=λi j x y af aO b6=>by
       have:=(spec j y (by simpa using aO)).2 i x af (by omega);simpa using this
      J3:=λj o aO e he aj=>by have:=(spec j o (by simpa using aO)).1 e he aj;omega
      bits:=rfl}
    start:=h1
    DB:=λk o av=>by have:=al k o (by simpa using av);simpa using this
    look:=λk o av af_ aN=>by
     have fZ:=bm k o (by simpa using av) af_ (by simpa using aN);rw[Nat.zero_add]at fZ;have:=VE Lf _ fZ;rw[aE,List.append_nil,List.reverse_reverse]at this;rw[ab]
     exact this}
  have afi:dU σ μ (S 0).h w.heap:=by
   rw[h1]
   exact
    {obj:=rel.h.obj,inj:=rel.h.inj,lt:=rel.h.lt
     hW:=λi af=>rel.h.hW i (by simp only at af;omega)
     k8:=λi af=>rel.h.k8 i (by simp only at af;omega)}
  have L2:i' P E σ ops S V s μ w (λi=>(Array.replicate ops.size false).getD i false) 0 μ {w with drawn:=w.drawn+1} a:=
   {le:=Nat.zero_le _
    kN:=λj o aO _=>by have:=(Array.getElem?_eq_some_iff.1 aO).1;simp[this]
    mK:=λj o aO fz=>by have:=(Array.getElem?_eq_some_iff.1 aO).1;simp[this]at fz
    g:=rel.g
    im:=
     {ext:=Ext.refl _,rel:=afi
      next:=by rw[h1];simp only;omega
      nC:=λ_ _ h=>h
      kept:=λ_ _ _=>by rw[h1]
      size:=Nat.le_refl _
      own:=λb aj bg=>by rw[h1]at bg;exact bg
      frame:=λ_ _ _=>rfl}
    same:=⟨rfl,rfl,rfl⟩
    qQ:=by rw[h1];simp
    qP:=λi _ _=>rel.h.hW _ (by omega)
    dS:=λi o f ob _ _ _ _ _ x ag=>by rw[h1]at ag;simp only at ag;rw[rel.h.k8 _ (by omega)]at ag;cases ag
    put:=λi _ _=>by rw[h1];exact rel.h.k8 _ (by omega)
    made:=λi o f ob af _ _ _ fz=>by have:=(Array.getElem?_eq_some_iff.1 af).1;simp[this]at fz
    bare:=λi loc _ hm=>by rw[rel.h.hW _ (by omega)]at hm;cases hm
    hJ:=by
     have:∀k,k<=ops.size->hg s.r ops V (λi=>(Array.replicate ops.size false).getD i false) k=s.r:=by
      intro k;induction k with
      |zero=>intro _;rfl
      |succ k b1=>
       intro av;have kX:k<ops.size:=av;simp only[hg];rw[show(Array.replicate ops.size false).getD k false=false by simp[kX],cond_false];exact b1 (by omega)
     rw[this ops.size (Nat.le_refl _)];exact rel.r
    defs:=rel.d}
  have sW:=akH ok eF fg b k cs ops.size (w.tape w.drawn (.order b.fn id)) (Array.replicate ops.size false) 0 μ {w with drawn:=w.drawn+1} a (by simp)
   (by have:=List.length_filter_le (λi=> !(Array.replicate ops.size false).getD i false) (List.range ops.size);simpa using this) L2
  rw[ab]at sW;refine sW.of_steps (.one ?_);have oa:=stepR_region_draw (P:=P) (b:=b) (a:=a) (k:=k) (cs:=cs) (w:=w) (ops:=ops) (id:=id);rw[oa];simp only[Region.schedule,ok.mixed,Bool.true_or,if_true,Region.linearise]
 ·cases he
theorem Fw{p:cn}(ok:dL P E σ)(yn:vB P E σ p) :∀n,lB P E σ (fns E p n)
 |0=>{code:=λro c s x aY he=>(by cases he),call:=λf args h v bC he=>(by cases he)}
 |n+1=>step_ok ok yn (Fw ok yn n) (adg ok (Fw ok yn n))
end
open Go.RowKit
section
variable{P:Program}{E:Env}{σ:Nat->Int}
theorem LX{f:FuncId}{fn:Func}{body:Code}(ok:dL P E σ)(aJ:E.fn f=some fn)(aj:fn.body=some body)(us:Array Value)(w:World) :
  (inv (.func (.func f) #[] #[]) us).run P w=.ok (.enter f us) w:=by
 obtain⟨Cy,Li⟩:=ok.fn f fn aJ;simp only[inv,Deferred.ofValue,Sem.run_bind,Sem.run_pure,Result.andThen_ok,invoke,callFunc,run_program,Cy,Li,aj,Option.isNone_some,Bool.false_eq_true,if_false,Array.empty_append,Array.append_empty]
theorem Sl{F:gT}(ok:dL P E σ)(eF:lB P E σ F){f:FuncId}{fn:Func}{body:Code}(aJ:E.fn f=some fn)(aj:fn.body=some body){args:List aa}{h bC:ae}{v:aa}
  (he:F.call (.func f [] []) args h=some (v,bC)) {μ:Map} {w:World} {us:Array Value} (aN:k' E μ) (rel:dU σ μ h w.heap) (hu:cy σ μ args us.toList) :
  Calls P f us w λe aZ=>∃q bS,e=.returned q/\bL σ bS v q/\dC w aZ/\ej σ μ h w.heap bS bC aZ.heap:=by
 have aH:=eF.call _ _ _ _ _ he μ w (.func (.func f) #[] #[]) us aN rel ⟨#[], #[],rfl,rfl,rfl⟩ hu;have af:=LX ok aJ aj us w;rcases aH with⟨ht,asy,an,um⟩ |⟨_,_,_,_,_,an,_⟩ |⟨_,_,_,an,_⟩
 ·rw[af]at an;cases an;intro cs;obtain⟨fr,q,aZ,bS,h1,ab,al,aE,aL,bm⟩:=um cs;exact⟨.returned q,aZ,fr,⟨q,bS,rfl,bm,aE,aL⟩,h1,ab,al⟩
 ·rw[af]at an;cases an
 ·rw[af]at an;cases an
def ae.none:ae:={next:=0,dS:=.nil}
theorem dU.none(H:Array Obj) :dU σ (λ_=>Option.none) ae.none H where
 obj:=λ_ _ _ h=>by cases h
 inj:=λ_ _ _ _ h=>by cases h
 lt:=λ_ _ h=>by cases h
 hW:=λ_ _=>rfl
 k8:=λid _=>bu.get_nil id
theorem RX{μ bS:Map}{h bC:ae}{w aZ:World}(aA:dC w aZ)(hm:ej σ μ h w.heap bS bC aZ.heap)(e7:∀b,¬Own μ h b) :Below w.heap.size w aZ:=
 ⟨aA.1,aA.2.1,aA.2.2,hm.size,λk av=>hm.frame k av (e7 k)⟩
theorem VO{μ:Map}{h:ae}{w aZ:World}(rel:dU σ μ h w.heap)(aj:Below w.heap.size w aZ) :ej σ μ h w.heap μ h aZ.heap where
 ext:=Ext.refl _
 rel:=
  {obj:=λid loc o hm bg=>by rw[aj.block _ (rel.lt id loc hm)];exact rel.obj id loc o hm bg
   inj:=rel.inj
   lt:=λid loc hm=>Nat.lt_of_lt_of_le (rel.lt id loc hm) aj.size
   hW:=rel.hW
   k8:=rel.k8}
 next:=Nat.le_refl _
 nC:=λ_ _ h=>h
 kept:=λ_ _ _=>rfl
 size:=aj.size
 own:=λ_ _ h=>h
 frame:=λb b6 _=>aj.block b b6
theorem JA(ok:dL P E σ){f:FuncId}{fn:Func}{body:Code}(aJ:E.fn f=some fn)(aj:fn.body=some body){us:Array Value}{v:aa}{μ:Map}{h:ae}{w:World}(rel:dU σ μ h w.heap)
  (aH:Calls P f us w λe aZ=>∃q,e=.returned q/\bL σ μ v q/\Below w.heap.size w aZ) :vy P σ μ h w (.func (.func f) #[] #[]) us v h:=by
 refine .inl ⟨f,us,LX ok aJ aj us w,λcs=> ?_⟩;obtain⟨e,aZ,fr,⟨q,rfl,ai,jG⟩,h1,ab,al⟩:=aH cs;exact⟨fr,q,aZ,μ,h1,ab,al,⟨jG.os,jG.tape,jG.output⟩,VO rel jG,ai⟩
def wG:List (FuncId×(List aa->ae->Option (aa×ae)))->cn
 |[],_=>none
 |(f,q)::r,g=>bif Nat.beq g f then some q else wG r g
def y6(P:Program)(E:Env)(σ:Nat->Int)(f:FuncId)(q:List aa->ae->Option (aa×ae)) :Prop:=
 ∀args h v bC,q args h=some (v,bC)->∀μ w (us:Array Value),k' E μ->dU σ μ h w.heap->cy σ μ args us.toList->vy P σ μ h w (.func (.func f) #[] #[]) us v bC
theorem anf:vB P E σ (wG []):=λg q h=>by cases h
theorem Df{f:FuncId}{q:List aa->ae->Option (aa×ae)}{r:List (FuncId×(List aa->ae->Option (aa×ae)))}(h1:y6 P E σ f q)(ab:vB P E σ (wG r)) :vB P E σ (wG ((f,q)::r)):=by
 intro g dc h;simp only[wG]at h;cases aj:Nat.beq g f with
 |true=>
  rw[aj]at h;cases h;have:=Go.a8.beq_true.1 aj;subst this;exact h1
 |false=>rw[aj]at h;exact ab g dc h
def VW:TypeDesc->Bool
 | .struct fs=>fs.toList.all λf=>f.name != "_"
 |_=>true
def partsOf(P:Program) :TypeDesc->Option (List (Nat×Nat))
 | .struct fs=>fs.toList.mapM λf=>(P.info? f.type).map λi=>(f.offset,i.size)
 |_=>some []
structure I6(P:Program)(t:TypeId)(i:bK) :Prop where
 eI:P.underlying t=some i.desc
 info:((P.info? t).bind λinf=>inf.zero.bind λz=>(zl z).map λa=>(inf.size,inf.bytes,a))=some (i.size,i.bytes,i.zeroV)
 cells:i.zeroV.cells=i.zero
 parts:partsOf P i.desc=some i.parts
 y2:Nat.beq i.zero.length i.size=true
 NQ:(qF i.desc||Nat.beq i.size 1)=true
 plain:(!i.plain||(!P.stoodInHeld t&& !P.eqGuardType P.depth t&&VW i.desc))=true
theorem ak4(w:World)(fs:List Field)(l:List (Nat×Nat))(h:fs.mapM (λf=>(P.info? f.type).map λi=>(f.offset,i.size))=some l) :
  (fs.mapM (λf=>do pure (f.offset,<-sizeOf f.type) :Field->Sem (Nat×Nat))).run P w=.ok l w:=by
 have e:(λf=>do pure (f.offset,<-sizeOf f.type) :Field->Sem (Nat×Nat))=λf=>Prod.mk f.offset<$>sizeOf f.type:=by funext f;rw[map_eq_pure_bind]
 rw[e];exact run_places w fs l h
theorem I6.ok{t:TypeId}{i:bK}(h:I6 P t i) :I7 P σ t i where
 eI:=h.eI
 info:=by
  have:=h.info;cases af:P.info? t with
  |none=>rw[af]at this;cases this
  |some inf=>
   rw[af]at this;simp only[Option.bind_some]at this;cases aP:inf.zero with
   |none=>rw[aP]at this;cases this
   |some z=>
    rw[aP]at this;simp only[Option.bind_some]at this;cases aH:zl z with
    |none=>rw[aH]at this;cases this
    |some a=>
     rw[aH]at this;simp only[Option.map_some,Option.some.injEq,Prod.mk.injEq]at this;obtain⟨aG,aT,bJ⟩:=this;subst bJ;refine⟨inf,z,rfl,aG,aT,aP,λμ=>JK aH,λμ=> ?_⟩;have:=EZ (σ:=σ) (μ:=μ) (JK aH);rwa[h.cells]at this
 parts:=λfs aC w=>by have:=h.parts;rw[aC]at this;have:=ak4 (P:=P) w fs.toList i.parts this;rw[Array.mapM_eq_mapM_toList];simp only[map_eq_pure_bind,Sem.run_bind,this,Result.andThen_ok,Sem.run_pure]
 y2:=Go.a8.beq_true.1 h.y2
 NQ:=λbc=>by have:=h.NQ;rw[bc,Bool.false_or]at this;exact Go.a8.beq_true.1 this
 plain:=λaI=>by have:=h.plain;rw[aI]at this;simp only[Bool.not_true,Bool.false_or,Bool.and_eq_true,Bool.not_eq_true']at this;refine⟨this.1.1,this.1.2,λfs aC f aJ=> ?_⟩;have aj:=this.2;rw[aC]at aj;simp only[VW,List.all_eq_true]at aj;simpa using aj f aJ
def H9:List (TypeId×bK)->TypeId->Option bK
 |[],_=>none
 |(t,i)::r,u=>bif Nat.beq u t then some i else H9 r u
def I8(P:Program) :List (TypeId×bK)->Prop
 |[]=>True
 |(t,i)::r=>I6 P t i/\I8 P r
theorem aal:∀{l:List (TypeId×bK)},I8 P l->∀t i,H9 l t=some i->I7 P σ t i
 |[],_,t,i,h=>by cases h
 |(u,j)::r,⟨h1,ab⟩,t,i,h=>by
  simp only[H9]at h;cases aj:Nat.beq t u with
  |true=>
   rw[aj]at h;cases h;have:=Go.a8.beq_true.1 aj;subst this;exact h1.ok
  |false=>rw[aj]at h;exact aal ab t i h
def Fu:List (FuncId×Func)->FuncId->Option Func
 |[],_=>none
 |(f,fn)::r,g=>bif Nat.beq g f then some fn else Fu r g
def IX(P:Program) :List (FuncId×Func)->Prop
 |[]=>True
 |(f,fn)::r=>(P.funcs[f]? =some fn/\(fn.name== "runtime.NumGoroutine")=false)/\IX P r
theorem Tl:∀{l:List (FuncId×Func)},IX P l->∀f fn,Fu l f=some fn->P.funcs[f]? =some fn/\(fn.name== "runtime.NumGoroutine")=false
 |[],_,t,i,h=>by cases h
 |(u,j)::r,⟨h1,ab⟩,t,i,h=>by
  simp only[Fu]at h;cases aj:Nat.beq t u with
  |true=>
   rw[aj]at h;cases h;have:=Go.a8.beq_true.1 aj;subst this;exact h1
  |false=>rw[aj]at h;exact Tl ab t i h
end
structure nb(F G:gT) :Prop where
 call:∀f a h r,F.call f a h=some r->G.call f a h=some r
 code:∀ro c s r,F.code ro c s=some r->G.code ro c s=some r
section
variable{E:Env}{F G:gT}
theorem WB(le:nb F G){ops:Array Oper}{o:Oper}{s aY:cU}(h:kB E F ops o s=some aY) :kB E G ops o s=some aY:=by
 unfold kB at h|-;split at h
 ·exact h
 ·split at h
  ·exact h
  ·exact h
  ·rename_i f args aH;cases aJ:F.call f args s.h with
   |none=>rw[aJ]at h;cases h
   |some r=>rw[le.call _ _ _ _ aJ];rw[aJ]at h;exact h
  ·cases h
theorem S_(le:nb F G){ops:Array Oper} :∀{l:List Oper} {s aY:cU},mN E F ops l s=some aY->mN E G ops l s=some aY
 |[],s,aY,h=>h
 |o::rest,s,aY,h=>by
  unfold mN at h|-;cases bg:kB E F ops o s with
  |none=>rw[bg]at h;cases h
  |some s1=>rw[WB le bg];rw[bg]at h;exact S_ le h
theorem BU(le:nb F G){ops:Array Oper}{base:Nat} :∀{l:List Oper} {i:Nat} {s:cU} {gs:List (Nat×ae)} {ls:List Seen} {r},kd E F ops base l i s gs ls=some r->kd E G ops base l i s gs ls=some r
 |[],i,s,gs,ls,r,h=>h
 |o::rest,i,s,gs,ls,r,h=>by
  unfold kd at h|-;split at h
  ·rename_i av;cases bg:kB E F ops o s with
   |none=>rw[bg]at h;cases h
   |some s1=>rw[WB le bg];rw[bg]at h;exact BU le h
  ·rename_i av aN;split at h
   ·split at h
    ·exact BU le h
    ·cases h
   ·cases h
  ·split at h
   ·split at h
    ·exact BU le h
    ·cases h
   ·cases h
  ·split at h
   ·exact BU le h
   ·cases h
theorem adJ(le:nb F G){ops:Array Oper}{s aY:cU}(h:ud E F ops s=some aY) :ud E G ops s=some aY:=by
 unfold ud at h|-;dsimp only at h|-;cases aA:AS E ops (lf ops.toList []) ops.toList 0 with
 |false=>rw[aA]at h;cases h
 |true=>
  rw[aA]at h;dsimp only[cond]at h|-;split at h
  ·rename_i heq;rw[BU le heq];exact h
  ·cases h
theorem Ml{f g:cU->Option (eb×cU)}(le:∀s r,f s=some r->g s=some r) :∀{k:Nat} {s:cU} {r},pO k f s=some r->pO k g s=some r
 |0,s,r,h=>le s r h
 |k+1,s,r,h=>by
  unfold pO at h|-;cases ay:pO k f s with
  |none=>rw[ay]at h;cases h
  |some q=>
   rw[Ml le ay];rw[ay]at h;obtain⟨x,s1⟩:=q;cases x<;>first|exact Ml le h|exact h
theorem XE(le:nb F G){ro:Option Nat}{body:Code} :∀{k:Nat} {c:Code} {s:cU} {r},wS F ro body k c s=some r->wS G ro body k c s=some r
 |0,c,s,r,h=>by cases h
 |k+1,c,s,r,h=>by
  unfold wS at h|-;cases ay:F.code ro c s with
  |none=>rw[ay]at h;cases h
  |some q=>
   rw[le.code _ _ _ _ ay];rw[ay]at h;obtain⟨x,s1⟩:=q;cases x<;>first|exact h|skip
   dsimp only at h|-;split at h
   ·exact XE le h
   ·exact h
theorem anG(le:nb F G){ro:Option Nat}{fv:aa}{params:Array Tmp}{assign body:Code}{d:Nat}{s:cU}{r}(h:wM F ro fv params assign body d s=some r) :wM G ro fv params assign body d s=some r:=by
 unfold wM at h|-;cases ay:F.call fv [.yield s.h.next] (s.h.new (.loop .ready none s.n s.r params assign body d))with
 |none=>rw[ay]at h;cases h
 |some q=>
  rw[le.call _ _ _ _ ay];rw[ay]at h;obtain⟨v,g⟩:=q;dsimp only at h|-;split at h
  ·split at h
   ·cases h
   ·split at h
    ·exact h
    ·exact le.code _ _ _ _ h
  ·cases h
theorem acI(le:nb F G){ro:Option Nat}{c:Code}{s:cU}{r}(h:hj E F ro c s=some r) :hj E G ro c s=some r:=by
 unfold hj at h|-;cases c with
 |skip=>exact h
 |label=>exact h
 |exit=>exact h
 |goto=>exact h
 |ret=>exact h
 |refuse=>cases h
 |seq a b=>
  dsimp only at h|-;cases ay:F.code ro a s with
  |none=>rw[ay]at h;cases h
  |some q=>
   rw[le.code _ _ _ _ ay];rw[ay]at h;obtain⟨x,s1⟩:=q;cases x<;>first|exact h|exact le.code _ _ _ _ h
 |cond x a b=>
  dsimp only at h|-;split at h
  ·exact le.code _ _ _ _ h
  ·exact le.code _ _ _ _ h
  ·cases h
 |block id b=>
  dsimp only at h|-;cases ay:F.code ro b s with
  |none=>rw[ay]at h;cases h
  |some q=>
   rw[le.code _ _ _ _ ay];rw[ay]at h;exact h
 |loop b=>
  dsimp only at h|-;cases ay:pO 14 (F.code ro b) s with
  |none=>rw[ay]at h;cases h
  |some q=>
   rw[Ml (λs r=>le.code ro b s r) ay];rw[ay]at h;exact h
 |scope b=>exact XE le h
 |region i ops d=>
  cases d with
  |false=>
   dsimp only at h|-;cases ay:mN E F ops ops.toList s with
   |none=>rw[ay]at h;cases h
   |some q=>rw[S_ le ay];rw[ay]at h;exact h
  |true=>
   dsimp only at h|-;cases ay:ud E F ops s with
   |none=>rw[ay]at h;cases h
   |some q=>rw[adJ le ay];rw[ay]at h;exact h
 |rangeFunc f ps a b=>
  dsimp only at h|-;split at h
  ·cases h
  ·split at h
   ·cases h
   ·exact anG le h
theorem JB(le:nb F G){f:aa}{args:List aa}{h:ae}{r}(aD:lF E F f args h=some r) :lF E G f args h=some r:=by
 unfold lF at aD|-;split at aD
 ·split at aD
  ·cases aD
  ·split at aD
   ·cases aD
   ·rename_i f first captured fn aJ body aj
    dsimp only at aD|-;split at aD
    ·rename_i x s aH;rw[le.code _ _ _ _ aH];exact aD
    ·cases aD
 ·split at aD
  ·split at aD
   ·cases aD
   ·split at aD
    ·rename_i uk;rw[le.code _ _ _ _ uk];dsimp only at aD|-;split at aD
     ·split at aD
      ·rename_i zF;rw[le.code _ _ _ _ zF];exact aD
      ·cases aD
     ·cases aD
    ·cases aD
  ·cases aD
 ·cases aD
theorem aep{p:cn}(le:nb F G) :nb (Fv E p F) (Fv E p G)where
 call:=λf a h r aD=>by
  show qn E p G f a h=some r
  have aD:qn E p F f a h=some r:=aD;unfold qn at aD|-;split at aD
  ·split at aD
   ·split at aD
    ·exact aD
    ·exact JB le aD
   ·exact JB le aD
  ·exact JB le aD
 code:=λro c s r aD=>acI le aD
end
theorem Tm(E:Env)(p:cn) :∀n,nb (fns E p n) (fns E p (n+1))
 |0=>⟨(λ_ _ _ _ h=>by cases h),(λ_ _ _ _ h=>by cases h)⟩
 |n+1=>aep (Tm E p n)
theorem nb.trans{F G H:gT}(a:nb F G)(b:nb G H) :nb F H:=⟨λf x h r aD=>b.call _ _ _ _ (a.call f x h r aD),λro c s r aD=>b.code _ _ _ _ (a.code ro c s r aD)⟩
theorem vT(E:Env)(p:cn){n m:Nat}(h:n<=m) :nb (fns E p n) (fns E p m):=by
 induction h with
 |refl=>exact⟨λ_ _ _ _ h=>h,λ_ _ _ _ h=>h⟩
 |step _ b1=>exact b1.trans (Tm E p _)
def call(E:Env)(p:cn)(f:aa)(args:List aa)(h:ae) :Option (aa×ae):=by
 classical
 exact if ag:∃r n,(fns E p n).call f args h=some r then some (Classical.choose ag)else none
def iA(E:Env)(p:cn)(ro:Option Nat)(c:Code)(s:cU)(x:eb)(aY:cU) :Prop:=∃n,(fns E p n).code ro c s=some (x,aY)
theorem pe{E:Env}{p:cn}{f:aa}{args:List aa}{h:ae}{r:aa×ae} :call E p f args h=some r↔∃n,(fns E p n).call f args h=some r:=by
 unfold call;constructor
 ·intro aH;split at aH
  ·rename_i ag;have:=Classical.choose_spec ag;simp only[Option.some.injEq]at aH;rw[aH]at this;exact this
  ·cases aH
 ·rintro⟨n,aw⟩;have ag:∃r n,(fns E p n).call f args h=some r:=⟨r,n,aw⟩;rw[dif_pos ag];obtain⟨m,hm⟩:=Classical.choose_spec ag;have h1:=(vT E p (Nat.le_max_left m n)).call _ _ _ _ hm;have ab:=(vT E p (Nat.le_max_right m n)).call _ _ _ _ aw;rw[h1]at ab;exact ab
def bu.del{α:Type}(t:bu α) :Nat->bu α:=
 bu.rec (motive:=λ_=>Nat->bu α) (λ_=>.nil)
  (λl v r uC uD k=>Bool.rec (Bool.rec (.node l v (uD (Nat.sub (Nat.div k 2) 1))) (.node (uC (Nat.div k 2)) v r) (Nat.beq (Nat.mod k 2) 1)) (.node l none r) (Nat.beq k 0)) t
abbrev a1:=eb×List aa×ae
abbrev sq:=eb->bE->ae->Option a1
def U{α:Type}(o:Option α)(k:α->Option a1) :Option a1:=match o with
 |some a=>k a
 |none=>none
def a7(o:Option (aa×ae))(k:aa->ae->Option a1) :Option a1:=match o with
 |some (v,h)=>k v h
 |none=>none
def ca(o:Option ((Nat->aa) ×bT))(h:ae)(k:aa->ae->Option a1) :Option a1:=match o with
 |some (f,ob)=>k (f h.next) (h.new ob)
 |none=>none
def bG(o:Option a1)(k:eb->List aa->ae->Option a1) :Option a1:=match o with
 |some (x,vs,h)=>k x vs h
 |none=>none
def a_(vs:List aa)(k:aa->List aa->Option a1) :Option a1:=match vs with
 |v::vs=>k v vs
 |[]=>none
def br(vs:List aa)(k:Option a1) :Option a1:=match vs with
 |[]=>k
 |_::_=>none
def bq(v:aa)(a b:Option a1) :Option a1:=match v with
 | .bool true=>a
 | .bool false=>b
 |_=>none
def b7(v:aa)(w:Bool)(a b:Option a1) :Option a1:=match v with
 | .bool true=>(match w with
  |true=>a
  |false=>b)
 | .bool false=>(match w with
  |true=>b
  |false=>a)
 |_=>b
def LY(v:aa)(w:Bool) :Bool:=match v with
 | .bool x=>x==w
 |_=>false
theorem Wz(v:aa)(w:Bool)(a b:Option a1) :b7 v w a b=if LY v w=true then a else b:=by
 cases v<;>first|rfl|skip
 rename_i x;cases x<;>cases w<;>rfl
def jF(x:eb)(a b:Option a1)(c:Nat->Option a1) :Option a1:=match x with
 | .normal=>a
 | .ret=>b
 | .exit i=>c i
 | .goto _=>none
def gD(id:Nat)(x:eb)(a b:Option a1)(c:Nat->Option a1) :Option a1:=match x with
 | .exit i=>bif Nat.beq i id then a else c i
 | .ret=>b
 | .normal=>none
 | .goto _=>none
def BY:List Nat->Nat->(Nat->Option a1)->Option a1
 |[],_,_=>none
 |j::U0,i,k=>bif Nat.beq i j then k j else BY U0 i k
def eM:Nat->(List aa->ae->Option a1)->List aa->ae->Option a1
 |0,f,vs,h=>f vs h
 |k+1,f,vs,h=>match eM k f vs h with
  |some (.normal,dJ,bC)=>eM k f dJ bC
  |r=>r
def bZ(c a b:aa) :Option aa:=match c with
 | .bool true=>some a
 | .bool false=>some b
 |_=>none
def ak(E:Env)(h:ae)(t:TypeId)(a:aa) :Option aa:=match a with
 | .ptr id off=>loadT E h t id off
 |_=>none
def bN(E:Env)(h:ae)(t:TypeId)(a v:aa) :Option ae:=match a with
 | .ptr id off=>storeT E h t id off v
 |_=>none
def bB(v:aa) :Option aa:=match v with
 | .ptr id off=>some (.ptr id off)
 | .func f a b=>some (.func f a b)
 | .yield l=>some (.yield l)
 |_=>none
def cm(v:aa)(i:Nat) :Option aa:=match v with
 | .tuple vs=>vs[i]?
 |_=>none
def Gu:Option aa->Option (Option Int)
 |none=>some none
 |some (.int _ n)=>some (some n)
 |_=>none
def iv(E:Env)(h:ae)(t:TypeId)(v:aa)(lo af gN:Option aa) :Option aa:=match Gu lo,Gu af,Gu gN with
 |some lo,some af,some gN=>kl E h t v lo af gN
 |_,_,_=>none
def dY(E:Env)(t:TypeId)(ps:List (Nat×aa)) :Option aa:=match E.ty t with
 |some i=>match i.desc with
  | .struct _=>match nV (λk=>i.parts[k]?) i.zero ps with
   |some cs=>some (.agg cs)
   |none=>none
  | .array _ e=>match E.ty e with
   |some ie=>match nV (λk=>some (k*ie.size,ie.size)) i.zero ps with
    |some cs=>some (.agg cs)
    |none=>none
   |none=>none
  |_=>none
 |none=>none
def dz(E:Env)(t:TypeId) :Option ((Nat->aa) ×bT):=match E.ty t with
 |some i=>some (λid=>.ptr id 0,te i.desc i.zero)
 |none=>none
def c9(E:Env)(t:TypeId)(v:aa) :Option ((Nat->aa) ×bT):=match E.ty t with
 |some i=>some (λid=>.ptr id 0,te i.desc v.cells)
 |none=>none
def lg(E:Env)(t:TypeId)(len:Nat)(ps:List (Nat×aa)) :Option ((Nat->aa) ×bT):=match E.ty t with
 |some i=>match i.desc with
  | .slice e=>match E.ty e with
   |some ie=>bif Nat.ble (len*ie.size) 16777216 then match nV (λk=>some (k*ie.size,ie.size)) (j5 len ie.zero) ps with
    |some cs=>some (λid=>.slice id 0 len len ie.size true,te ie.desc cs)
    |none=>none else none
   |none=>none
  |_=>none
 |none=>none
def mn(E:Env)(t:TypeId)(l c:aa) :Option ((Nat->aa) ×bT):=match wx E t l c with
 |some (l,c,sz,o)=>some (λid=>.slice id 0 l c sz true,o)
 |none=>none
def Mt:Option ((Nat->aa) ×bT):=some (λid=>.map id,.map [] 0)
def E_(E:Env)(d:TypeId)(v:aa) :Option ((Nat->aa) ×bT):=match E' E d v with
 |some (l,o)=>some (λid=>.slice id 0 l l 1 false,o)
 |none=>none
def jc(E:Env)(ρ:bE) :Operand->Option aa
 | .tmp t=>bu.get ρ t
 | .const v=>zl v
 | .func f=>some (.func f [] [])
 | .global g=>bif Nat.blt g E.rZ then some (.ptr g 0)else none
def xb(E:Env)(ρ:bE) :List Operand->Option (List aa)
 |[]=>some []
 |x::xs=>match jc E ρ x,xb E ρ xs with
  |some v,some l=>some (v::l)
  |_,_=>none
def Av(E:Env)(ρ:bE) :List (Nat×Operand)->Option (List (Nat×aa))
 |[]=>some []
 |(i,x)::xs=>match jc E ρ x,Av E ρ xs with
  |some v,some l=>some ((i,v)::l)
  |_,_=>none
def wD(E:Env)(ρ:bE) :Option Operand->Option (Option aa)
 |none=>some none
 |some x=>match jc E ρ x with
  |some v=>some (some v)
  |none=>none
def ao(E:Env)(ρ:bE)(x:Operand)(k:aa->Option a1) :Option a1:=match jc E ρ x with
 |some v=>k v
 |none=>none
def a2(E:Env)(ρ:bE)(x y:Operand)(k:aa->aa->Option a1) :Option a1:=match jc E ρ x,jc E ρ y with
 |some v,some w=>k v w
 |_,_=>none
abbrev bW:=aa->List aa->ae->Option (aa×ae)
def Si(E:Env)(C:bW)(ρ:bE)(h:ae)(c:Call)(K:aa->ae->Option a1) :Option a1:=
 match xb E ρ c.args.toList with
 |none=>none
 |some vs=>match c.callee with
  | .value f=>ao E ρ f λf=>a7 (C f vs h) K
  | .invoke _ _=>none
  | .builtin b=>match b,vs with
   | .len,[x]=>match c.argTypes[0]? with
    |some t=>U (dw E h t x) λv=>K v h
    |none=>none
   | .cap,[x]=>match c.argTypes[0]? with
    |some t=>U (EY E t x) λv=>K v h
    |none=>none
   | .min,x::xs=>U (rX x xs) λv=>K v h
   | .max,x::xs=>U (pP x xs) λv=>K v h
   | .append,[s,x]=>match c.argTypes[0]?,c.argTypes[1]? with
    |some t,some u=>a7 (h2 E h t u s x) K
    |_,_=>none
   | .copy,[d,x]=>match c.argTypes[0]? with
    |some t=>a7 (pg E h t d x) K
    |none=>none
   | .clear,[x]=>match c.argTypes[0]? with
    |some t=>U (pf E h t x) λh=>K .undef h
    |none=>none
   | .delete,[m,k]=>match c.argTypes[0]? with
    |some t=>U (vN E h t m k) λh=>K .undef h
    |none=>none
   |_,_=>none
def Da(E:Env)(C:bW)(ρ:bE)(h:ae)(op:Op)(K:aa->ae->Option a1) :Option a1:=
 match op with
 | .move x=>ao E ρ x λv=>K v h
 | .assign x=>ao E ρ x λv=>K v h
 | .pick c a b=>match jc E ρ c,jc E ρ a,jc E ρ b with
  |some c,some a,some b=>U (bZ c a b) λv=>K v h
  |_,_,_=>none
 | .alloc t=>ca (dz E t) h K
 | .box t x=>ao E ρ x λv=>ca (c9 E t v) h K
 | .build t ps=>match Av E ρ ps.toList with
  |some ps=>U (dY E t ps) λv=>K v h
  |none=>none
 | .buildSlice t n ps=>match Av E ρ ps.toList with
  |some ps=>ca (lg E t n ps) h K
  |none=>none
 | .makeMap _ none=>ca Mt h K
 | .makeSlice t l c=>a2 E ρ l c λl c=>ca (mn E t l c) h K
 | .load t a=>ao E ρ a λa=>U (ak E h t a) λv=>K v h
 | .store t a x=>a2 E ρ a x λa x=>U (bN E h t a x) λh=>K .undef h
 | .nilCheck x=>ao E ρ x λv=>U (bB v) λv=>K v h
 | .binOp op t x y _=>a2 E ρ x y λx y=>U (ax E h op t x y) λv=>K v h
 | .unOp op _ x=>ao E ρ x λx=>U (gQ op x) λv=>K v h
 | .convert s d x=>ao E ρ x λx=>bif L0 E d then(match E.ty s with
  |some _=>ca (E_ E d x) h K
  |none=>none)else U (gB E h s d x) λv=>K v h
 | .makeFunc (.func f) first cap=>match xb E ρ first.toList,xb E ρ cap.toList with
  |some a,some b=>K (.func f a b) h
  |_,_=>none
 | .slice t x lo af gN=>ao E ρ x λx=>match wD E ρ lo,wD E ρ af,wD E ρ gN with
  |some lo,some af,some gN=>U (iv E h t x lo af gN) λv=>K v h
  |_,_,_=>none
 | .fieldAddr s x f=>ao E ρ x λx=>U (aQ E s x f) λv=>K v h
 | .field s x f=>ao E ρ x λx=>U (Fo E s x f) λv=>K v h
 | .indexAddr t x i=>a2 E ρ x i λx i=>U (cZ E t x i) λv=>K v h
 | .index t x i=>a2 E ρ x i λx i=>U (o2 E t x i) λv=>K v h
 | .lookup t x i ok=>a2 E ρ x i λx i=>U (pN E h t x i ok) λv=>K v h
 | .extract x i=>ao E ρ x λx=>U (cm x i) λv=>K v h
 | .mapUpdate t m k x=>match jc E ρ m,jc E ρ k,jc E ρ x with
  |some m,some k,some x=>U (td E h t m k x) λh=>K .undef h
  |_,_,_=>none
 | .insert t m k x=>match jc E ρ m,jc E ρ k,jc E ρ x with
  |some m,some k,some x=>U (td E h t m k x) λh=>K .undef h
  |_,_,_=>none
 | .call c=>Si E C ρ h c K
 |_=>none
def xl(n:Nat)(o:Oper) :Bool:=match o.dst with
 |some d=>Nat.blt d n
 |none=>true
def hc:List Oper->List Tmp
 |[]=>[]
 |o::l=>match o.dst with
  |some d=>d::hc l
  |none=>hc l
def l8:Code->List Tmp
 | .region _ ops _=>hc ops.toList
 | .seq a b=>l8 a++l8 b
 | .cond _ a b=>l8 a++l8 b
 | .block _ b=>l8 b
 | .loop b=>l8 b
 | .scope b=>l8 b
 |_=>[]
def kill(ρ:bE) :List Tmp->bE
 |[]=>ρ
 |t::ts=>kill (ρ.del t) ts
def getAll(ρ:bE) :List Tmp->Option (List aa)
 |[]=>some []
 |t::ts=>match bu.get ρ t,getAll ρ ts with
  |some v,some l=>some (v::l)
  |_,_=>none
def AJ:List Tmp->List aa->bE->(bE->Option a1)->Option a1
 |[],vs,ρ,K=>br vs (K ρ)
 |t::ts,vs,ρ,K=>a_ vs λv vs=>AJ ts vs (ρ.set t v) K
def lT(outs:List Tmp) :sq:=λx ρ h=>match getAll ρ outs with
 |some vs=>some (x,vs,h)
 |none=>none
def Ar(E:Env)(C:bW)(n:Nat) :List Oper->(bE->ae->Option a1)->bE->ae->Option a1
 |[],K,ρ,h=>K ρ h
 |o::rest,K,ρ,h=>bif xl n o then Da E C ρ h o.op λv h=>Ar E C n rest K (gP ρ o.dst v) h else none
abbrev Bu:=Option (Nat×Bool) ×List Oper
def eqGuard:Option (Nat×Bool)->Option (Nat×Bool)->Bool
 |none,none=>true
 |some (i,a),some (j,b)=>Nat.beq i j&&(match a,b with
  |true,true=>true
  |false,false=>true
  |_,_=>false)
 |_,_=>false
def zC:List Oper->List Bu
 |[]=>[]
 |o::rest=>match zC rest with
  |(g,l)::gs=>bif eqGuard o.guard g then(g,o::l)::gs else(o.guard,[o])::(g,l)::gs
  |[]=>[(o.guard,[o])]
def Ib:List Tmp->List aa
 |[]=>[]
 |_::l=>.undef::Ib l
def HR:List Tmp->List Tmp->Bool
 |[],_=>true
 |t::ts,l=>uM t l&&HR ts l
def Fc(n:Nat) :List Oper->Bool
 |[]=>true
 |o::l=>xl n o&&Fc n l
def yt(E:Env)(C:bW)(n:Nat)(ops:Array Oper) :List Bu->List (List Tmp)->(bE->ae->Option a1)->bE->ae->Option a1
 |[],_,K,ρ,h=>K ρ h
 |(none,l)::gs,os,K,ρ,h=>Ar E C n l (λρ h=>yt E C n ops gs os K ρ h) ρ h
 |(some (j,w),l)::gs,os,K,ρ,h=>match os,ops[j]? with
  |outs::os,some g=>match g.dst with
   |some d=>bif HR outs (hc l) && !uM d (hc l) &&Fc n l then
     match bu.get ρ d with
     |some v=>bG (b7 v w (Ar E C n l (lT outs .normal) ρ h) (some (.normal,Ib outs,h)))
      λ_ vs h=>AJ outs vs (kill ρ (hc l)) λρ=>yt E C n ops gs os K ρ h
     |none=>none
    else none
   |none=>none
  |_,_=>none
def ae.aB(h:ae)(k:Nat) :ae:={h with next:=h.next+k}
def qi(o:Option ((Nat->aa) ×bT))(id:Nat)(h:ae)(k:aa->ae->Option a1) :Option a1:=match o with
 |some (f,ob)=>k (f id) (h.put id ob)
 |none=>none
def bx:List ae->(ae->Option aa)->aa->Option a1->Option a1
 |[],f,v,k=>k
 |g::gs,f,v,k=>match f g with
  |some w=>bif aa.beq w v then bx gs f v k else none
  |none=>none
def MI(E:Env)(ρ:bE)(id:Nat)(h:ae)(op:Op)(k:aa->ae->Option a1) :Option a1:=
 match op with
 | .alloc t=>qi (dz E t) id h k
 | .box t x=>ao E ρ x λv=>qi (c9 E t v) id h k
 | .buildSlice t n ps=>match Av E ρ ps.toList with
  |some ps=>qi (lg E t n ps) id h k
  |none=>none
 | .makeMap _ none=>qi Mt id h k
 | .makeSlice t l c=>a2 E ρ l c λl c=>qi (mn E t l c) id h k
 | .convert s d x=>ao E ρ x λx=>match E.ty s with
  |some _=>qi (E_ E d x) id h k
  |none=>none
 |_=>none
def Ac(E:Env)(t:TypeId) :Bool:=match E.ty t with
 |some i=>match i.desc with
  | .int _=>true
  | .bool=>true
  | .string=>true
  |_=>false
 |none=>false
def CV(E:Env)(t:TypeId) :Bool:=match E.ty t with
 |some i=>match i.desc with
  | .int _=>true
  |_=>false
 |none=>false
def CY(E:Env)(t:TypeId) :Bool:=match E.ty t with
 |some i=>match i.desc with
  | .string=>true
  |_=>false
 |none=>false
def CW(E:Env)(t:TypeId) :Bool:=match E.ty t with
 |some i=>match i.desc with
  | .map _ _=>true
  |_=>false
 |none=>false
def CU(E:Env)(t:TypeId) :Bool:=match E.ty t with
 |some i=>match i.desc with
  | .array _ _=>true
  |_=>false
 |none=>false
def AD(E:Env)(ρ:bE)(op:Op) :Option (ae->Option aa):=
 match op with
 | .load t a=>match jc E ρ a with
  |some a=>some λg=>ak E g t a
  |none=>some λ_=>none
 | .binOp op t x y _=>bif Ac E t then none else match jc E ρ x,jc E ρ y with
  |some x,some y=>some λg=>ax E g op t x y
  |_,_=>some λ_=>none
 | .convert s d x=>bif CV E d||CY E s then none else match jc E ρ x with
  |some x=>some λg=>gB E g s d x
  |none=>some λ_=>none
 | .slice t x lo af gN=>bif CU E t then(match jc E ρ x,wD E ρ lo,wD E ρ af,wD E ρ gN with
  |some x,some lo,some af,some gN=>some λg=>iv E g t x lo af gN
  |_,_,_,_=>some λ_=>none)else none
 | .lookup t x i ok=>match jc E ρ x,jc E ρ i with
  |some x,some i=>some λg=>pN E g t x i ok
  |_,_=>some λ_=>none
 | .call c=>match c.callee,xb E ρ c.args.toList with
  | .builtin .len,some [x]=>match c.argTypes[0]? with
   |some t=>bif CW E t then some λg=>dw E g t x else none
   |none=>some λ_=>none
  | .builtin .cap,_=>none
  | .builtin .min,_=>none
  | .builtin .max,_=>none
  |_,_=>some λ_=>none
 | .move _| .assign _| .pick .. | .build .. | .nilCheck _| .unOp .. | .makeFunc .. | .fieldAddr .. | .field .. | .indexAddr .. | .index .. | .extract .. =>none
 |_=>some λ_=>none
structure tK where
 i:Nat
 ver:Nat
 op:Op
 ρ:bE
 v:aa
abbrev EG:=Nat->Nat->bE->ae->List (Nat×Nat×ae)->List tK->Option a1
def q0(E:Env)(C:bW)(n base:Nat)(run:Bool) :List Oper->EG->EG
 |[],K,i,ver,ρ,h,gs,ls=>K i ver ρ h gs ls
 |o::rest,K,i,ver,ρ,h,gs,ls=>bif xl n o then
   match kindOf E o.op,run with
   | .act,true=>Da E C ρ h o.op λv g=>q0 E C n base run rest K (i+1) (ver+1) (gP ρ o.dst v) g ((i,ver,h)::gs) ls
   | .act,false=>q0 E C n base run rest K (i+1) ver (gP ρ o.dst .undef) h ((i,ver,h)::gs) ls
   | .make,true=>MI E ρ (base+i) h o.op λv g=>q0 E C n base run rest K (i+1) (ver+1) (gP ρ o.dst v) g gs ls
   | .look,true=>Da E C ρ h o.op λv _=>q0 E C n base run rest K (i+1) ver (gP ρ o.dst v) h gs ({i,ver,op:=o.op,ρ,v}::ls)
   |_,false=>q0 E C n base run rest K (i+1) ver (gP ρ o.dst .undef) h gs ls
  else none
def xg(bs:List Nat)(i ver lastVer:Nat)(last:ae) :List (Nat×Nat×ae)->List ae
 |[]=>bif Nat.beq ver lastVer then[]else[last]
 |(a,v,g)::rest=>bif ka (bs.getD i 0) a then xg bs i ver lastVer last rest
  else bif ka (bs.getD a 0) i then(bif Nat.beq ver v then[]else[g])
  else bif Nat.beq ver v then xg bs i ver lastVer last rest else g::xg bs i ver lastVer last rest
def BH(E:Env)(bs:List Nat)(gs:List (Nat×Nat×ae))(last:ae)(lastVer:Nat) :List tK->Option a1->Option a1
 |[],k=>k
 |s::rest,k=>match AD E s.ρ s.op with
  |none=>BH E bs gs last lastVer rest k
  |some f=>bx (xg bs s.i s.ver lastVer last gs) f s.v (BH E bs gs last lastVer rest k)
def u_(E:Env)(C:bW)(n base:Nat)(bs:List Nat)(ops:Array Oper) :List Bu->(bE->ae->Option a1)->EG
 |[],K,i,ver,ρ,h,gs,ls=>BH E bs gs.reverse h ver ls (K ρ h)
 |(none,l)::rest,K,i,ver,ρ,h,gs,ls=>q0 E C n base true l (u_ E C n base bs ops rest K) i ver ρ h gs ls
 |(some (j,w),l)::rest,K,i,ver,ρ,h,gs,ls=>match ops[j]? with
  |some g=>match g.dst with
   |some d=>bif uM d (hc l)then none else match bu.get ρ d with
    |some v=>b7 v w (q0 E C n base true l (u_ E C n base bs ops rest K) i ver ρ h gs ls) (q0 E C n base false l (u_ E C n base bs ops rest K) i ver ρ h gs ls)
    |none=>none
   |none=>none
  |none=>none
def JU(E:Env)(C:bW)(n:Nat)(ops:Array Oper)(K:bE->ae->Option a1)(ρ:bE)(h:ae) :Option a1:=
 bif AS E ops (lf ops.toList []) ops.toList 0 then
  u_ E C n h.next (lf ops.toList []) ops (zC ops.toList) K 0 0 ρ (h.aB ops.size) [] []
 else none
inductive m' where
 |leaf
 |ah (os:List (List Tmp))
 |seq (a b:m')
 |cond (a b:m')
 |dW (a:m')
 |wT (a:m')
 |cut (outs:List Tmp) (ids:List Nat) (a:m')
 |loop (outs:List Tmp) (ids:List Nat) (a:m')
 |drawn
def XI(K:sq)(k:bE->ae->Option a1) :sq:=λx ρ h=>match x with
 | .normal=>k ρ h
 | .exit i=>K (.exit i) ρ h
 | .ret=>K .ret ρ h
 | .goto _=>none
def R2(id:Nat)(K:sq) :sq:=λx ρ h=>match x with
 | .normal=>K .normal ρ h
 | .exit i=>bif Nat.beq i id then K .normal ρ h else K (.exit i) ρ h
 | .ret=>K .ret ρ h
 | .goto _=>none
def XG(K:sq) :sq:=λx ρ h=>match x with
 | .normal=>K .normal ρ h
 | .exit i=>K (.exit i) ρ h
 | .ret=>K .ret ρ h
 | .goto _=>none
def den(E:Env)(C:bW)(n:Nat) :m'->Code->sq->bE->ae->Option a1
 | .cut outs ids a,c,K,ρ,h=>bG (den E C n a c (lT outs) ρ h) λx vs h=>AJ outs vs (kill ρ (l8 c)) λρ=>jF x (K .normal ρ h) (K .ret ρ h) λi=>BY ids i λj=>K (.exit j) ρ h
 | .leaf,c,K,ρ,h=>match c with
  | .skip=>K .normal ρ h
  | .label _=>K .normal ρ h
  | .exit id=>K (.exit id) ρ h
  | .ret=>K .ret ρ h
  |_=>none
 | .ah os,c,K,ρ,h=>match c with
  | .region _ ops false=>yt E C n ops (zC ops.toList) os (K .normal) ρ h
  |_=>none
 | .seq a b,c,K,ρ,h=>match c with
  | .seq c d=>den E C n a c (XI K (den E C n b d K)) ρ h
  |_=>none
 | .cond a b,c,K,ρ,h=>match c with
  | .cond x c d=>ao E ρ x λv=>bq v (den E C n a c K ρ h) (den E C n b d K ρ h)
  |_=>none
 | .dW a,c,K,ρ,h=>match c with
  | .block id c=>den E C n a c (R2 id K) ρ h
  |_=>none
 | .wT a,c,K,ρ,h=>match c with
  | .scope c=>den E C n a c (XG K) ρ h
  |_=>none
 | .loop outs ids a,c,K,ρ,h=>match c with
  | .block id (.loop c)=>match getAll ρ outs with
   |none=>none
   |some vs=>bG (eM 14 (λvs h=>AJ outs vs (kill ρ (l8 c)) λρ=>den E C n a c (lT outs) ρ h) vs h) λx vs h=>
    AJ outs vs (kill ρ (l8 c)) λρ=>gD id x (K .normal ρ h) (K .ret ρ h) λi=>BY ids i λj=>K (.exit j) ρ h
  |_=>none
 | .drawn,c,K,ρ,h=>match c with
  | .region _ ops true=>JU E C n ops (K .normal) ρ h
  |_=>none
def wQ(E:Env)(ρ:bE)(h:ae) :List ResultVar->(List aa->Option a1)->Option a1
 |[],k=>k []
 | .tmp t::rest,k=>match bu.get ρ t with
  |some v=>wQ E ρ h rest λl=>k (v::l)
  |none=>none
 | .cell a t::rest,k=>match bu.get ρ a with
  |some p=>U (ak E h t p) λv=>wQ E ρ h rest λl=>k (v::l)
  |none=>none
def Tg(E:Env)(rs:List ResultVar) :sq:=λx ρ h=>match x with
 | .normal=>wQ E ρ h rs λvs=>some (.ret,vs,h)
 | .ret=>wQ E ρ h rs λvs=>some (.ret,vs,h)
 |_=>none
def Kf(E:Env)(C:bW)(fn:Func)(a:m')(args:List aa)(h:ae) :Option a1:=match fn.body with
 |some c=>den E C (max fn.ntmps args.length) a c (Tg E fn.results.toList) (r7 args 0 .nil) h
 |none=>none
def kE:List aa->aa
 |[v]=>v
 |[]=>.undef
 |vs=>.tuple vs
namespace bu
variable{α:Type}
theorem aeP:∀(t:bu α) (k j:Nat),(t.del k).get j=if j=k then none else t.get j:=by
 intro t;induction t with
 |nil=>intro k j;show none=_;simp[get_nil]
 |node l v r uC uD=>
  intro k j;have e:(bu.node l v r).del k=Bool.rec (Bool.rec (.node l v (r.del (k/2-1))) (.node (l.del (k/2)) v r) (Nat.beq (k%2) 1)) (.node l none r) (Nat.beq k 0):=rfl;rw[e,vH,vH];simp only[Go.a8.beq_true];by_cases av:k=0
  ·subst av;simp only[if_true,sJ];by_cases aO:j=0<;>simp[aO]
  ·by_cases aI:k%2=1
   ·simp only[av,aI,if_true,if_false,sJ,uC];by_cases aO:j=0
    ·have:¬j=k:=by omega
     simp[aO];intro e;omega
    ·by_cases aF:j%2=1
     ·have:(j/2=k/2)=(j=k):=by apply propext;omega
      simp[aO,aF,this]
     ·have:¬j=k:=by omega
      simp[aO,aF,this]
   ·simp only[av,aI,if_false,sJ,uD];by_cases aO:j=0
    ·simp[aO];intro e;omega
    ·by_cases aF:j%2=1
     ·have:¬j=k:=by omega
      simp[aO,aF,this]
     ·have:(j/2-1=k/2-1)=(j=k):=by apply propext;omega
      simp[aO,aF,this]
end bu
def fQ(ρ r:bE) :Prop:=∀t v,bu.get ρ t=some v->bE.get r t=v
theorem fQ.refl(r:bE) :fQ r r:=λt v h=>by simp[bE.get,h]
theorem fQ.gP{ρ r:bE}(h:fQ ρ r)(d:Option Tmp)(v:aa) :fQ (gP ρ d v) (gP r d v):=by
 intro t w aW;rw[pZ];cases d with
 |none=>simpa [Go.a8.gP]using h t w aW
 |some d=>
  simp only[Go.a8.gP,bu.lL]at aW;by_cases e:t=d
  ·subst e;rw[if_pos rfl]at aW|-;exact Option.some.inj aW
  ·rw[if_neg e]at aW;have:¬(some d=some t):=λh=>e (Option.some.inj h).symm
   rw[if_neg this];exact h t w aW
theorem fQ.set{ρ r:bE}(h:fQ ρ r){t:Nat}{v:aa}(ai:bE.get r t=v) :fQ (bu.set ρ t v) r:=by
 intro u w hu;rw[bu.lL]at hu;by_cases e:u=t
 ·subst e;rw[if_pos rfl]at hu;rw[ai];exact Option.some.inj hu
 ·rw[if_neg e]at hu;exact h u w hu
theorem U8:∀(ts:List Tmp) (ρ:bE) (t:Nat) (v:aa),bu.get (kill ρ ts) t=some v->t∉ts/\bu.get ρ t=some v
 |[],ρ,t,v,h=>⟨List.not_mem_nil,h⟩
 |u::ts,ρ,t,v,h=>by
  obtain⟨h1,ab⟩:=U8 ts (ρ.del u) t v h;rw[bu.aeP]at ab;by_cases e:t=u
  ·rw[if_pos e]at ab;cases ab
  ·rw[if_neg e]at ab;exact⟨λhm=>by rcases List.mem_cons.1 hm with rfl|hm<;>contradiction,ab⟩
theorem zA{ρ r:bE}(av:fQ ρ r) :∀{ts:List Tmp} {vs:List aa},getAll ρ ts=some vs->vs=ts.map (bE.get r)
 |[],vs,h=>by cases h;rfl
 |t::ts,vs,h=>by
  unfold getAll at h;split at h
  ·rename_i v l h1 ab;cases h;rw[List.map_cons,av t v h1,zA av ab]
  ·cases h
theorem Dv{K:bE->Option a1}{res:a1}{r:bE} :∀{ts:List Tmp} {vs:List aa} {ρ:bE},AJ ts vs ρ K=some res->vs=ts.map (bE.get r)->fQ ρ r->∃bD,fQ bD r/\K bD=some res
 |[],vs,ρ,h,e,av=>by subst e;exact⟨ρ,av,h⟩
 |t::ts,vs,ρ,h,e,av=>by subst e;exact Dv (ts:=ts) h rfl (av.set rfl)
section
variable{E:Env}{p:cn}{n:Nat}
theorem fa{ρ r:bE}(av:fQ ρ r){x:Operand}{v:aa}(h:jc E ρ x=some v) :ek E r x=some v:=by
 cases x with
 |tmp t=>exact congrArg some (av t v h)
 |const c=>exact h
 |global g=>exact h
 |func f=>exact h
theorem zd{ρ r:bE}(av:fQ ρ r) :∀{xs:List Operand} {vs:List aa},xb E ρ xs=some vs->lI E r xs=some vs
 |[],vs,h=>h
 |x::xs,vs,h=>by
  unfold xb at h;split at h
  ·rename_i v l h1 ab;unfold lI;rw[fa av h1,zd av ab];exact h
  ·cases h
theorem Hn{ρ r:bE}(av:fQ ρ r) :∀{xs:List (Nat×Operand)} {vs:List (Nat×aa)},Av E ρ xs=some vs->sE E r xs=some vs
 |[],vs,h=>h
 |(i,x)::xs,vs,h=>by
  unfold Av at h;split at h
  ·rename_i v l h1 ab;unfold sE;rw[fa av h1,Hn av ab];exact h
  ·cases h
theorem As{ρ r:bE}(av:fQ ρ r){x:Option Operand}{v:Option aa}(h:wD E ρ x=some v) :tm E r x=Gu v:=by
 cases x with
 |none=>cases h;rfl
 |some x=>
  unfold wD at h;cases bc:jc E ρ x with
  |none=>simp[bc]at h
  |some a=>
   simp[bc]at h;subst h;simp only[tm,fa av bc];cases a<;>rfl
theorem nO{ρ:bE}{x:Operand}{k:aa->Option a1}{res:a1}(h:ao E ρ x k=some res) :∃v,jc E ρ x=some v/\k v=some res:=by
 unfold ao at h;split at h
 ·exact⟨_,by assumption,h⟩
 ·cases h
theorem w_{ρ:bE}{x y:Operand}{k:aa->aa->Option a1}{res:a1}(h:a2 E ρ x y k=some res) :∃v w,jc E ρ x=some v/\jc E ρ y=some w/\k v w=some res:=by
 unfold a2 at h;split at h
 ·exact⟨_,_,by assumption,by assumption,h⟩
 ·cases h
theorem jU{α:Type}{o:Option α}{k:α->Option a1}{res:a1}(h:U o k=some res) :∃a,o=some a/\k a=some res:=by
 unfold U at h;split at h
 ·exact⟨_,rfl,h⟩
 ·cases h
theorem Jf{o:Option (aa×ae)}{k:aa->ae->Option a1}{res:a1}(h:a7 o k=some res) :∃v g,o=some (v,g)/\k v g=some res:=by
 unfold a7 at h;split at h
 ·exact⟨_,_,rfl,h⟩
 ·cases h
theorem zf{o:Option ((Nat->aa) ×bT)}{h:ae}{k:aa->ae->Option a1}{res:a1}(aD:ca o h k=some res) :∃f ob,o=some (f,ob)/\k (f h.next) (h.new ob)=some res:=by
 unfold ca at aD;split at aD
 ·exact⟨_,_,rfl,aD⟩
 ·cases aD
theorem Jg{o:Option a1}{k:eb->List aa->ae->Option a1}{res:a1}(h:bG o k=some res) :∃x vs g,o=some (x,vs,g)/\k x vs g=some res:=by
 unfold bG at h;split at h
 ·exact⟨_,_,_,rfl,h⟩
 ·cases h
def Bw(E:Env)(p:cn)(r:bE)(h:ae)(op:Op)(v:aa)(g:ae) :Prop:=
 jN E r h op=.value v g\/(jN E r h op=.skip g/\v=.undef)\/∃f args,jN E r h op=.call f args/\call E p f args h=some (v,g)
theorem M6{ρ r:bE}(av:fQ ρ r){h:ae}{op:Op}{K:aa->ae->Option a1}{res:a1}(aC:Da E (call E p) ρ h op K=some res) :∃v g,Bw E p r h op v g/\K v g=some res:=by
 have look:∀{v:aa},(∃o,kindOf E op=o/\o=.look)->fi E r h op=some v->K v h=some res->∃v g,Bw E p r h op v g/\K v g=some res:=by intro v ⟨o,bg,e⟩ ay fX;subst e;exact⟨v,h,.inl (by unfold jN;rw[bg,ay];rfl),fX⟩
 have make:∀{f:Nat->aa} {ob:bT},kindOf E op=.make->kA E r op=some (f,ob)->K (f h.next) (h.new ob)=some res->∃v g,Bw E p r h op v g/\K v g=some res:=by intro f ob bg ay fX;exact⟨_,_,.inl (by unfold jN;rw[bg,ay]),fX⟩
 cases op<;>simp only[Da]at aC<;>try (cases aC;done)
 case move x=>
  obtain⟨v,h1,ab⟩:=nO aC;exact look ⟨_,rfl,rfl⟩ (by show ek E r x=_;exact fa av h1) ab
 case assign x=>
  obtain⟨v,h1,ab⟩:=nO aC;exact look ⟨_,rfl,rfl⟩ (by show ek E r x=_;exact fa av h1) ab
 case pick c a b=>
  split at aC
  ·rename_i auj auh aui aH bc aj;obtain⟨v,h1,ab⟩:=jU aC;refine look (v:=v) ⟨_,rfl,rfl⟩ ?_ ab;simp only[fi,fa av aH,fa av bc,fa av aj];unfold bZ at h1;split at h1<;>first|exact h1|cases h1
  ·cases aC
 case alloc t=>
  obtain⟨f,ob,h1,ab⟩:=zf aC;exact make rfl h1 ab
 case box t x=>
  obtain⟨v,h1,ab⟩:=nO aC;obtain⟨f,ob,al,aE⟩:=zf ab;refine make rfl ?_ aE;unfold c9 at al;simp only[kA,fa av h1];split at al
  ·rename_i i af;rw[af];exact al
  ·cases al
 case build t ps=>
  split at aC
  ·rename_i l aI;obtain⟨v,h1,ab⟩:=jU aC;refine look (v:=v) ⟨_,rfl,rfl⟩ ?_ ab;simp only[fi,Hn av aI];unfold dY at h1;cases aW:E.ty t with
   |none=>rw[aW]at h1;cases h1
   |some i=>rw[aW]at h1;exact h1
  ·cases aC
 case buildSlice t len ps=>
  split at aC
  ·rename_i l aI;obtain⟨f,ob,h1,ab⟩:=zf aC;refine make rfl ?_ ab;simp only[kA,Hn av aI];unfold lg at h1;cases aW:E.ty t with
   |none=>rw[aW]at h1;cases h1
   |some i=>rw[aW]at h1;exact h1
  ·cases aC
 case makeMap t rv=>
  cases rv with
  |none=>
   obtain⟨f,ob,h1,ab⟩:=zf aC;cases h1;exact make rfl rfl ab
  |some x=>cases aC
 case makeSlice t l c=>
  obtain⟨a,b,h1,ab,al⟩:=w_ aC;obtain⟨f,ob,aE,aL⟩:=zf al;refine make rfl ?_ aL;simp only[kA,fa av h1,fa av ab];exact aE
 case load t a=>
  obtain⟨v,h1,ab⟩:=nO aC;obtain⟨w,al,aE⟩:=jU ab;refine look (v:=w) ⟨_,rfl,rfl⟩ ?_ aE;simp only[fi,fa av h1];unfold ak at al;split at al
  ·exact al
  ·cases al
 case store t a x=>
  obtain⟨v,w,h1,ab,al⟩:=w_ aC;obtain⟨g,aE,aL⟩:=jU al;refine⟨.undef,g,.inr (.inl ⟨?_,rfl⟩),aL⟩;unfold jN;rw[show kindOf E (.store t a x)=.act from rfl];simp only[oE,fa av h1,fa av ab];unfold bN at aE;split at aE
  ·simp only[aE];rfl
  ·cases aE
 case nilCheck x=>
  obtain⟨v,h1,ab⟩:=nO aC;obtain⟨w,al,aE⟩:=jU ab;refine look (v:=w) ⟨_,rfl,rfl⟩ ?_ aE;simp only[fi,fa av h1];unfold bB at al;split at al<;>first|exact al|cases al
 case binOp op t x y u=>
  obtain⟨v,w,h1,ab,al⟩:=w_ aC;obtain⟨z,aE,aL⟩:=jU al;refine look (v:=z) ⟨_,rfl,rfl⟩ ?_ aL;simp only[fi,fa av h1,fa av ab];exact aE
 case unOp op t x=>
  obtain⟨v,h1,ab⟩:=nO aC;obtain⟨z,aE,aL⟩:=jU ab;refine look (v:=z) ⟨_,rfl,rfl⟩ ?_ aL;simp only[fi,fa av h1];exact aE
 case convert s d x=>
  obtain⟨v,h1,ab⟩:=nO aC;cases aj:L0 E d with
  |true=>
   rw[aj]at ab;dsimp only[cond]at ab;split at ab
   ·rename_i i af;obtain⟨f,ob,al,aE⟩:=zf ab;refine make (by simp only[kindOf,aj,cond]) ?_ aE;simp only[kA,fa av h1,af];unfold E_ at al;split at al
    ·rename_i he;rw[he];exact al
    ·cases al
   ·cases ab
  |false=>
   rw[aj]at ab;dsimp only[cond]at ab;obtain⟨z,aE,aL⟩:=jU ab;refine look (v:=z) ⟨_,rfl,by simp only[kindOf,aj,cond]⟩ ?_ aL;simp only[fi,fa av h1];exact aE
 case makeFunc fn first cap=>
  cases fn<;>try (cases aC;done)
  rename_i f;dsimp only at aC;split at aC
  ·rename_i a b bc aj;refine look (v:=.func f a b) ⟨_,rfl,rfl⟩ ?_ aC;simp only[fi,zd av bc,zd av aj]
  ·cases aC
 case slice t x lo af gN=>
  obtain⟨v,h1,ab⟩:=nO aC;split at ab
  ·rename_i l h m ay aD hm;obtain⟨z,aE,aL⟩:=jU ab;refine look (v:=z) ⟨_,rfl,rfl⟩ ?_ aL;simp only[fi,fa av h1,As av ay,As av aD,As av hm];unfold iv at aE;split at aE
   ·rename_i aG aT bJ;rw[aG,aT,bJ];exact aE
   ·cases aE
  ·cases ab
 case fieldAddr s x f=>
  obtain⟨v,h1,ab⟩:=nO aC;obtain⟨z,aE,aL⟩:=jU ab;refine look (v:=z) ⟨_,rfl,rfl⟩ ?_ aL;simp only[fi,fa av h1];exact aE
 case field s x f=>
  obtain⟨v,h1,ab⟩:=nO aC;obtain⟨z,aE,aL⟩:=jU ab;refine look (v:=z) ⟨_,rfl,rfl⟩ ?_ aL;simp only[fi,fa av h1];exact aE
 case indexAddr t x i=>
  obtain⟨v,w,h1,ab,al⟩:=w_ aC;obtain⟨z,aE,aL⟩:=jU al;refine look (v:=z) ⟨_,rfl,rfl⟩ ?_ aL;simp only[fi,fa av h1,fa av ab];exact aE
 case index t x i=>
  obtain⟨v,w,h1,ab,al⟩:=w_ aC;obtain⟨z,aE,aL⟩:=jU al;refine look (v:=z) ⟨_,rfl,rfl⟩ ?_ aL;simp only[fi,fa av h1,fa av ab];exact aE
 case lookup t x i b=>
  obtain⟨v,w,h1,ab,al⟩:=w_ aC;obtain⟨z,aE,aL⟩:=jU al;refine look (v:=z) ⟨_,rfl,rfl⟩ ?_ aL;simp only[fi,fa av h1,fa av ab];exact aE
 case extract x i=>
  obtain⟨v,h1,ab⟩:=nO aC;obtain⟨z,aE,aL⟩:=jU ab;refine look (v:=z) ⟨_,rfl,rfl⟩ ?_ aL;simp only[fi,fa av h1];unfold cm at aE;split at aE
  ·exact aE
  ·cases aE
 case mapUpdate t m k x=>
  split at aC
  ·rename_i a b c bc aj aH;obtain⟨g,aE,aL⟩:=jU aC;refine⟨.undef,g,.inr (.inl ⟨?_,rfl⟩),aL⟩;unfold jN;rw[show kindOf E (.mapUpdate t m k x)=.act from rfl];simp only[oE,fa av bc,fa av aj,fa av aH,aE];rfl
  ·cases aC
 case insert t m k x=>
  split at aC
  ·rename_i a b c bc aj aH;obtain⟨g,aE,aL⟩:=jU aC;refine⟨.undef,g,.inr (.inl ⟨?_,rfl⟩),aL⟩;unfold jN;rw[show kindOf E (.insert t m k x)=.act from rfl];simp only[oE,fa av bc,fa av aj,fa av aH,aE];rfl
  ·cases aC
 case call c=>
  obtain⟨callee,args,ts⟩:=c;unfold Si at aC;dsimp only at aC;split at aC
  ·cases aC
  ·rename_i vs jf;have jf:=zd av jf;cases callee with
   |value f=>
    dsimp only at aC;obtain⟨aq9,h1,ab⟩:=nO aC;obtain⟨v,g,al,aE⟩:=Jf ab;refine⟨v,g,.inr (.inr ⟨aq9,vs,?_,al⟩),aE⟩;unfold jN;rw[show kindOf E (.call ⟨.value f,args,ts⟩)=.act from rfl];simp only[oE,jf,fa av h1]
   |invoke _ _=>cases aC
   |builtin b=>
    dsimp only at aC;split at aC
    ·split at aC
     ·rename_i aW;obtain⟨z,aE,aL⟩:=jU aC;refine look (v:=z) ⟨_,rfl,rfl⟩ ?_ aL;simp only[fi,jf,aW];exact aE
     ·cases aC
    ·split at aC
     ·rename_i aW;obtain⟨z,aE,aL⟩:=jU aC;refine look (v:=z) ⟨_,rfl,rfl⟩ ?_ aL;simp only[fi,jf,aW];exact aE
     ·cases aC
    ·obtain⟨z,aE,aL⟩:=jU aC;refine look (v:=z) ⟨_,rfl,rfl⟩ ?_ aL;simp only[fi,jf];exact aE
    ·obtain⟨z,aE,aL⟩:=jU aC;refine look (v:=z) ⟨_,rfl,rfl⟩ ?_ aL;simp only[fi,jf];exact aE
    ·split at aC
     ·rename_i aW hu;obtain⟨v,g,aE,aL⟩:=Jf aC;refine⟨v,g,.inl ?_,aL⟩;unfold jN;rw[show kindOf E (.call ⟨.builtin .append,args,ts⟩)=.act from rfl];simp only[oE,jf,aW,hu,aE];rfl
     ·cases aC
    ·split at aC
     ·rename_i aW;obtain⟨v,g,aE,aL⟩:=Jf aC;refine⟨v,g,.inl ?_,aL⟩;unfold jN;rw[show kindOf E (.call ⟨.builtin .copy,args,ts⟩)=.act from rfl];simp only[oE,jf,aW,aE];rfl
     ·cases aC
    ·split at aC
     ·rename_i aW;obtain⟨g,aE,aL⟩:=jU aC;refine⟨.undef,g,.inl ?_,aL⟩;unfold jN;rw[show kindOf E (.call ⟨.builtin .clear,args,ts⟩)=.act from rfl];simp only[oE,jf,aW,aE];rfl
     ·cases aC
    ·split at aC
     ·rename_i aW;obtain⟨g,aE,aL⟩:=jU aC;refine⟨.undef,g,.inl ?_,aL⟩;unfold jN;rw[show kindOf E (.call ⟨.builtin .delete,args,ts⟩)=.act from rfl];simp only[oE,jf,aW,aE];rfl
     ·cases aC
    ·cases aC
theorem Bw.step{v:aa}{g:ae}{ops:Array Oper}{o:Oper}{s:cU}(bg:Bw E p s.r s.h o.op v g)(aN:h5 ops s.r o=true)(aC:∀t,o.dst=some t->t<s.n) :
  ∃m,∀k,m<=k->kB E (fns E p k) ops o s=some {s with r:=gP s.r o.dst v,h:=g}:=by
 unfold kB;rw[aN];rcases bg with h|⟨h,rfl⟩ |⟨f,args,h,aH⟩
 ·exact⟨0,λk _=>by simp only[h];exact oq aC _ _⟩
 ·exact⟨0,λk _=>by simp only[h];exact oq aC _ _⟩
 ·obtain⟨m,hm⟩:=pe.1 aH;refine⟨m,λk av=> ?_⟩;simp only[h,(vT E p av).call _ _ _ _ hm];exact oq aC _ _
end
def np(ops:Array Oper)(r:bE)(g:Option (Nat×Bool)) :Bool:=
 match g with
 |none=>true
 |some (j,want)=>match ops[j]? with
  |some g=>match g.dst with
   |some d=>match r.get d with
    | .bool b=>b==want
    |_=>false
   |none=>false
  |none=>false
theorem Ky(ops:Array Oper)(r:bE)(o:Oper) :h5 ops r o=np ops r o.guard:=rfl
def tL(ops:Array Oper)(gd:Option (Nat×Bool))(ds:List Tmp) :Prop:=
 ∀j w g d,gd=some (j,w)->ops[j]? =some g->g.dst=some d->d∉ds
theorem Kz{ops:Array Oper}{gd:Option (Nat×Bool)}{r cR:bE}{ds:List Tmp}(aA:tL ops gd ds)(he:∀t,t∉ds->bE.get cR t=bE.get r t) :np ops cR gd=np ops r gd:=by
 unfold np;cases gd with
 |none=>rfl
 |some q=>
  obtain⟨j,w⟩:=q;dsimp only;cases aO:ops[j]? with
  |none=>rfl
  |some g=>
   dsimp only;cases aC:g.dst with
   |none=>rfl
   |some d=>dsimp only;rw[he d (aA j w g d rfl aO aC)]
theorem AK{r:bE}{o:Oper}{v:aa}{t:Tmp}(h:t∉hc [o]) :bE.get (gP r o.dst v) t=bE.get r t:=by
 rw[pZ];cases aC:o.dst with
 |none=>simp
 |some d=>
  simp only[hc,aC,List.mem_singleton]at h;rw[if_neg λe=>h (Option.some.inj e).symm]
theorem tZ(o:Oper)(l:List Oper) :hc (o::l)=hc [o]++hc l:=by simp only[hc];cases o.dst<;>rfl
theorem JX{n:Nat}{o:Oper}(h:xl n o=true) :∀t,o.dst=some t->t<n:=by intro t e;unfold xl at h;rw[e]at h;exact dM.1 h
theorem S9{E:Env}{F:gT}{ops:Array Oper} :∀(gM hR:List Oper) (s:cU),mN E F ops (gM++hR) s=match mN E F ops gM s with
  |some aY=>mN E F ops hR aY
  |none=>none
 |[],hR,s=>rfl
 |o::gM,hR,s=>by
  simp only[List.cons_append,mN];cases kB E F ops o s with
  |none=>rfl
  |some s1=>exact S9 gM hR s1
theorem adG{a b:Option (Nat×Bool)}(h:eqGuard a b=true) :a=b:=by
 unfold eqGuard at h;split at h
 ·rfl
 ·simp only[Bool.and_eq_true]at h;obtain⟨h1,ab⟩:=h;rw[beq_true.1 h1];split at ab<;>first|rfl|cases ab
 ·cases h
theorem Kx:∀l:List Oper,(zC l).flatMap (·.2)=l/\∀g,g∈zC l->∀o,o∈g.2->o.guard=g.1
 |[]=>⟨rfl,λg h=>by cases h⟩
 |o::rest=>by
  obtain⟨h1,ab⟩:=Kx rest;unfold zC;split
  ·rename_i g l gs aN;rw[aN]at h1 ab;cases he:eqGuard o.guard g with
   |true=>
    dsimp only[cond];refine⟨by simpa using h1,λq aF x ag=> ?_⟩;rcases List.mem_cons.1 aF with rfl|aF
    ·rcases List.mem_cons.1 ag with rfl|ag
     ·exact adG he
     ·exact ab (g,l) List.mem_cons_self x ag
    ·exact ab q (List.mem_cons_of_mem _ aF) x ag
   |false=>
    dsimp only[cond];refine⟨by simpa using h1,λq aF x ag=> ?_⟩;rcases List.mem_cons.1 aF with rfl|aF
    ·rcases List.mem_cons.1 ag with rfl|ag
     ·rfl
     ·cases ag
    ·exact ab q aF x ag
  ·rename_i aN;rw[aN]at h1;refine⟨by simpa using h1,λq aF x ag=> ?_⟩;rcases List.mem_cons.1 aF with rfl|aF
   ·rcases List.mem_cons.1 ag with rfl|ag
    ·rfl
    ·cases ag
   ·cases aF
theorem Yc:∀{a b:List Tmp},HR a b=true->∀t,t∈a->t∈b
 |[],b,h,t,aW=>by cases aW
 |u::a,b,h,t,aW=>by
  simp only[HR,Bool.and_eq_true]at h;rcases List.mem_cons.1 aW with rfl|aW
  ·exact Aj.1 h.1
  ·exact Yc h.2 t aW
section
variable{E:Env}{p:cn}{n:Nat}
structure mF(E:Env)(p:cn)(ops:Array Oper)(l:List Oper)(s aY:cU) :Prop where
 runs:∃m,∀k,m<=k->mN E (fns E p k) ops l s=some aY
 n:aY.n=s.n
 ds:aY.ds=s.ds
 other:∀t,t∉hc l->bE.get aY.r t=bE.get s.r t
theorem mF.nil(ops:Array Oper)(s:cU) :mF E p ops [] s s:=⟨⟨0,λ_ _=>rfl⟩,rfl,rfl,λ_ _=>rfl⟩
theorem mF.append{ops:Array Oper}{gM hR:List Oper}{s s1 s2:cU}(a:mF E p ops gM s s1)(b:mF E p ops hR s1 s2)(aC:hc (gM++hR)=hc gM++hc hR) :mF E p ops (gM++hR) s s2 where
 runs:=by obtain⟨c5,h1⟩:=a.runs;obtain⟨dr,ab⟩:=b.runs;refine⟨max c5 dr,λk av=> ?_⟩;rw[S9,h1 k (by omega)];exact ab k (by omega)
 n:=b.n.trans a.n
 ds:=b.ds.trans a.ds
 other:=λt aW=>by rw[aC]at aW;rw[b.other t λh=>aW (List.mem_append_right _ h),a.other t λh=>aW (List.mem_append_left _ h)]
theorem zr:∀(gM hR:List Oper),hc (gM++hR)=hc gM++hc hR
 |[],hR=>rfl
 |o::gM,hR=>by rw[List.cons_append,tZ,zr gM hR,tZ o gM,List.append_assoc]
theorem M7{ops:Array Oper}{gd:Option (Nat×Bool)}{K:bE->ae->Option a1}{res:a1} :∀{l:List Oper} {ρ:bE} {s:cU},Ar E (call E p) n l K ρ s.h=some res->
  (∀o,o∈l->o.guard=gd)->tL ops gd (hc l)->np ops s.r gd=true->fQ ρ s.r->s.n=n->
  ∃aY bD,mF E p ops l s aY/\fQ bD aY.r/\K bD aY.h=some res
 |[],ρ,s,h,_,_,_,av,_=>⟨s,ρ,mF.nil ops s,av,h⟩
 |o::l,ρ,s,h,aN,ea,ai,av,aw=>by
  unfold Ar at h;cases sT:xl n o with
  |false=>rw[sT]at h;cases h
  |true=>
   rw[sT]at h;dsimp only[cond]at h;obtain⟨v,g,bg,fX⟩:=M6 av h;have aC:=JX sT;have jX:o.guard=gd:=aN o List.mem_cons_self;obtain⟨m,hm⟩:=bg.step (ops:=ops) (o:=o) (s:=s) (by rw[Ky,jX];exact ai) (λt e=>by rw[aw];exact aC t e);have d1:mF E p ops [o] s {s with r:=gP s.r o.dst v,h:=g}:=⟨⟨m,λk av=>by simp only[mN,hm k av]⟩,rfl,rfl,λt aW=>AK aW⟩;have CJ:tL ops gd (hc [o]):=λj w q d aG aT bJ hm=>ea j w q d aG aT bJ (by rw[tZ];exact List.mem_append_left _ hm)
   obtain⟨aY,bD,d2,lM,iC⟩:=M7 (l:=l) (s:={s with r:=gP s.r o.dst v,h:=g}) fX (λx ag=>aN x (List.mem_cons_of_mem _ ag))
    (λj w q d aG aT bJ hm=>ea j w q d aG aT bJ (by rw[tZ];exact List.mem_append_right _ hm)) (by rw[Kz CJ (λt aW=>AK aW)];exact ai) (av.gP o.dst v) aw
   exact⟨aY,bD,d1.append d2 (zr _ _),lM,iC⟩
theorem WD{ops:Array Oper}{gd:Option (Nat×Bool)} :∀{l:List Oper} {s:cU},Fc n l=true->(∀o,o∈l->o.guard=gd)->tL ops gd (hc l)->np ops s.r gd=false->s.n=n->
  ∃aY,mF E p ops l s aY/\aY.h=s.h/\∀t,t∈hc l->bE.get aY.r t=.undef
 |[],s,_,_,_,_,_=>⟨s,mF.nil ops s,rfl,λt h=>by cases h⟩
 |o::l,s,rO,aN,ea,ai,aw=>by
  simp only[Fc,Bool.and_eq_true]at rO;have aC:=JX rO.1;have jX:o.guard=gd:=aN o List.mem_cons_self;have af0:h5 ops s.r o=false:=by rw[Ky,jX];exact ai
  have d1:mF E p ops [o] s {s with r:=gP s.r o.dst .undef}:=⟨⟨0,λk av=>by
   simp only[mN,kB,af0]
   rw[oq (λt e=>by rw[aw];exact aC t e)]⟩,rfl,rfl,λt aW=>AK aW⟩
  have CJ:tL ops gd (hc [o]):=λj w q d aG aT bJ hm=>ea j w q d aG aT bJ (by rw[tZ];exact List.mem_append_left _ hm)
  obtain⟨aY,d2,aT,ab⟩:=WD (l:=l) (s:={s with r:=gP s.r o.dst .undef}) rO.2 (λx ag=>aN x (List.mem_cons_of_mem _ ag))
   (λj w q d aG aT bJ hm=>ea j w q d aG aT bJ (by rw[tZ];exact List.mem_append_right _ hm)) (by rw[Kz CJ (λt aW=>AK aW)];exact ai) aw
  refine⟨aY,d1.append d2 (zr _ _),aT,λt aW=> ?_⟩;by_cases ay:t∈hc l
  ·exact ab t ay
  ·rw[d2.other t ay];rw[tZ]at aW;rcases List.mem_append.1 aW with aW|aW
   ·rw[pZ];cases vZ:o.dst with
    |none=>simp[hc,vZ]at aW
    |some d=>simp[hc,vZ]at aW;subst aW;simp
   ·contradiction
theorem aav:∀{ts:List Tmp} {r:bE},(∀t,t∈ts->bE.get r t=.undef)->Ib ts=ts.map (bE.get r)
 |[],r,h=>rfl
 |t::ts,r,h=>by rw[List.map_cons,h t List.mem_cons_self,<-aav λu hu=>h u (List.mem_cons_of_mem _ hu)];rfl
theorem GJ{ρ r cR:bE}{ts:List Tmp}(av:fQ ρ r)(he:∀t,t∉ts->bE.get cR t=bE.get r t) :fQ (kill ρ ts) cR:=λt v h=>by obtain⟨h1,ab⟩:=U8 ts ρ t v h;rw[he t h1];exact av t v ab
theorem Nd{outs:List Tmp}{x:eb}{ρ:bE}{h:ae}{res:a1}(bg:lT outs x ρ h=some res) :∃vs,getAll ρ outs=some vs/\res=(x,vs,h):=by
 unfold lT at bg;split at bg
 ·rename_i vs ai;exact⟨vs,ai,(Option.some.inj bg).symm⟩
 ·cases bg
theorem Nx{ops:Array Oper}{K:bE->ae->Option a1}{res:a1} :∀{gs:List Bu} {os:List (List Tmp)} {ρ:bE} {s:cU},yt E (call E p) n ops gs os K ρ s.h=some res->
  (∀g,g∈gs->∀o,o∈g.2->o.guard=g.1)->fQ ρ s.r->s.n=n->
  ∃aY bD,mF E p ops (gs.flatMap (·.2)) s aY/\fQ bD aY.r/\K bD aY.h=some res
 |[],os,ρ,s,h,_,av,_=>by unfold yt at h;exact⟨s,ρ,mF.nil ops s,av,h⟩
 |(none,l)::gs,os,ρ,s,h,aN,av,aw=>by unfold yt at h;obtain⟨s1,dy,d1,jI,gX⟩:=M7 (gd:=none) h (aN (none,l) List.mem_cons_self) (λj w q d e=>by cases e) rfl av aw;obtain⟨aY,bD,d2,lM,iC⟩:=Nx (gs:=gs) gX (λg xJ=>aN g (List.mem_cons_of_mem _ xJ)) jI (d1.n.trans aw);exact⟨aY,bD,d1.append d2 (zr _ _),lM,iC⟩
 |(some (j,w),l)::gs,os,ρ,s,h,aN,av,aw=>by
  unfold yt at h;split at h
  ·rename_i outs os g aO;split at h
   ·rename_i d aC;replace h:=dV h;obtain⟨aj,h⟩:=h;simp only[Bool.and_eq_true,Bool.not_eq_true']at aj;obtain⟨⟨CK,db⟩,afz⟩:=aj;have CK:=Yc CK;have db:d∉hc l:=λhm=>by rw[Aj.2 hm]at db;cases db
    split at h
    ·rename_i v ai;have wh:bE.get s.r d=v:=av d v ai;obtain⟨x,vs,g1,h1,ab⟩:=Jg h
     have ea:tL ops (some (j,w)) (hc l):=λGw aZ q fc aG aT bJ hm=>by cases aG;rw[aO]at aT;cases aT;rw[aC]at bJ;cases bJ;exact db hm
     have KA:np ops s.r (some (j,w))=LY v w:=by simp only[np,aO,aC,wh];cases v<;>rfl
     have key:∃s1,mF E p ops l s s1/\s1.h=g1/\vs=outs.map (bE.get s1.r):=by
      have yes:(np ops s.r (some (j,w))=true)->Ar E (call E p) n l (lT outs .normal) ρ s.h=some (x,vs,g1)->∃s1,mF E p ops l s s1/\s1.h=g1/\vs=outs.map (bE.get s1.r):=by intro ai an;obtain⟨s1,dy,d1,jI,gX⟩:=M7 (gd:=some (j,w)) an (aN (some (j,w),l) List.mem_cons_self) ea ai av aw;obtain⟨dJ,aG,aT⟩:=Nd gX;cases aT;exact⟨s1,d1,rfl,zA jI aG⟩
      have no:(np ops s.r (some (j,w))=false)->(some ((.normal,Ib outs,s.h) :a1))=some (x,vs,g1)->∃s1,mF E p ops l s s1/\s1.h=g1/\vs=outs.map (bE.get s1.r):=by intro ai an;cases an;obtain⟨s1,d1,aG,aT⟩:=WD (E:=E) (p:=p) (gd:=some (j,w)) afz (aN (some (j,w),l) List.mem_cons_self) ea ai aw;exact⟨s1,d1,aG,aav λt aW=>aT t (CK t aW)⟩
      rw[Wz,<-KA]at h1;cases ur:np ops s.r (some (j,w))with
      |true=>rw[ur,if_pos rfl]at h1;exact yes ur h1
      |false=>rw[ur,if_neg (by simp)]at h1;exact no ur h1
     obtain⟨s1,d1,aG,aT⟩:=key;subst aG;obtain⟨dy,jI,gX⟩:=Dv ab aT (GJ av d1.other);obtain⟨aY,bD,d2,lM,iC⟩:=Nx (gs:=gs) gX (λg xJ=>aN g (List.mem_cons_of_mem _ xJ)) jI (d1.n.trans aw);exact⟨aY,bD,d1.append d2 (zr _ _),lM,iC⟩
    ·cases h
   ·cases h
  ·cases h
end
theorem adH(a:Int) :jW a a=true:=by cases a<;>exact beq_true.2 rfl
theorem ni(k:IntKind) :lH k k=true:=by cases k<;>rfl
theorem rY(a:Nat) :Nat.beq a a=true:=beq_true.2 rfl
mutual
theorem aa.beq_refl:∀v:aa,aa.beq v v=true
 | .undef| .nilPtr| .bI| .hG| .nilFunc| .nilIface=>by simp only[aa.beq]
 | .bool b=>by simp[aa.beq]
 | .int k n=>by simp[aa.beq,ni,adH]
 | .sym k e=>by simp[aa.beq,ni,rY]
 | .str l n=>by simp[aa.beq,rY]
 | .ptr a b=>by simp[aa.beq,rY]
 | .slice a b c d e f=>by simp[aa.beq,rY]
 | .map a=>by simp[aa.beq,rY]
 | .func f a b=>by simp[aa.beq,rY,aa.BB a,aa.BB b]
 | .yield a=>by simp[aa.beq,rY]
 | .iface t v=>by simp[aa.beq,rY,aa.beq_refl v]
 | .agg l=>by simp[aa.beq,aa.BB l]
 | .tuple l=>by simp[aa.beq,aa.BB l]
theorem aa.BB:∀l:List aa,aa.qj l l=true
 |[]=>by simp[aa.qj]
 |v::l=>by simp[aa.qj,aa.beq_refl v,aa.BB l]
end
section
variable{E:Env}{p:cn}{n:Nat}
theorem adF{t:TypeId}(aA:Ac E t=true)(h g:ae)(d:Nat)(x y:aa) :gE E h (d+1) t x y=gE E g (d+1) t x y:=by
 unfold Ac at aA;unfold gE;cases aW:E.ty t with
 |none=>rfl
 |some i=>
  rw[aW]at aA;dsimp only at aA|-;cases aC:i.desc<;>rw[aC]at aA<;>first|(cases aA;done) |(cases x<;>cases y<;>rfl)
theorem abA{t:TypeId}(aA:Ac E t=true)(h g:ae)(op:BinOp)(x y:aa) :ax E h op t x y=ax E g op t x y:=by
 have e:∀a b,gE E h 9 t a b=gE E g 9 t a b:=λa b=>adF aA h g 8 a b
 unfold ax;simp only[e]
theorem acL{s d:TypeId}(aA:(CV E d||CY E s)=true)(h g:ae)(x:aa) :gB E h s d x=gB E g s d x:=by
 unfold gB;unfold CV CY at aA;cases h1:E.ty s with
 |none=>rfl
 |some i=>
  cases ab:E.ty d with
  |none=>rfl
  |some j=>
   rw[h1,ab]at aA;cases x<;>try rfl
   dsimp only at aA|-;simp only[Bool.or_eq_true]at aA;rcases aA with aA|aA
   ·cases aC:j.desc<;>rw[aC]at aA<;>first|(cases aA;done) |(cases i.desc<;>rfl)
   ·cases aC:i.desc<;>rw[aC]at aA<;>first|(cases aA;done) |(cases j.desc<;>rfl)
theorem ao3{t:TypeId}(aA:CU E t=false)(h g:ae)(x:aa)(lo af gN:Option Int) :kl E h t x lo af gN=kl E g t x lo af gN:=by
 unfold kl;unfold CU at aA;cases h1:E.ty t with
 |none=>rfl
 |some i=>
  rw[h1]at aA;dsimp only at aA|-;cases aC:i.desc<;>rw[aC]at aA<;>first|(cases aA;done) |(cases x<;>rfl)
theorem aiM{t:TypeId}(aA:CW E t=false)(h g:ae)(x:aa) :dw E h t x=dw E g t x:=by
 unfold dw;unfold CW at aA;cases h1:E.ty t with
 |none=>rfl
 |some i=>
  rw[h1]at aA;dsimp only at aA|-;cases aC:i.desc<;>rw[aC]at aA<;>first|(cases aA;done) |(cases x<;>rfl)
theorem an0{ρ r:bE}(av:fQ ρ r){op:Op}(an:AD E ρ op=none)(h g:ae) :fi E r h op=fi E r g op:=by
 cases op<;>simp only[AD]at an<;>try (first|(cases an;done) |rfl)
 case load t a=>split at an<;>cases an
 case binOp op t x y u=>
  simp only[fi];cases aA:Ac E t with
  |true=>
   split
   ·exact abA aA h g _ _ _
   ·rfl
  |false=>rw[aA]at an;dsimp only[cond]at an;split at an<;>cases an
 case convert s d x=>
  simp only[fi];cases aA:(CV E d||CY E s)with
  |true=>
   split
   ·exact acL aA h g _
   ·rfl
  |false=>rw[aA]at an;dsimp only[cond]at an;split at an<;>cases an
 case slice t x lo af gN=>
  simp only[fi];cases aA:CU E t with
  |false=>
   split
   ·exact ao3 aA h g _ _ _ _
   ·rfl
  |true=>rw[aA]at an;dsimp only[cond]at an;split at an<;>cases an
 case lookup t x i ok=>split at an<;>cases an
 case call c=>
  obtain⟨callee,args,ts⟩:=c;simp only[fi];dsimp only at an;split at an
  ·rename_i v bc;split at an
   ·rename_i t aW;cases aA:CW E t with
    |true=>rw[aA]at an;cases an
    |false=>
     rw[zd av bc];dsimp only;rw[aW];exact aiM aA h g _
   ·cases an
  ·rcases lI E r args.toList with _|⟨_|⟨_,_|⟨_,_⟩⟩⟩<;>rfl
  ·rcases lI E r args.toList with _|⟨_|⟨_,_|⟨_,_⟩⟩⟩<;>rfl
  ·rcases lI E r args.toList with _|⟨_|⟨_,_|⟨_,_⟩⟩⟩<;>rfl
  ·cases an
 all_goals cases an
theorem an1{ρ r:bE}(av:fQ ρ r){op:Op}{f:ae->Option aa}(an:AD E ρ op=some f){g:ae}{w:aa}(aJ:f g=some w) :fi E r g op=some w:=by
 cases op<;>simp only[AD]at an<;>try (first|(cases an;cases aJ;done) |(cases an;done))
 case load t a=>
  split at an
  ·rename_i bc;cases an;simp only[fi,fa av bc];unfold ak at aJ;split at aJ
   ·exact aJ
   ·cases aJ
  ·cases an;cases aJ
 case binOp op t x y u=>
  simp only[fi];cases aA:Ac E t with
  |true=>rw[aA]at an;cases an
  |false=>
   rw[aA]at an;dsimp only[cond]at an;split at an
   ·rename_i bc aj;cases an;rw[fa av bc,fa av aj];exact aJ
   ·cases an;cases aJ
 case convert s d x=>
  simp only[fi];cases aA:(CV E d||CY E s)with
  |true=>rw[aA]at an;cases an
  |false=>
   rw[aA]at an;dsimp only[cond]at an;split at an
   ·rename_i bc;cases an;rw[fa av bc];exact aJ
   ·cases an;cases aJ
 case slice t x lo af gN=>
  simp only[fi];cases aA:CU E t with
  |false=>rw[aA]at an;cases an
  |true=>
   rw[aA]at an;dsimp only[cond]at an;split at an
   ·rename_i bc aj aH aC;cases an;rw[fa av bc,As av aj,As av aH,As av aC];unfold iv at aJ;split at aJ
    ·rename_i aG aT bJ;rw[aG,aT,bJ];exact aJ
    ·cases aJ
   ·cases an;cases aJ
 case lookup t x i ok=>
  split at an
  ·rename_i bc aj;cases an;simp only[fi,fa av bc,fa av aj];exact aJ
  ·cases an;cases aJ
 case call c=>
  obtain⟨callee,args,ts⟩:=c;dsimp only at an;split at an
  ·rename_i v bc;split at an
   ·rename_i t aW;cases aA:CW E t with
    |false=>rw[aA]at an;cases an
    |true=>
     rw[aA]at an;cases an;simp only[fi,zd av bc,aW];exact aJ
   ·cases an;cases aJ
  ·cases an
  ·cases an
  ·cases an
  ·cases an;cases aJ
def strip(l:List (Nat×Nat×ae)) :List (Nat×ae):=l.map λq=>(q.1,q.2.2)
inductive vD(E:Env)(mem:Nat->ae)(ver:Nat) :List tK->List Seen->Prop where
 |nil:vD E mem ver [] []
 |cons {sd:tK} {se:Seen} {l bQ} (af:se.i=sd.i) (ai:se.v=sd.v) (bg:se.o.op=sd.op) (av:fQ sd.ρ se.r) (Uz:sd.ver<=ver) (ay:fi E se.r (mem sd.ver) sd.op=some sd.v) (t:vD E mem ver l bQ) :
  vD E mem ver (sd::l) (se::bQ)
structure Sync(E:Env)(mem:Nat->ae)(ver:Nat)(h:ae)(gs:List (Nat×Nat×ae))(ls:List tK)(gW:List (Nat×ae))(gn:List Seen) :Prop where
 now:mem ver=h
 kN:gW=strip gs
 old:∀q,q∈gs->q.2.1<=ver/\q.2.2=mem q.2.1
 looks:vD E mem ver ls gn
theorem vD.next{mem:Nat->ae}{ver:Nat}{g:ae}{l bQ}(h:vD E mem ver l bQ) :vD E (λq=>if q=ver+1 then g else mem q) (ver+1) l bQ:=by
 induction h with
 |nil=>exact .nil
 |cons af ai bg av Uz ay t b1=>exact .cons af ai bg av (by omega) (by rw[if_neg (by omega)];exact ay) b1
theorem Sync.next{mem:Nat->ae}{ver:Nat}{h g:ae}{gs ls gW gn}(s:Sync E mem ver h gs ls gW gn) :Sync E (λq=>if q=ver+1 then g else mem q) (ver+1) g gs ls gW gn where
 now:=if_pos rfl
 kN:=s.kN
 old:=λq aF=>by obtain⟨h1,ab⟩:=s.old q aF;exact⟨by omega,by rw[if_neg (by omega)];exact ab⟩
 looks:=s.looks.next
theorem Sync.act{mem:Nat->ae}{ver:Nat}{h:ae}{gs ls gW gn}(s:Sync E mem ver h gs ls gW gn)(i:Nat) :Sync E mem ver h ((i,ver,h)::gs) ls ((i,h)::gW) gn where
 now:=s.now
 kN:=by rw[s.kN];rfl
 old:=λq aF=>by
  rcases List.mem_cons.1 aF with rfl|aF
  ·exact⟨Nat.le_refl _,s.now.symm⟩
  ·exact s.old q aF
 looks:=s.looks
theorem alH{ρ r:bE}(av:fQ ρ r){id:Nat}{h:ae}{op:Op}{K:aa->ae->Option a1}{res:a1}(hm:kindOf E op=.make)(aC:MI E ρ id h op K=some res) :
  ∃f ob,kA E r op=some (f,ob)/\K (f id) (h.put id ob)=some res:=by
 have fin:∀{o:Option ((Nat->aa) ×bT)},qi o id h K=some res->∃f ob,o=some (f,ob)/\K (f id) (h.put id ob)=some res:=by
  intro o aj;unfold qi at aj;split at aj
  ·exact⟨_,_,rfl,aj⟩
  ·cases aj
 cases op<;>simp only[MI]at aC<;>try (cases aC;done)
 case alloc t=>exact fin aC
 case box t x=>
  obtain⟨v,h1,ab⟩:=nO aC;obtain⟨f,ob,al,aE⟩:=fin ab;refine⟨f,ob,?_,aE⟩;unfold c9 at al;simp only[kA,fa av h1];split at al
  ·rename_i i af;rw[af];exact al
  ·cases al
 case buildSlice t len ps=>
  split at aC
  ·rename_i l aI;obtain⟨f,ob,h1,ab⟩:=fin aC;refine⟨f,ob,?_,ab⟩;simp only[kA,Hn av aI];unfold lg at h1;cases aW:E.ty t with
   |none=>rw[aW]at h1;cases h1
   |some i=>rw[aW]at h1;exact h1
  ·cases aC
 case makeMap t rv=>
  cases rv with
  |none=>
   obtain⟨f,ob,h1,ab⟩:=fin aC;cases h1;exact⟨_,_,rfl,ab⟩
  |some x=>cases aC
 case makeSlice t l c=>
  obtain⟨a,b,h1,ab,al⟩:=w_ aC;obtain⟨f,ob,aE,aL⟩:=fin al;refine⟨f,ob,?_,aL⟩;simp only[kA,fa av h1,fa av ab];exact aE
 case convert s d x=>
  obtain⟨v,h1,ab⟩:=nO aC;split at ab
  ·rename_i i af;obtain⟨f,ob,al,aE⟩:=fin ab;refine⟨f,ob,?_,aE⟩;simp only[kA,fa av h1,af];unfold E_ at al;split at al
   ·rename_i he;rw[he];exact al
   ·cases al
  ·cases ab
structure tM(E:Env)(p:cn)(ops:Array Oper)(base:Nat)(l:List Oper)(i:Nat)(s:cU)(gs:List (Nat×ae))(ls:List Seen)(aY:cU)(gW:List (Nat×ae))(gn:List Seen) :Prop where
 runs:∃m,∀k,m<=k->∀rest,kd E (fns E p k) ops base (l++rest) i s gs ls=kd E (fns E p k) ops base rest (i+l.length) aY gW gn
 n:aY.n=s.n
 ds:aY.ds=s.ds
 other:∀t,t∉hc l->bE.get aY.r t=bE.get s.r t
theorem tM.append{ops:Array Oper}{base:Nat}{gM hR:List Oper}{i:Nat}{s s1 s2:cU}{gs po sK:List (Nat×ae)}{ls nD qL:List Seen}(a:tM E p ops base gM i s gs ls s1 po nD)(b:tM E p ops base hR (i+gM.length) s1 po nD s2 sK qL) :
  tM E p ops base (gM++hR) i s gs ls s2 sK qL where
 runs:=by obtain⟨c5,h1⟩:=a.runs;obtain⟨dr,ab⟩:=b.runs;refine⟨max c5 dr,λk av rest=> ?_⟩;rw[List.append_assoc,h1 k (by omega),ab k (by omega),List.length_append,Nat.add_assoc]
 n:=b.n.trans a.n
 ds:=b.ds.trans a.ds
 other:=λt aW=>by rw[zr]at aW;rw[b.other t λh=>aW (List.mem_append_right _ h),a.other t λh=>aW (List.mem_append_left _ h)]
theorem OA{ops:Array Oper}{base:Nat}{gd:Option (Nat×Bool)}{run:Bool}{K:EG}{res:a1} :∀{l:List Oper} {i ver:Nat} {ρ:bE} {s:cU} {gs:List (Nat×Nat×ae)} {ls:List tK} {mem:Nat->ae} {gW:List (Nat×ae)} {gn:List Seen},
  q0 E (call E p) n base run l K i ver ρ s.h gs ls=some res->(∀o,o∈l->o.guard=gd)->tL ops gd (hc l)->np ops s.r gd=run->fQ ρ s.r->s.n=n->Sync E mem ver s.h gs ls gW gn->
  ∃aY yS bD sK qL cA mP mZ,tM E p ops base l i s gW gn aY mP mZ/\fQ bD aY.r/\Sync E cA yS aY.h sK qL mP mZ/\K (i+l.length) yS bD aY.h sK qL=some res
 |[],i,ver,ρ,s,gs,ls,mem,gW,gn,h,_,_,_,av,_,iR=>⟨s,ver,ρ,gs,ls,mem,gW,gn,⟨⟨0,λ_ _ _=>rfl⟩,rfl,rfl,λ_ _=>rfl⟩,av,iR,h⟩
 |o::l,i,ver,ρ,s,gs,ls,mem,gW,gn,h,aN,ea,ai,av,aw,iR=>by
  unfold q0 at h;cases sT:xl n o with
  |false=>rw[sT]at h;cases h
  |true=>
   rw[sT]at h;dsimp only[cond]at h;have aC:∀t,o.dst=some t->t<s.n:=λt e=>by rw[aw];exact JX sT t e
   have jX:h5 ops s.r o=run:=by rw[Ky,aN o List.mem_cons_self];exact ai
   have CJ:tL ops gd (hc [o]):=λj w q d aG aT bJ hm=>ea j w q d aG aT bJ (by rw[tZ];exact List.mem_append_left _ hm)
   have next:∀(v:aa) (g:ae) (D_:Nat) (po:List (Nat×Nat×ae)) (nD:List tK) (GW:Nat->ae) (zD:List (Nat×ae)) (Ai:List Seen),
     q0 E (call E p) n base run l K (i+1) D_ (gP ρ o.dst v) g po nD=some res->Sync E GW D_ g po nD zD Ai->
     (∃m,∀k,m<=k->∀rest,kd E (fns E p k) ops base (o::rest) i s gW gn=kd E (fns E p k) ops base rest (i+1) {s with r:=gP s.r o.dst v,h:=g} zD Ai)->
     ∃aY yS bD sK qL cA mP mZ,tM E p ops base (o::l) i s gW gn aY mP mZ/\fQ bD aY.r/\Sync E cA yS aY.h sK qL mP mZ/\K (i+(o::l).length) yS bD aY.h sK qL=some res:=by
    intro v g D_ po nD GW zD Ai fX DE xT
    obtain⟨aY,yS,bD,sK,qL,cA,mP,mZ,t2,lM,apE,iC⟩:=OA (l:=l) (s:={s with r:=gP s.r o.dst v,h:=g}) fX (λx ag=>aN x (List.mem_cons_of_mem _ ag))
     (λj w q d aG aT bJ hm=>ea j w q d aG aT bJ (by rw[tZ];exact List.mem_append_right _ hm)) (by rw[Kz CJ (λt aW=>AK aW)];exact ai) (av.gP o.dst v) aw DE
    have t1:tM E p ops base [o] i s gW gn {s with r:=gP s.r o.dst v,h:=g} zD Ai:=⟨xT,rfl,rfl,λt aW=>AK aW⟩;refine⟨aY,yS,bD,sK,qL,cA,mP,mZ,t1.append t2,lM,apE,?_⟩;rw[List.length_cons,show i+(l.length+1)=i+1+l.length by omega];exact iC
   cases iV:kindOf E o.op with
   |act=>
    cases run with
    |true=>
     rw[iV]at h;dsimp only at h;obtain⟨v,g,bg,fX⟩:=M6 av h;obtain⟨m,hm⟩:=bg.step (ops:=ops) (o:=o) (s:=s) jX aC;refine next v g (ver+1) _ _ _ _ _ fX (iR.act i).next ⟨m,λk kX rest=> ?_⟩
     conv=>lhs;unfold kd
     rw[iV];dsimp only;rw[hm k kX]
    |false=>
     rw[iV]at h;dsimp only at h;refine next .undef s.h ver _ _ _ _ _ h (iR.act i) ⟨0,λk kX rest=> ?_⟩
     conv=>lhs;unfold kd
     rw[iV];dsimp only;unfold kB;rw[jX];dsimp only;rw[oq aC]
   |make=>
    cases run with
    |true=>
     rw[iV]at h;dsimp only at h;obtain⟨f,ob,h1,ab⟩:=alH av iV h;refine next _ _ (ver+1) _ _ _ _ _ ab iR.next ⟨0,λk kX rest=> ?_⟩
     conv=>lhs;unfold kd
     rw[iV,jX];dsimp only;rw[h1];dsimp only;rw[oq aC]
    |false=>
     rw[iV]at h;dsimp only at h;refine next .undef s.h ver _ _ _ _ _ h iR ⟨0,λk kX rest=> ?_⟩
     conv=>lhs;unfold kd
     rw[iV,jX];dsimp only;rw[oq aC]
   |look=>
    cases run with
    |true=>
     rw[iV]at h;dsimp only at h;obtain⟨v,g,bg,fX⟩:=M6 av h
     have T7:fi E s.r s.h o.op=some v:=by
      have e:jN E s.r s.h o.op=o9.MZ (fi E s.r s.h o.op) s.h:=by unfold jN;rw[iV]
      rcases bg with bg|⟨bg,_⟩ |⟨_,_,bg,_⟩
      all_goals
       rw[e]at bg;cases ay:fi E s.r s.h o.op<;>rw[ay]at bg<;>cases bg
      rfl
     refine next v s.h ver gs _ mem gW _ fX ⟨iR.now,iR.kN,iR.old,.cons (se:={i,o,r:=s.r,v}) rfl rfl rfl av (Nat.le_refl _) (by rw[iR.now];exact T7) iR.looks⟩ ⟨0,λk kX rest=> ?_⟩
     conv=>lhs;unfold kd
     rw[iV,jX];dsimp only;rw[T7];dsimp only;rw[oq aC]
    |false=>
     rw[iV]at h;dsimp only at h;refine next .undef s.h ver _ _ _ _ _ h iR ⟨0,λk kX rest=> ?_⟩
     conv=>lhs;unfold kd
     rw[iV,jX];dsimp only;rw[oq aC]
theorem RT{f:ae->Option aa}{v:aa}{k:Option a1}{res:a1} :∀{l:List ae},bx l f v k=some res->(∀g,g∈l->∃w,f g=some w/\aa.beq w v=true)/\k=some res
 |[],h=>⟨(λg aN=>by cases aN),h⟩
 |g::l,h=>by
  unfold bx at h;split at h
  ·rename_i w hw;replace h:=dV h;obtain⟨h1,ab⟩:=RT h.2;refine⟨λq aF=> ?_,ab⟩;rcases List.mem_cons.1 aF with rfl|aF
   ·exact⟨w,hw,h.1⟩
   ·exact h1 q aF
  ·cases h
theorem Mh{bs:List Nat}{i ver lastVer:Nat}{last:ae}{f:ae->Bool}(ay:lastVer=ver->f last=true) :∀{gs:List (Nat×Nat×ae)},(∀g,g∈xg bs i ver lastVer last gs->f g=true)->(∀q,q∈gs->q.2.1=ver->f q.2.2=true)->
  qK bs i f last (strip gs)=true
 |[],aH,_=>by
  show f last=true;unfold xg at aH;cases aj:Nat.beq ver lastVer with
  |true=>exact ay (beq_true.1 aj).symm
  |false=>rw[aj]at aH;exact aH last (by simp[cond])
 |(a,v,g)::rest,aH,aA=>by
  have b1:=λsQ=>Mh (bs:=bs) (i:=i) (ver:=ver) (lastVer:=lastVer) (last:=last) (f:=f) ay (gs:=rest) sQ λq aF=>aA q (List.mem_cons_of_mem _ aF)
  show qK bs i f last ((a,g)::strip rest)=true;unfold qK;unfold xg at aH;cases h1:ka (bs.getD i 0) a with
  |true=>
   rw[h1]at aH;exact b1 aH
  |false=>
   rw[h1]at aH;dsimp only[cond]at aH|-
   have aN:f g=true:=by
    by_cases e:v=ver
    ·exact aA (a,v,g) List.mem_cons_self e
    ·have:Nat.beq ver v=false:=beq_false.2 λh=>e h.symm
     rw[this]at aH;cases ab:ka (bs.getD a 0) i with
     |true=>rw[ab]at aH;exact aH g (by simp[cond])
     |false=>rw[ab]at aH;exact aH g (by simp[cond])
   rw[aN];cases ab:ka (bs.getD a 0) i with
   |true=>rfl
   |false=>
    rw[ab]at aH;dsimp only[cond]at aH;simp only[Bool.true_and,Bool.false_or];refine b1 λq aF=>aH q ?_
    cases Nat.beq ver v with
    |true=>exact aF
    |false=>exact List.mem_cons_of_mem _ aF
theorem JE{bs:List Nat}{gs:List (Nat×Nat×ae)}{last:ae}{lastVer:Nat}{mem:Nat->ae}(Lm:mem lastVer=last)(hold:∀q,q∈gs->q.2.2=mem q.2.1){k:Option a1}{res:a1} :∀{ls:List tK} {gn:List Seen},vD E mem lastVer ls gn->
  BH E bs gs last lastVer ls k=some res->uL E bs (strip gs) last gn=true/\k=some res
 |_,_,.nil,h=>⟨rfl,h⟩
 |_,_,.cons (sd:=sd) (se:=se) af ai bg av Uz ay t,h=>by
  unfold BH at h
  have same:∀q,q∈gs->q.2.1=sd.ver->rW E se q.2.2=true:=λq aF e=>by unfold rW;rw[bg,hold q aF,e,ay];dsimp only;rw[ai];exact aa.beq_refl _
  have U':lastVer=sd.ver->rW E se last=true:=λe=>by unfold rW;rw[bg,<-Lm,e,ay];dsimp only;rw[ai];exact aa.beq_refl _
  cases an:AD E sd.ρ sd.op with
  |none=>
   rw[an]at h;dsimp only at h;obtain⟨h1,ab⟩:=JE Lm hold t h;refine⟨?_,ab⟩;unfold uL;rw[Bool.and_eq_true];refine⟨?_,h1⟩
   have all:∀g,rW E se g=true:=λg=>by unfold rW;rw[bg,an0 av an g (mem sd.ver),ay];dsimp only;rw[ai];exact aa.beq_refl _
   rw[af];exact Mh U' (ver:=sd.ver) (λg _=>all g) same
  |some f=>
   rw[an]at h;dsimp only at h;obtain⟨h0,h⟩:=RT h;obtain⟨h1,ab⟩:=JE Lm hold t h;refine⟨?_,ab⟩;unfold uL;rw[Bool.and_eq_true];refine⟨?_,h1⟩;rw[af];refine Mh U' (ver:=sd.ver) (λg aN=> ?_) same;obtain⟨w,hw,aj⟩:=h0 g aN;unfold rW;rw[bg,an1 av an hw];dsimp only;rw[ai];exact aj
theorem OB{ops:Array Oper}{base:Nat}{bs:List Nat}{K:bE->ae->Option a1}{res:a1} :∀{gl:List Bu} {i ver:Nat} {ρ:bE} {s:cU} {gs:List (Nat×Nat×ae)} {ls:List tK} {mem:Nat->ae} {gW:List (Nat×ae)} {gn:List Seen},
  u_ E (call E p) n base bs ops gl K i ver ρ s.h gs ls=some res->(∀g,g∈gl->∀o,o∈g.2->o.guard=g.1)->fQ ρ s.r->s.n=n->Sync E mem ver s.h gs ls gW gn->
  ∃aY bD mP mZ,tM E p ops base (gl.flatMap (·.2)) i s gW gn aY mP mZ/\fQ bD aY.r/\uL E bs mP.reverse aY.h mZ=true/\K bD aY.h=some res
 |[],i,ver,ρ,s,gs,ls,mem,gW,gn,h,_,av,_,iR=>by
  unfold u_ at h;obtain⟨h1,ab⟩:=JE (gs:=gs.reverse) iR.now (λq aF=>(iR.old q (by simpa using aF)).2) iR.looks h;refine⟨s,ρ,gW,gn,⟨⟨0,λ_ _ _=>rfl⟩,rfl,rfl,λ_ _=>rfl⟩,av,?_,ab⟩;rw[iR.kN];have:(strip gs).reverse=strip gs.reverse:=by unfold strip;rw[List.map_reverse]
  rw[this];exact h1
 |(none,l)::gl,i,ver,ρ,s,gs,ls,mem,gW,gn,h,aN,av,aw,iR=>by unfold u_ at h;obtain⟨s1,D_,dy,po,nD,GW,zD,Ai,t1,jI,DE,gX⟩:=OA (gd:=none) h (aN (none,l) List.mem_cons_self) (λj w q d e=>by cases e) rfl av aw iR;obtain⟨aY,bD,mP,mZ,t2,lM,oT,iC⟩:=OB (gl:=gl) gX (λg xJ=>aN g (List.mem_cons_of_mem _ xJ)) jI (t1.n.trans aw) DE;exact⟨aY,bD,mP,mZ,t1.append t2,lM,oT,iC⟩
 |(some (j,w),l)::gl,i,ver,ρ,s,gs,ls,mem,gW,gn,h,aN,av,aw,iR=>by
  unfold u_ at h;split at h
  ·rename_i g aO;split at h
   ·rename_i d aC;replace h:=ES h;obtain⟨aj,h⟩:=h;have db:d∉hc l:=λhm=>by rw[Aj.2 hm]at aj;cases aj
    split at h
    ·rename_i v ai;have wh:bE.get s.r d=v:=av d v ai
     have ea:tL ops (some (j,w)) (hc l):=λGw aZ q fc aG aT bJ hm=>by cases aG;rw[aO]at aT;cases aT;rw[aC]at bJ;cases bJ;exact db hm
     have KA:np ops s.r (some (j,w))=LY v w:=by simp only[np,aO,aC,wh];cases v<;>rfl
     have fin:∀run,np ops s.r (some (j,w))=run->q0 E (call E p) n base run l (u_ E (call E p) n base bs ops gl K) i ver ρ s.h gs ls=some res->
       ∃aY bD mP mZ,tM E p ops base (((some (j,w),l)::gl).flatMap (·.2)) i s gW gn aY mP mZ/\fQ bD aY.r/\uL E bs mP.reverse aY.h mZ=true/\K bD aY.h=some res:=by
      intro run xT h;obtain⟨s1,D_,dy,po,nD,GW,zD,Ai,t1,jI,DE,gX⟩:=OA (gd:=some (j,w)) h (aN (some (j,w),l) List.mem_cons_self) ea xT av aw iR;obtain⟨aY,bD,mP,mZ,t2,lM,oT,iC⟩:=OB (gl:=gl) gX (λg xJ=>aN g (List.mem_cons_of_mem _ xJ)) jI (t1.n.trans aw) DE;exact⟨aY,bD,mP,mZ,t1.append t2,lM,oT,iC⟩
     rw[Wz,<-KA]at h;cases ur:np ops s.r (some (j,w))with
     |true=>rw[ur,if_pos rfl]at h;exact fin true ur h
     |false=>rw[ur,if_neg (by simp)]at h;exact fin false ur h
    ·cases h
   ·cases h
  ·cases h
theorem adf{ops:Array Oper}{K:bE->ae->Option a1}{ρ:bE}{s:cU}{res:a1}(h:JU E (call E p) n ops K ρ s.h=some res)(av:fQ ρ s.r)(aw:s.n=n) :
  ∃aY bD m,(∀k,m<=k->ud E (fns E p k) ops s=some aY)/\aY.n=s.n/\aY.ds=s.ds/\(∀t,t∉hc ops.toList->bE.get aY.r t=bE.get s.r t)/\fQ bD aY.r/\K bD aY.h=some res:=by
 unfold JU at h;replace h:=dV h;obtain⟨ea,h⟩:=h;obtain⟨aG,aT⟩:=Kx ops.toList;obtain⟨aY,bD,gW,gn,t,kX,ay,fX⟩:=OB (s:={s with h:=s.h.aB ops.size}) (mem:=λ_=>s.h.aB ops.size) (gW:=[]) (gn:=[]) h aT av aw ⟨rfl,rfl,(λq aF=>by cases aF),.nil⟩;rw[aG]at t;obtain⟨m,hm⟩:=t.runs;refine⟨aY,bD,m,λk av=> ?_,t.n,t.ds,t.other,kX,fX⟩;unfold ud;dsimp only;rw[ea];dsimp only[cond];have:=hm k av [];rw[List.append_nil]at this;rw[show({s with h:={s.h with next:=s.h.next+ops.size}} :cU)={s with h:=s.h.aB ops.size}from rfl,this];unfold kd;dsimp only;rw[ay]
end
section
variable{E:Env}{p:cn}{n:Nat}
structure tN(E:Env)(p:cn)(ro:Option Nat)(c:Code)(s:cU)(x:eb)(aY:cU) :Prop where
 goes:iA E p ro c s x aY
 n:aY.n=s.n
 ds:aY.ds=s.ds
 other:∀t,t∉l8 c->bE.get aY.r t=bE.get s.r t
theorem Kb{k:Nat->Option a1}{res:a1} :∀{ids:List Nat} {i:Nat},BY ids i k=some res->k i=some res
 |[],i,h=>by cases h
 |j::U0,i,h=>by
  unfold BY at h;cases aj:Nat.beq i j with
  |true=>rw[aj]at h;rw[beq_true.1 aj];exact h
  |false=>rw[aj]at h;exact Kb h
theorem pn{ro:Option Nat}{c:Code}{s aY:cU}{x:eb}(h:∃k,hj E (fns E p k) ro c s=some (x,aY)) :iA E p ro c s x aY:=by obtain⟨k,av⟩:=h;exact⟨k+1,av⟩
theorem arR{ro:Option Nat}{a b:Code}{s s1 s2:cU}{x:eb}(h1:tN E p ro a s .normal s1)(ab:tN E p ro b s1 x s2) :tN E p ro (.seq a b) s x s2 where
 goes:=by obtain⟨c5,g1⟩:=h1.goes;obtain⟨dr,g2⟩:=ab.goes;refine pn ⟨max c5 dr,?_⟩;unfold hj;dsimp only;rw[(vT E p (Nat.le_max_left c5 dr)).code _ _ _ _ g1];exact(vT E p (Nat.le_max_right c5 dr)).code _ _ _ _ g2
 n:=ab.n.trans h1.n
 ds:=ab.ds.trans h1.ds
 other:=λt aW=>by simp only[l8,List.mem_append,not_or]at aW;rw[ab.other t aW.2,h1.other t aW.1]
theorem aaJ{ro:Option Nat}{a b:Code}{s s1:cU}{x:eb}(h1:tN E p ro a s x s1)(ag:x≠.normal) :tN E p ro (.seq a b) s x s1 where
 goes:=by obtain⟨c5,g1⟩:=h1.goes;refine pn ⟨c5,?_⟩;unfold hj;dsimp only;rw[g1];cases x<;>first|rfl|contradiction
 n:=h1.n
 ds:=h1.ds
 other:=λt aW=>by simp only[l8,List.mem_append,not_or]at aW;exact h1.other t aW.1
theorem Mm{ro:Option Nat}{c:Code}{outs:List Tmp}{f:List aa->ae->Option a1}{r0:bE}{nn:Nat}{ds:List Nat}
  (aJ:∀vs h x dJ bC s,f vs h=some (x,dJ,bC)->s.n=nn->s.ds=ds->s.h=h->vs=outs.map (bE.get s.r)->(∀t,t∉l8 c->bE.get s.r t=bE.get r0 t)->∃aY,tN E p ro c s x aY/\aY.h=bC/\dJ=outs.map (bE.get aY.r)) :
  ∀(i:Nat) vs h x dJ bC s,eM i f vs h=some (x,dJ,bC)->s.n=nn->s.ds=ds->s.h=h->vs=outs.map (bE.get s.r)->(∀t,t∉l8 c->bE.get s.r t=bE.get r0 t)->
   ∃aY m,(∀k,m<=k->pO i ((fns E p k).code ro c) s=some (x,aY))/\aY.n=nn/\aY.ds=ds/\aY.h=bC/\dJ=outs.map (bE.get aY.r)/\(∀t,t∉l8 c->bE.get aY.r t=bE.get r0 t)
 |0,vs,h,x,dJ,bC,s,ay,h1,ab,al,aE,aL=>by obtain⟨aY,w,aG,aT⟩:=aJ vs h x dJ bC s ay h1 ab al aE aL;obtain⟨m,g⟩:=w.goes;exact⟨aY,m,λk av=>(vT E p av).code _ _ _ _ g,w.n.trans h1,w.ds.trans ab,aG,aT,λt aW=>(w.other t aW).trans (aL t aW)⟩
 |i+1,vs,h,x,dJ,bC,s,ay,h1,ab,al,aE,aL=>by
  unfold eM at ay;cases aF:eM i f vs h with
  |none=>rw[aF]at ay;cases ay
  |some q=>
   obtain⟨y,ws,g⟩:=q;obtain⟨s1,c5,ao,a2,a3,a4,a5,hZ⟩:=Mm aJ i vs h y ws g s aF h1 ab al aE aL;rw[aF]at ay;by_cases aq:y=.normal
   ·subst aq;dsimp only at ay;obtain⟨aY,dr,fS,ft,gV,jq,kP,abu⟩:=Mm aJ i ws g x dJ bC s1 ay a2 a3 a4 a5 hZ;refine⟨aY,max c5 dr,λk av=> ?_,ft,gV,jq,kP,abu⟩;unfold pO;rw[ao k (by omega)];exact fS k (by omega)
   ·have kv:(some ((y,ws,g) :a1))=some (x,dJ,bC):=by cases y<;>first|exact ay|contradiction
    cases kv;refine⟨s1,c5,λk av=> ?_,a2,a3,a4,a5,hZ⟩;unfold pO;rw[ao k av];cases x<;>first|rfl|contradiction
theorem SH(ro:Option Nat) :∀(a:m') (c:Code) (K:sq) (ρ:bE) (s:cU) (res:a1),den E (call E p) n a c K ρ s.h=some res->fQ ρ s.r->s.n=n->
  ∃x aY bD,tN E p ro c s x aY/\fQ bD aY.r/\K x bD aY.h=some res:=by
 intro a;induction a with
 |leaf=>
  intro c K ρ s res h av aw;unfold den at h;cases c<;>try (cases h;done)
  ·exact⟨.normal,s,ρ,⟨pn ⟨0,rfl⟩,rfl,rfl,λ_ _=>rfl⟩,av,h⟩
  ·exact⟨.exit _,s,ρ,⟨pn ⟨0,rfl⟩,rfl,rfl,λ_ _=>rfl⟩,av,h⟩
  ·exact⟨.normal,s,ρ,⟨pn ⟨0,rfl⟩,rfl,rfl,λ_ _=>rfl⟩,av,h⟩
  ·exact⟨.ret,s,ρ,⟨pn ⟨0,rfl⟩,rfl,rfl,λ_ _=>rfl⟩,av,h⟩
 |ah os=>
  intro c K ρ s res h av aw;unfold den at h;cases c<;>try (cases h;done)
  rename_i i ops tY;cases tY with
  |true=>cases h
  |false=>
   dsimp only at h;obtain⟨aG,aT⟩:=Kx ops.toList;obtain⟨aY,bD,d,kX,fX⟩:=Nx (ops:=ops) h aT av aw;rw[aG]at d;obtain⟨m,hm⟩:=d.runs;exact⟨.normal,aY,bD,⟨pn ⟨m,by unfold hj;dsimp only;rw[hm m (Nat.le_refl m)]⟩,d.n,d.ds,d.other⟩,kX,fX⟩
 |seq a b rU LN=>
  intro c K ρ s res h av aw;unfold den at h;cases c<;>try (cases h;done)
  rename_i c d;dsimp only at h;obtain⟨x,s1,dy,ck,jI,gX⟩:=rU _ _ _ _ _ h av aw;unfold XI at gX;cases x with
  |normal=>
   obtain⟨y,s2,ev,dT,lM,iC⟩:=LN _ _ _ _ _ gX jI (ck.n.trans aw);exact⟨y,s2,ev,arR ck dT,lM,iC⟩
  |exit i=>exact⟨_,s1,dy,aaJ ck (λe=>by cases e),jI,gX⟩
  |ret=>exact⟨_,s1,dy,aaJ ck (λe=>by cases e),jI,gX⟩
  |goto l=>cases gX
 |cond a b rU LN=>
  intro c K ρ s res h av aw;unfold den at h;cases c<;>try (cases h;done)
  rename_i t c d;dsimp only at h;obtain⟨v,ai,h⟩:=nO h;have ai:=fa av ai;unfold bq at h;split at h
  ·obtain⟨x,s1,dy,ck,jI,gX⟩:=rU _ _ _ _ _ h av aw;obtain⟨m,g⟩:=ck.goes;exact⟨x,s1,dy,⟨pn ⟨m,by unfold hj;dsimp only;rw[ai];exact g⟩,ck.n,ck.ds,λt aW=>ck.other t λhm=>aW (by simp only[l8];exact List.mem_append_left _ hm)⟩,jI,gX⟩
  ·obtain⟨x,s1,dy,ck,jI,gX⟩:=LN _ _ _ _ _ h av aw;obtain⟨m,g⟩:=ck.goes;exact⟨x,s1,dy,⟨pn ⟨m,by unfold hj;dsimp only;rw[ai];exact g⟩,ck.n,ck.ds,λt aW=>ck.other t λhm=>aW (by simp only[l8];exact List.mem_append_right _ hm)⟩,jI,gX⟩
  ·cases h
 |dW a rU=>
  intro c K ρ s res h av aw;unfold den at h;cases c<;>try (cases h;done)
  rename_i id c;dsimp only at h;obtain⟨x,s1,dy,ck,jI,gX⟩:=rU _ _ _ _ _ h av aw;obtain⟨m,g⟩:=ck.goes
  have fin:∀y,hj E (fns E p m) ro (.block id c) s=some (y,s1)->K y dy s1.h=some res->∃x aY bD,tN E p ro (.block id c) s x aY/\fQ bD aY.r/\K x bD aY.h=some res:=
   λy aq fX=>⟨y,s1,dy,⟨pn ⟨m,aq⟩,ck.n,ck.ds,ck.other⟩,jI,fX⟩
  unfold R2 at gX;cases x with
  |normal=>exact fin .normal (by unfold hj;dsimp only;rw[g]) gX
  |ret=>exact fin .ret (by unfold hj;dsimp only;rw[g]) gX
  |goto l=>cases gX
  |exit i=>
   dsimp only at gX;cases aj:Nat.beq i id with
   |true=>rw[aj]at gX;exact fin .normal (by unfold hj;dsimp only;rw[g];dsimp only;rw[aj];rfl) gX
   |false=>rw[aj]at gX;exact fin (.exit i) (by unfold hj;dsimp only;rw[g];dsimp only;rw[aj];rfl) gX
 |wT a rU=>
  intro c K ρ s res h av aw;unfold den at h;cases c<;>try (cases h;done)
  rename_i c;dsimp only at h;obtain⟨x,s1,dy,ck,jI,gX⟩:=rU _ _ _ _ _ h av aw;obtain⟨m,g⟩:=ck.goes;have ag:∀l,x≠.goto l:=λl e=>by subst e;cases gX
  refine⟨x,s1,dy,⟨pn ⟨m,?_⟩,ck.n,ck.ds,ck.other⟩,jI,?_⟩
  ·unfold hj;dsimp only;unfold wS;rw[g];cases x<;>first|rfl|exact absurd rfl (ag _)
  ·unfold XG at gX;cases x<;>first|exact gX|exact absurd rfl (ag _)
 |cut outs ids a rU=>
  intro c K ρ s res h av aw;unfold den at h;obtain⟨x,vs,g,h1,ab⟩:=Jg h;obtain⟨y,s1,dy,ck,jI,gX⟩:=rU _ _ _ _ _ h1 av aw;obtain⟨dJ,aG,aT⟩:=Nd gX;cases aT;obtain⟨ev,lM,iC⟩:=Dv ab (zA jI aG) (GJ av ck.other);unfold jF at iC;cases x with
  |normal=>exact⟨_,s1,ev,ck,lM,iC⟩
  |ret=>exact⟨_,s1,ev,ck,lM,iC⟩
  |exit i=>exact⟨_,s1,ev,ck,lM,Kb iC⟩
  |goto l=>cases iC
 |loop outs ids a rU=>
  intro c K ρ s res h av aw;unfold den at h;cases c<;>try (cases h;done)
  rename_i id c;cases c<;>try (cases h;done)
  rename_i c;dsimp only at h;split at h
  ·cases h
  ·rename_i vs0 qD;obtain⟨x,vs,g,h1,ab⟩:=Jg h
   obtain⟨aY,m,ao,a2,a3,a4,a5,hZ⟩:=Mm (E:=E) (p:=p) (ro:=ro) (c:=c) (outs:=outs) (r0:=s.r) (nn:=n) (ds:=s.ds)
    (λvs h x dJ bC q aJ fS ft gV jq kP=>by
      subst gV;obtain⟨auw,agb,aeX⟩:=Dv aJ jq (GJ av kP);obtain⟨y,s1,dy,ck,jI,gX⟩:=rU _ _ _ _ _ aeX agb fS;obtain⟨Bk,aG,aT⟩:=Nd gX;cases aT
      exact⟨s1,ck,rfl,zA jI aG⟩) 14 vs0 s.h x vs g s h1 aw rfl rfl (zA av qD) (λ_ _=>rfl)
   subst a4;obtain⟨ev,lM,iC⟩:=Dv ab a5 (GJ av hZ)
   have agk:x≠.normal->hj E (fns E p m) ro (.loop c) s=some (x,aY):=λag=>by unfold hj;dsimp only;rw[ao m (Nat.le_refl m)];cases x<;>first|rfl|contradiction
   have fin:∀y,x≠.normal->(match some (x,aY)with
     |some (.exit o0,aY)=>bif Nat.beq o0 id then some (.normal,aY)else some (.exit o0,aY)
     |r=>r)=some (y,aY)->K y ev aY.h=some res->∃x aY bD,tN E p ro (.block id (.loop c)) s x aY/\fQ bD aY.r/\K x bD aY.h=some res:=λy ag aq fX=>
    ⟨y,aY,ev,⟨pn ⟨m+1,by
     unfold hj;dsimp only;rw[show(fns E p (m+1)).code ro (.loop c) s=some (x,aY)from agk ag]
     exact aq⟩,a2.trans aw.symm,a3,hZ⟩,lM,fX⟩
   unfold gD at iC;cases x with
   |normal=>cases iC
   |goto l=>cases iC
   |ret=>exact fin .ret (λe=>by cases e) rfl iC
   |exit i=>
    dsimp only at iC;cases aj:Nat.beq i id with
    |true=>rw[aj]at iC;exact fin .normal (λe=>by cases e) (by dsimp only;rw[aj];rfl) iC
    |false=>rw[aj]at iC;exact fin (.exit i) (λe=>by cases e) (by dsimp only;rw[aj];rfl) (Kb iC)
 |drawn=>
  intro c K ρ s res h av aw;unfold den at h;cases c<;>try (cases h;done)
  rename_i i ops tY;cases tY with
  |false=>cases h
  |true=>
   dsimp only at h;obtain⟨aY,bD,m,hm,h1,ab,al,kX,fX⟩:=adf h av aw;exact⟨.normal,aY,bD,⟨pn ⟨m,by unfold hj;dsimp only;rw[hm m (Nat.le_refl m)]⟩,h1,ab,al⟩,kX,fX⟩
theorem Ny{r ρ:bE}(av:fQ ρ r){h:ae} :∀{rs:List ResultVar} {k:List aa->Option a1} {res:a1},wQ E ρ h rs k=some res->∃vs,jB E r h rs=some vs/\k vs=some res
 |[],k,res,an=>⟨[],rfl,an⟩
 | .tmp t::rest,k,res,an=>by
  unfold wQ at an;split at an
  ·rename_i v ai;obtain⟨vs,h1,ab⟩:=Ny av an;exact⟨v::vs,by unfold jB;rw[h1,av t v ai],ab⟩
  ·cases an
 | .cell a t::rest,k,res,an=>by
  unfold wQ at an;split at an
  ·rename_i q aF;obtain⟨v,h0,an⟩:=jU an;obtain⟨vs,h1,ab⟩:=Ny av an;refine⟨v::vs,?_,ab⟩;unfold jB;rw[h1,av a q aF];unfold ak at h0;split at h0
   ·simp only[h0]
   ·cases h0
  ·cases an
theorem aed{f:FuncId}{fn:Func}(aJ:E.fn f=some fn)(aI:p f=none){a:m'}{args:List aa}{h g:ae}{x:eb}{vs:List aa}(aC:Kf E (call E p) fn a args h=some (x,vs,g))
  {first mid cap:List aa} (he:first++mid++cap=args) :call E p (.func f first cap) mid h=some (kE vs,g):=by
 unfold Kf at aC;split at aC
 ·rename_i c aH;obtain⟨y,aY,bD,w,av,fX⟩:=SH none a c _ _ {r:=r7 args 0 .nil,n:=max fn.ntmps args.length,ds:=[],h} _ aC (fQ.refl _) rfl;obtain⟨m,aN⟩:=w.goes
  have sW:(y=.normal\/y=.ret)/\wQ E bD aY.h fn.results.toList (λvs=>some (.ret,vs,aY.h))=some (x,vs,g):=by unfold Tg at fX;cases y<;>first|exact⟨.inl rfl,fX⟩ |exact⟨.inr rfl,fX⟩ |cases fX
  obtain⟨aq,fX⟩:=sW;obtain⟨dJ,h1,ab⟩:=Ny av fX;simp only[Option.some.injEq,Prod.mk.injEq]at ab;obtain⟨_,rfl,rfl⟩:=ab;refine pe.2 ⟨m+1,?_⟩
  have oa:lF E (fns E p m) (.func f first cap) mid h=some (kE dJ,aY.h):=by
   unfold lF;dsimp only;rw[aJ];dsimp only;rw[aH];dsimp only;rw[he,aN];dsimp only;have ag:(match y with| .normal| .ret=>true|_=>false)=true:=by rcases aq with rfl|rfl<;>rfl
   have zJ:aY.ds=[]:=w.ds;cases y<;>first|(rcases aq with h|h<;>cases h;done) |skip
   all_goals
    dsimp only;rw[zJ];dsimp only[nT];rw[h1];rcases dJ with _|⟨v1,_|⟨v2,l⟩⟩<;>rfl
  show qn E p (fns E p m) (.func f first cap) mid h=_;unfold qn;split
  ·rename_i q e;injection e with aG aT bJ;subst aG;rw[aI];subst aT bJ;exact oa
  ·exact oa
 ·cases aC
end
end Go.a8
namespace Go.Proofs.YtkdjcmpgnkecfaaGreatDoor
open Go.a8
section
set_option maxRecDepth 100000
def bV(n:String)(t o b:Nat) :Field:={name:=n,type:=t,offset:=o,embedded:=false,tag:= "",pkgPath:= "",byteOffset:=b}
def e_(n:String)(t o b:Nat)(p:String) :Field:={name:=n,type:=t,offset:=o,embedded:=false,tag:= "",pkgPath:=p,byteOffset:=b}
abbrev bF:aa:=.int .i64 0
def gU(n:Nat) :List (Nat×Nat):=Nat.rec [] (λi l=>l++[(i,1)]) n
def a'{α:Type}(v:α) :bu α:=.node .nil (some v) .nil
def a6{α:Type}(l:bu α)(v:α)(r:bu α) :bu α:=.node l (some v) r
def Zb:bK:=⟨(.int .i64),1,8,[bF],true,[]⟩
def lA:bK:=⟨(.int .i64),1,8,[bF],true,[]⟩
def yK:bK:=⟨.bool,1,1,[.bool false],true,[]⟩
def m6:bK:=⟨(.int .u8),1,1,[.int .u8 0],true,[]⟩
def oz:bK:=⟨.string,1,16,[.str 0 0],true,[]⟩
def A':bK:=⟨(.array 4 3),4,32,[bF,bF,bF,bF],true,[]⟩
def Zl:bK:=⟨(.slice 132),1,24,[.bI],true,[]⟩
def Zo:bK:=⟨(.slice 149),1,24,[.bI],true,[]⟩
def H7:bK:=⟨(.slice 9),1,24,[.bI],true,[]⟩
def DX:bK:=⟨(.array 3 3),3,24,[bF,bF,bF],true,[]⟩
def Zx:bK:=⟨(.pointer 145),1,8,[.nilPtr],true,[]⟩
def Zy:bK:=⟨(.int .i64),1,8,[bF],true,[]⟩
def yJ:bK:=⟨(.pointer 244),1,8,[.nilPtr],true,[]⟩
def ZK:bK:=⟨(.slice 69),1,24,[.bI],true,[]⟩
def ZN:bK:=⟨(.slice 71),1,24,[.bI],true,[]⟩
def ZU:bK:=⟨(.func #[] #[4] false),1,8,[.nilFunc],true,[]⟩
def Ba:bK:=⟨(.pointer 156),1,8,[.nilPtr],true,[]⟩
def OO:bK:=⟨(.pointer 199),1,8,[.nilPtr],true,[]⟩
def p6:bK:=⟨(.struct #[bV "From" 3 0 0,bV "To" 3 1 8,bV "Perm" 3 2 16,bV "Kind" 3 3 24,bV "File" 3 4 32,bV "Page" 3 5 40]),6,48,[bF,bF,bF,bF,bF,bF],true,gU 6⟩
def p7:bK:=⟨(.pointer 161),1,8,[.nilPtr],true,[]⟩
def DY:bK:=⟨(.func #[3,3,3] #[4] false),1,8,[.nilFunc],true,[]⟩
def aag:bK:=⟨(.slice 63),1,24,[.bI],true,[]⟩
def aah:bK:=⟨(.struct #[bV "Pid" 3 0 0,bV "Parent" 3 1 8,bV "State" 3 2 16,bV "Code" 3 3 24]),4,32,[bF,bF,bF,bF],true,gU 4⟩
def vc:bK:=⟨(.slice 3),1,24,[.bI],true,[]⟩
def w2:bK:=⟨(.int .u64),1,8,[.int .u64 0],true,[]⟩
def aai:bK:=⟨(.struct #[bV "Op" 3 0 0,bV "Pid" 3 1 8,bV "At" 3 2 16,bV "N" 3 3 24,bV "Perm" 3 4 32,bV "Name" 9 5 40,bV "Args" 25 6 56,bV "Env" 25 7 80,bV "Bits" 67 8 104]),9,112,[bF,bF,bF,bF,bF,.str 0 0,.bI,.bI,.int .u64 0],true,gU 9⟩
def aaj:bK:=⟨(.struct #[bV "Err" 29 0 0,bV "N" 3 1 8,bV "Bits" 67 2 16]),3,24,[bF,bF,.int .u64 0],true,gU 3⟩
def q5:bK:=⟨(.slice 48),1,24,[.bI],true,[]⟩
def yL:bK:=⟨(.pointer 234),1,8,[.nilPtr],true,[]⟩
def aak:bK:=⟨(.slice 250),1,24,[.bI],true,[]⟩
def YP:bK:=⟨(.slice 22),1,24,[.bI],true,[]⟩
def YQ:bK:=⟨(.struct #[bV "Exec" 4 0 0,bV "Text" 3 1 8,bV "Slot" 3 2 16,bV "Needs" 64 3 24,bV "Defs" 64 4 48,bV "Asks" 64 5 72,bV "Relocs" 101 6 96]),7,120,[.bool false,bF,bF,.bI,.bI,.bI,.bI],true,gU 7⟩
def YR:bK:=⟨(.slice 103),1,24,[.bI],true,[]⟩
def YS:bK:=⟨(.slice 113),1,24,[.bI],true,[]⟩
def YT:bK:=⟨(.struct #[bV "Args" 25 0 0,bV "Env" 25 1 24,bV "Aux" 107 2 48,bV "Is" 4 3 72,bV "At" 3 4 80]),5,88,[.bI,.bI,.bI,.bool false,bF],true,gU 5⟩
def YU:bK:=⟨(.struct #[bV "Tag" 3 0 0,bV "Value" 3 1 8]),2,16,[bF,bF],true,[(0,1),(1,1)]⟩
def YV:bK:=⟨(.slice 117),1,24,[.bI],true,[]⟩
def YW:bK:=⟨(.struct #[bV "Op" 3 0 0,bV "Pid" 3 1 8,bV "Place" 3 2 16,bV "At" 3 3 24,bV "N" 3 4 32,bV "Name" 3 5 40,bV "Kind" 3 6 48,bV "Bits" 67 7 56,bV "Raw" 4 8 64,bV "Args" 25 9 72]),10,96,[bF,bF,bF,bF,bF,bF,bF,.int .u64 0,.bool false,.bI],true,gU 10⟩
def YX:bK:=⟨(.array 32 67),32,256,[.int .u64 0,.int .u64 0,.int .u64 0,.int .u64 0,.int .u64 0,.int .u64 0,.int .u64 0,.int .u64 0,.int .u64 0,.int .u64 0,.int .u64 0,.int .u64 0,.int .u64 0,.int .u64 0,.int .u64 0,.int .u64 0,.int .u64 0,.int .u64 0,.int .u64 0,.int .u64 0,.int .u64 0,.int .u64 0,.int .u64 0,.int .u64 0,.int .u64 0,.int .u64 0,.int .u64 0,.int .u64 0,.int .u64 0,.int .u64 0,.int .u64 0,.int .u64 0],true,[]⟩
def YY:bK:=⟨(.array 2 3),2,16,[bF,bF],true,[]⟩
def p5:bK:=⟨(.slice 47),1,24,[.bI],true,[]⟩
def YZ:bK:=⟨(.func #[3] #[4] false),1,8,[.nilFunc],true,[]⟩
def Y0:bK:=⟨(.slice 131),1,24,[.bI],true,[]⟩
def Y1:bK:=⟨(.struct #[bV "Exec" 4 0 0,bV "Text" 3 1 8,bV "Slot" 3 2 16,bV "Needs" 64 3 24,bV "Defs" 64 4 48,bV "Asks" 64 5 72,bV "Relocs" 101 6 96]),7,120,[.bool false,bF,bF,.bI,.bI,.bI,.bI],true,gU 7⟩
def Y2:bK:=⟨(.struct #[bV "Exec" 4 0 0,bV "Text" 3 1 8,bV "Slot" 3 2 16,bV "Needs" 64 3 24,bV "Defs" 64 4 48,bV "Asks" 64 5 72,bV "Relocs" 101 6 96]),7,120,[.bool false,bF,bF,.bI,.bI,.bI,.bI],true,gU 7⟩
def Y3:bK:=⟨(.slice 137),1,24,[.bI],true,[]⟩
def nK:bK:=⟨(.slice 5),1,24,[.bI],true,[]⟩
def Y4:bK:=⟨(.struct #[bV "Name" 9 0 0,bV "Data" 9 1 16]),2,32,[.str 0 0,.str 0 0],true,[(0,1),(1,1)]⟩
def Y5:bK:=⟨(.pointer 265),1,8,[.nilPtr],true,[]⟩
def Y6:bK:=⟨(.pointer 142),1,8,[.nilPtr],true,[]⟩
def Y7:bK:=⟨(.struct #[e_ "space" 48 0 0 "flyleaf/kernel",e_ "heap" 3 1 8 "flyleaf/kernel",e_ "pages" 3 2 16 "flyleaf/kernel"]),3,24,[.nilPtr,bF,bF],true,gU 3⟩
def Y8:bK:=⟨(.map 3 140),1,8,[.hG],true,[]⟩
def Y9:bK:=⟨(.struct #[e_ "files" 83 0 0 "flyleaf/kernel",e_ "memory" 42 1 8 "flyleaf/kernel",e_ "procs" 138 2 16 "flyleaf/kernel",e_ "own" 143 3 24 "flyleaf/kernel"]),4,32,[.nilPtr,.nilPtr,.nilPtr,.hG],true,gU 4⟩
def Y_:bK:=⟨(.struct #[bV "Op" 3 0 0,bV "Pid" 3 1 8,bV "Place" 3 2 16,bV "At" 3 3 24,bV "N" 3 4 32,bV "Name" 3 5 40,bV "Kind" 3 6 48,bV "Bits" 67 7 56]),8,64,[bF,bF,bF,bF,bF,bF,bF,.int .u64 0],true,gU 8⟩
def w0:bK:=⟨(.pointer 268),1,8,[.nilPtr],true,[]⟩
def DT:bK:=⟨(.pointer 295),1,8,[.nilPtr],true,[]⟩
def DU:bK:=⟨(.pointer 288),1,8,[.nilPtr],true,[]⟩
def OG:bK:=⟨(.struct #[e_ "pool" 152 0 0 "flyleaf/space",e_ "files" 83 1 8 "flyleaf/space",e_ "cache" 153 2 16 "flyleaf/space",e_ "area" 154 3 24 "flyleaf/space",e_ "spaces" 75 4 32 "flyleaf/space"]),5,56,[.nilPtr,.nilPtr,.nilPtr,.nilPtr,.bI],true,gU 5⟩
def A9:bK:=⟨(.pointer 272),1,8,[.nilPtr],true,[]⟩
def DV:bK:=⟨(.struct #[e_ "memory" 42 0 0 "flyleaf/space",e_ "table" 157 1 8 "flyleaf/space",e_ "regions" 126 2 16 "flyleaf/space"]),3,40,[.nilPtr,.nilPtr,.bI],true,gU 3⟩
def w1:bK:=⟨(.struct #[bV "Here" 4 0 0,bV "Write" 4 1 1,bV "Copy" 4 2 2,bV "Out" 4 3 3,bV "N" 3 4 8]),5,16,[.bool false,.bool false,.bool false,.bool false,bF],true,gU 5⟩
def sc:bK:=⟨(.slice 178),1,24,[.bI],true,[]⟩
def tC:bK:=⟨(.struct #[bV "Page" 3 0 0,bV "Slot" 169 1 8]),6,24,[bF,.bool false,.bool false,.bool false,.bool false,bF],true,[(0,1),(1,5)]⟩
def DW:bK:=⟨(.slice 182),1,24,[.bI],true,[]⟩
def sf:bK:=⟨(.struct #[bV "File" 3 0 0,bV "Page" 3 1 8]),2,16,[bF,bF],true,[(0,1),(1,1)]⟩
def Y':bK:=⟨(.map 3 4),1,8,[.hG],true,[]⟩
def yI:bK:=⟨(.slice 204),1,24,[.bI],true,[]⟩
def Za:bK:=⟨(.struct #[bV "S" 25 0 0,bV "Used" 3 1 24,bV "Nodes" 197 2 32]),3,56,[.bI,bF,.bI],true,gU 3⟩
def sg:bK:=⟨(.slice 206),1,24,[.bI],true,[]⟩
def A_:bK:=⟨(.struct #[bV "Name" 9 0 0,bV "Size" 3 1 16,bV "Extents" 202 2 24]),3,48,[.str 0 0,bF,.bI],true,gU 3⟩
def vb:bK:=⟨(.struct #[bV "At" 3 0 0,bV "N" 3 1 8]),2,16,[bF,bF],true,[(0,1),(1,1)]⟩
def Zc:bK:=⟨(.pointer 312),1,8,[.nilPtr],true,[]⟩
def Zd:bK:=⟨(.pointer 213),1,8,[.nilPtr],true,[]⟩
def Ze:bK:=⟨(.slice 406),1,24,[.bI],true,[]⟩
def Zf:bK:=⟨(.struct #[bV "F" 43 0 0,bV "L" 126 1 8,bV "P" 211 2 32]),3,56,[.nilPtr,.bI,.bI],true,gU 3⟩
def Zg:bK:=⟨(.struct #[bV "Pid" 3 0 0,bV "S" 210 1 8,bV "Heap" 3 2 16,bV "Pages" 3 3 24]),4,32,[bF,.nilPtr,bF,bF],true,gU 4⟩
def Zh:bK:=⟨(.slice 215),1,24,[.bI],true,[]⟩
def Zi:bK:=⟨(.struct #[bV "F" 43 0 0,bV "T" 208 1 8,bV "M" 216 2 16]),3,40,[.nilPtr,.nilPtr,.bI],true,gU 3⟩
def Zj:bK:=⟨(.func #[140,69] #[71] false),1,8,[.nilFunc],true,[]⟩
def Zk:bK:=⟨(.struct #[bV "Pid" 3 0 0,bV "Code" 3 1 8,bV "E" 29 2 16]),3,24,[bF,bF,bF],true,gU 3⟩
def Zm:bK:=⟨(.map 9 3),1,8,[.hG],true,[]⟩
def Zn:bK:=⟨(.struct #[e_ "disk" 32 0 0 "flyleaf/files",e_ "used" 3 1 8 "flyleaf/files",e_ "nodes" 197 2 16 "flyleaf/files",e_ "names" 232 3 40 "flyleaf/files"]),4,48,[.nilPtr,bF,.bI,.hG],true,gU 4⟩
def Zp:bK:=⟨(.struct #[e_ "bytes" 135 0 0 "flyleaf/block",e_ "sealed" 3 1 24 "flyleaf/block",e_ "reads" 3 2 32 "flyleaf/block",e_ "writes" 3 3 40 "flyleaf/block"]),4,48,[.bI,bF,bF,bF],true,gU 4⟩
def Zq:bK:=⟨(.struct #[bV "S" 48 0 0,bV "R" 210 1 8]),2,16,[.nilPtr,.nilPtr],true,[(0,1),(1,1)]⟩
def Zr:bK:=⟨(.slice 247),1,24,[.bI],true,[]⟩
def Zs:bK:=⟨(.struct #[bV "Kind" 3 0 0,bV "Space" 3 1 8,bV "At" 3 2 16,bV "From" 3 3 24,bV "To" 3 4 32,bV "Perm" 3 5 40,bV "Byte" 5 6 48]),7,56,[bF,bF,bF,bF,bF,bF,.int .u8 0],true,gU 7⟩
def OH:bK:=⟨(.array 10 3),10,80,[bF,bF,bF,bF,bF,bF,bF,bF,bF,bF],true,[]⟩
def Zt:bK:=⟨(.array 8 3),8,64,[bF,bF,bF,bF,bF,bF,bF,bF],true,[]⟩
def Zu:bK:=⟨(.map 3 63),1,8,[.hG],true,[]⟩
def Zv:bK:=⟨(.struct #[e_ "procs" 263 0 0 "flyleaf/proc"]),1,8,[.hG],true,[(0,1)]⟩
def OI:bK:=⟨(.struct #[e_ "bytes" 135 0 0 "flyleaf/frames",e_ "held" 64 1 24 "flyleaf/frames",e_ "free" 3 2 48 "flyleaf/frames"]),3,56,[.bI,.bI,bF],true,gU 3⟩
def Zw:bK:=⟨(.array 3 41),3,24,[.nilFunc,.nilFunc,.nilFunc],true,[]⟩
def OJ:bK:=⟨(.struct #[e_ "pool" 152 0 0 "flyleaf/radix",e_ "root" 3 1 8 "flyleaf/radix",e_ "nodes" 3 2 16 "flyleaf/radix"]),3,24,[.nilPtr,bF,bF],true,gU 3⟩
def OK:bK:=⟨(.func #[135] #[] false),1,8,[.nilFunc],true,[]⟩
def OL:bK:=⟨(.struct #[e_ "disk" 32 0 0 "flyleaf/swap",e_ "first" 3 1 8 "flyleaf/swap",e_ "held" 64 2 16 "flyleaf/swap",e_ "used" 3 3 40 "flyleaf/swap"]),4,48,[.nilPtr,bF,.bI,bF],true,gU 4⟩
def sj:bK:=⟨(.map 182 296),1,8,[.hG],true,[]⟩
def q3:bK:=⟨(.slice 296),1,24,[.bI],true,[]⟩
def OM:bK:=⟨(.struct #[e_ "pool" 152 0 0 "flyleaf/cache",e_ "files" 83 1 8 "flyleaf/cache",e_ "pages" 292 2 16 "flyleaf/cache",e_ "ring" 293 3 24 "flyleaf/cache",e_ "hand" 3 4 48 "flyleaf/cache",e_ "hits" 3 5 56 "flyleaf/cache",e_ "fills" 3 6 64 "flyleaf/cache"]),7,72,[.nilPtr,.nilPtr,.hG,.bI,bF,bF,bF],true,gU 7⟩
def q4:bK:=⟨(.pointer 298),1,8,[.nilPtr],true,[]⟩
def ON:bK:=⟨(.struct #[e_ "key" 182 0 0 "flyleaf/cache",e_ "frame" 3 2 16 "flyleaf/cache",e_ "fresh" 4 3 24 "flyleaf/cache"]),4,32,[bF,bF,bF,.bool false],true,[(0,2),(2,1),(3,1)]⟩
def Zz:bK:=⟨(.struct #[bV "L" 60 0 0]),1,24,[.bI],true,[(0,1)]⟩
def ZA:bK:=⟨(.slice 334),1,24,[.bI],true,[]⟩
def ZB:bK:=⟨(.slice 323),1,24,[.bI],true,[]⟩
def ZC:bK:=⟨(.struct #[bV "Entry" 3 0 0,bV "Modules" 313 1 8,bV "Regions" 126 2 32,bV "Zeros" 202 3 56,bV "Puts" 314 4 80]),5,104,[bF,.bI,.bI,.bI,.bI],true,gU 5⟩
def ZD:bK:=⟨(.struct #[bV "Sp" 3 0 0,bV "S" 9 1 8,bV "E" 29 2 24]),3,32,[bF,.str 0 0,bF],true,gU 3⟩
def ZE:bK:=⟨(.struct #[bV "At" 3 0 0,bV "Value" 67 1 8]),2,16,[bF,.int .u64 0],true,[(0,1),(1,1)]⟩
def ZF:bK:=⟨(.slice 352),1,24,[.bI],true,[]⟩
def ZG:bK:=⟨(.struct #[bV "Kind" 3 0 0,bV "Entry" 3 1 8,bV "Segments" 324 2 16]),3,40,[bF,bF,.bI],true,gU 3⟩
def ZH:bK:=⟨(.struct #[bV "Needed" 64 0 0,bV "Names" 3 1 24,bV "NamesSize" 3 2 32,bV "Symbols" 3 3 40,bV "Hash" 3 4 48,bV "Relocs" 3 5 56,bV "RelocsSize" 3 6 64,bV "Own" 3 7 72,bV "Slot" 3 8 80]),9,88,[.bI,bF,bF,bF,bF,bF,bF,bF,bF],true,gU 9⟩
def ZI:bK:=⟨(.struct #[bV "File" 3 0 0,bV "Name" 9 1 8,bV "X" 326 2 24,bV "View" 9 5 64,bV "D" 328 6 80,bV "Base" 3 15 168]),16,176,[bF,.str 0 0,bF,bF,.bI,.str 0 0,.bI,bF,bF,bF,bF,bF,bF,bF,bF,bF],true,[(0,1),(1,1),(2,3),(5,1),(6,9),(15,1)]⟩
def ZJ:bK:=⟨(.struct #[bV "File" 3 0 0,bV "Base" 3 1 8,bV "Name" 9 2 16]),3,32,[bF,bF,.str 0 0],true,gU 3⟩
def ZL:bK:=⟨(.array 11 3),11,88,[bF,bF,bF,bF,bF,bF,bF,bF,bF,bF,bF],true,[]⟩
def ZM:bK:=⟨(.struct #[bV "Type" 3 0 0,bV "Flags" 3 1 8,bV "Off" 3 2 16,bV "Addr" 3 3 24,bV "Size" 3 4 32,bV "Mem" 3 5 40,bV "Align" 3 6 48]),7,56,[bF,bF,bF,bF,bF,bF,bF],true,gU 7⟩
def H8:bK:=⟨(.func #[178] #[4] false),1,8,[.nilFunc],true,[]⟩
def ZO:bK:=⟨(.slice 330),1,24,[.bI],true,[]⟩
def ZP:bK:=⟨(.slice 382),1,24,[.bI],true,[]⟩
def ZQ:bK:=⟨(.struct #[bV "Size" 3 0 0,bV "Slot" 3 1 8]),2,16,[bF,bF],true,[(0,1),(1,1)]⟩
def ZR:bK:=⟨(.slice 395),1,24,[.bI],true,[]⟩
def ZS:bK:=⟨(.struct #[bV "R" 47 0 0,bV "Is" 4 6 48]),7,56,[bF,bF,bF,bF,bF,bF,.bool false],true,[(0,6),(6,1)]⟩
def ZT:bK:=⟨(.struct #[bV "Page" 3 0 0,bV "S" 9 1 8]),2,24,[bF,.str 0 0],true,[(0,1),(1,1)]⟩
def ZV:bK:=⟨(.int .u64),1,8,[.int .u64 0],true,[]⟩
def ZW:bK:=⟨(.struct #[bV "Name" 3 0 0,bV "Defined" 4 1 8,bV "Value" 3 2 16]),3,24,[bF,.bool false,bF],true,gU 3⟩
def ZX:bK:=⟨(.struct #[bV "At" 3 0 0,bV "Kind" 3 1 8,bV "Symbol" 3 2 16,bV "Add" 2 3 24]),4,32,[bF,bF,bF,bF],true,gU 4⟩
def ZY:bK:=⟨(.slice 430),1,24,[.bI],true,[]⟩
def ZZ:bK:=⟨(.pointer 434),1,8,[.nilPtr],true,[]⟩
def Z0:bK:=⟨(.struct #[{name:= "Module",type:=334,offset:=0,embedded:=true,tag:= "",pkgPath:= "",byteOffset:=0},e_ "image" 326 3 32 "flyleaf/load",e_ "view" 9 6 72 "flyleaf/load",e_ "table" 328 7 88 "flyleaf/load"]),16,176,[bF,bF,.str 0 0,bF,bF,.bI,.str 0 0,.bI,bF,bF,bF,bF,bF,bF,bF,bF],true,[(0,3),(3,3),(6,1),(7,9)]⟩
def Z1:bK:=⟨(.pointer 440),1,8,[.nilPtr],true,[]⟩
def Z2:bK:=⟨(.struct #[e_ "addr" 438 0 0 "strings",e_ "buf" 135 1 8 "strings"]),2,32,[.nilPtr,.bI],true,[(0,1),(1,1)]⟩
def Z3:bK:=⟨(.array 2 25),2,48,[.bI,.bI],true,[]⟩
def Z4:bK:=⟨(.slice 454),1,24,[.bI],true,[]⟩
def Z5:bK:=⟨(.struct #[bV "Name" 9 0 0,bV "Needed" 25 1 16]),2,40,[.str 0 0,.bI],true,[(0,1),(1,1)]⟩
def Z6:bK:=⟨(.slice 417),1,24,[.bI],true,[]⟩
def Z7:bK:=⟨(.array 10 67),10,80,[.int .u64 0,.int .u64 0,.int .u64 0,.int .u64 0,.int .u64 0,.int .u64 0,.int .u64 0,.int .u64 0,.int .u64 0,.int .u64 0],true,[]⟩
def Z8:bK:=⟨(.array 10 4),10,10,[.bool false,.bool false,.bool false,.bool false,.bool false,.bool false,.bool false,.bool false,.bool false,.bool false],true,[]⟩
def Z9:bK:=⟨(.int .u32),1,4,[.int .u32 0],true,[]⟩
def Z_:bK:=⟨(.map 9 430),1,8,[.hG],true,[]⟩
def Z':bK:=⟨(.map 67 4),1,8,[.hG],true,[]⟩
def aaa:bK:=⟨(.pointer 3),1,8,[.nilPtr],true,[]⟩
def aab:bK:=⟨(.struct #[bV "Names" 25 0 0,bV "Depths" 64 1 24,bV "Missing" 25 2 48]),3,72,[.bI,.bI,.bI],true,gU 3⟩
def aac:bK:=⟨(.map 9 25),1,8,[.hG],true,[]⟩
def aad:bK:=⟨(.array 6 3),6,48,[bF,bF,bF,bF,bF,bF],true,[]⟩
def aae:bK:=⟨(.map 9 4),1,8,[.hG],true,[]⟩
def aaf:bK:=⟨(.array 5 3),5,40,[bF,bF,bF,bF,bF],true,[]⟩
def OP:bu bK:=(.node (.node (a6 (.node (.node (.node (a6 (.node (a' OH) none .nil) aah .nil) none .nil) none (a6 (.node (a' Y8) none .nil) p6 (.node (a' sc) none .nil))) none (a6 (.node (a6 (a6 (a' Zu) nK .nil) aaj (a' Za)) none (a6 (.node (a' OM) none .nil) YQ .nil)) Zl (.node (.node (.node (.node (a' aae) none .nil) none .nil) none (a' Zg)) none (.node .nil none (a' Zq))))) lA (.node (.node (.node (a6 (a6 (.node (a' aac) none .nil) Y1 .nil) w2 (.node (a' ZE) none (a' Z4))) none .nil) none (.node (a6 .nil yL (a6 .nil Ze (a' Z7))) none (a6 (a' DW) YV .nil))) none (a6 (a6 (a6 (.node .nil none (a' ZS)) q5 .nil) OO (a' YS)) DX (a6 (.node (.node (.node (a' aaf) none .nil) none .nil) none (.node .nil none (a' Z9))) DY .nil)))) none (a6 (a6 (.node (.node .nil none (.node (a6 .nil DV (a' ZX)) none .nil)) none (.node (.node (a6 (.node (a' aad) none .nil) Y9 .nil) none .nil) none (a' YU))) oz (a6 (a6 (.node (a6 (a' Zv) Y4 .nil) none .nil) ZU (.node (a' w1) none .nil)) H7 (.node (.node (a' DT) none .nil) none (a6 (a6 (a' ZA) Y' .nil) YX (.node (a' ZO) none .nil))))) m6 (.node (.node (.node (a6 (a' Y3) aai (a' yI)) none (a6 (.node (a' q3) none .nil) YP (a' Zk))) none (.node (.node (a' Y_) none (a' Zf)) none (a6 .nil YW (.node .nil none (a' aab))))) none (a6 (.node (.node (.node (a' Zw) none .nil) none .nil) none (a6 .nil YT (.node .nil none (a' Z')))) Zy (.node (.node (a' A9) none .nil) none (.node (.node .nil none (a' Z3)) none .nil)))))) none (a6 (a6 (.node (.node (a6 (a6 (a' YZ) vc (.node (a' ZD) none .nil)) yJ (.node (.node (a' OL) none .nil) none (.node (a' ZM) none .nil))) none (a6 (.node (.node (a' OJ) none .nil) none (a' Zc)) p7 .nil)) none (a6 (.node (.node (.node .nil none (a' ZR)) none (.node (a' ZH) none .nil)) none (a6 (.node (a' q4) none .nil) YR (a6 .nil Zm (a' Z_)))) Zo (.node (.node (a' w0) none (a6 (a' ZL) Zh .nil)) none (.node (.node (a' Zz) none (a' Z2)) none (a' Zr))))) yK (.node (.node (a6 (.node (a' Y2) none (.node (a' ZF) none .nil)) ZN (.node (.node (a' sj) none .nil) none .nil)) none (.node (.node .nil none (.node .nil none (a' Z8))) none (.node .nil none (a' Zp)))) none (a6 (.node (.node (a6 (a' OI) Y6 .nil) none (a' A_)) none .nil) Zx (a6 (.node (a' OG) none (a' Zj)) aag (a6 (.node (a' ZC) none .nil) YY (.node (a' ZP) none .nil)))))) Zb (.node (.node (.node (a6 (.node (a6 (a' Zt) Y0 .nil) none .nil) ZK .nil) none (.node (.node .nil none (a' Zd)) none (.node (a6 .nil tC (a' Z0)) none .nil))) none (.node (a6 (.node (a' Y5) none (a6 (a' ZI) sg (a' Z6))) Ba (.node (.node (a' ON) none (a' ZY)) none (a' Zn))) none (.node (a6 (a6 .nil DU (a' ZV)) aak (a' Zi)) none (.node (.node (a' ZB) none .nil) none (a' Zs))))) none (.node (a6 (.node (.node .nil none (.node (a' ZG) none (a' Z5))) none .nil) A' (.node (.node (.node .nil none (a' ZT)) none .nil) none (.node (a6 .nil sf (a' Z1)) none .nil))) none (.node (.node (.node (a' Y7) none (a6 (a' ZJ) vb .nil)) none (.node (.node .nil none (a' ZZ)) none (.node (a' H8) none (a' aaa)))) none (.node (.node (.node (a' OK) none (a' ZW)) none .nil) none (a6 .nil p5 (.node (a' ZQ) none .nil))))))))
open _root_.Go.Proofs.Tryz in
noncomputable def Kg:bu Func:=(.node (.node (a6 (a6 (a6 (a6 (a6 (a6 (a' f255) f127 .nil) f63 (a6 (a' f319) f191 (a' f447))) f31 (a6 (a6 (a' f287) f159 (a' f415)) f95 (a6 (a' f351) f223 .nil))) f15 (a6 (a6 (a6 (a' f271) f143 (a' f399)) f79 (a6 (a' f335) f207 (a' f463))) f47 (a6 (a6 (a' f303) f175 .nil) f111 (a6 (a' f367) f239 .nil)))) f7 (a6 (a6 (a6 (a6 (a' f263) f135 (a' f391)) f71 (a6 (a' f327) f199 (a' f455))) f39 (a6 (a6 (a' f295) f167 .nil) f103 (a6 (a' f359) f231 .nil))) f23 (a6 (a6 (a6 (a' f279) f151 (a' f407)) f87 (a6 (a' f343) f215 (a' f471))) f55 (a6 (a6 (a' f311) f183 (a' f439)) f119 (a6 (a' f375) f247 .nil))))) f3 (a6 (a6 (a6 (a6 (a' f131) f67 (a6 .nil f195 (a' f451))) f35 (a6 (a6 (a' f291) f163 (a' f419)) f99 (a6 (a' f355) f227 .nil))) f19 (a6 (a6 (a6 (a' f275) f147 (a' f403)) f83 (a6 (a' f339) f211 (a' f467))) f51 (a6 (a6 (a' f307) f179 .nil) f115 (a6 (a' f371) f243 .nil)))) f11 (a6 (a6 (a6 (a6 (a' f267) f139 (a' f395)) f75 (a6 (a' f331) f203 (a' f459))) f43 (a6 (a6 (a' f299) f171 (a' f427)) f107 (a6 (a' f363) f235 .nil))) f27 (a6 (a6 (a6 (a' f283) f155 (a' f411)) f91 (a6 (a' f347) f219 .nil)) f59 (a6 (a6 (a' f315) f187 (a' f443)) f123 (a6 (a' f379) f251 .nil)))))) none (a6 (a6 (a6 (a6 (a6 (a6 (a' f257) f129 .nil) f65 (a6 (a' f321) f193 (a' f449))) f33 (a6 (a6 (a' f289) f161 (a' f417)) f97 (a6 (a' f353) f225 .nil))) f17 (a6 (a6 (a6 (a' f273) f145 (a' f401)) f81 (a6 (a' f337) f209 (a' f465))) f49 (a6 (a6 (a' f305) f177 .nil) f113 (a' f241)))) f9 (a6 (a6 (a6 (a6 (a' f265) f137 (a' f393)) f73 (a6 (a' f329) f201 (a' f457))) f41 (a6 (a6 (a' f297) f169 (a' f425)) f105 (a6 (a' f361) f233 .nil))) f25 (a6 (a6 (a6 (a' f281) f153 (a' f409)) f89 (a6 (a' f345) f217 .nil)) f57 (a6 (a6 (a' f313) f185 (a' f441)) f121 (a6 (a' f377) f249 .nil))))) f5 (a6 (a6 (a6 (a6 (a' f133) f69 (a6 (a' f325) f197 (a' f453))) f37 (a6 (a6 (a' f293) f165 .nil) f101 (a6 (a' f357) f229 .nil))) f21 (a6 (a6 (a6 (a' f277) f149 (a' f405)) f85 (a6 (a' f341) f213 (a' f469))) f53 (a6 (a6 (a' f309) f181 (a' f437)) f117 (a6 (a' f373) f245 .nil)))) f13 (a6 (a6 (a6 (a6 (a' f269) f141 (a' f397)) f77 (a6 (a' f333) f205 .nil)) f45 (a6 (a6 (a' f301) f173 (a' f429)) f109 (a6 (a' f365) f237 .nil))) f29 (a6 (a6 (a6 (a' f285) f157 (a' f413)) f93 (a6 (a' f349) f221 .nil)) f61 (a6 (a6 (a' f317) f189 (a' f445)) f125 (a' f253))))))) none (.node (a6 (a6 (a6 (a6 (a6 (a6 (a' f256) f128 .nil) f64 (a6 (a' f320) f192 (a' f448))) f32 (a6 (a6 (a' f288) f160 (a' f416)) f96 (a6 (a' f352) f224 .nil))) f16 (a6 (a6 (a6 (a' f272) f144 (a' f400)) f80 (a6 (a' f336) f208 .nil)) f48 (a6 (a6 (a' f304) f176 .nil) f112 (a' f240)))) f8 (a6 (a6 (a6 (a6 (a' f264) f136 (a' f392)) f72 (a6 (a' f328) f200 (a' f456))) f40 (a6 (a6 (a' f296) f168 (a' f424)) f104 (a6 (a' f360) f232 .nil))) f24 (a6 (a6 (a6 (a' f280) f152 (a' f408)) f88 (a6 (a' f344) f216 (a' f472))) f56 (a6 (a6 (a' f312) f184 (a' f440)) f120 (a6 (a' f376) f248 .nil))))) f4 (a6 (a6 (a6 (a6 (a' f132) f68 (a6 .nil f196 (a' f452))) f36 (a6 (a6 (a' f292) f164 (a' f420)) f100 (a6 (a' f356) f228 .nil))) f20 (a6 (a6 (a6 (a' f276) f148 (a' f404)) f84 (a6 (a' f340) f212 (a' f468))) f52 (a6 (a6 (a' f308) f180 (a' f436)) f116 (a6 (a' f372) f244 .nil)))) f12 (a6 (a6 (a6 (a6 (a' f268) f140 (a' f396)) f76 (a6 (a' f332) f204 (a' f460))) f44 (a6 (a6 (a' f300) f172 (a' f428)) f108 (a6 (a' f364) f236 .nil))) f28 (a6 (a6 (a6 (a' f284) f156 (a' f412)) f92 (a6 (a' f348) f220 .nil)) f60 (a6 (a6 (a' f316) f188 (a' f444)) f124 (a' f252)))))) none (a6 (a6 (a6 (a6 (a6 (a6 (a' f258) f130 .nil) f66 (a' f194)) f34 (a6 (a6 (a' f290) f162 (a' f418)) f98 (a6 (a' f354) f226 .nil))) f18 (a6 (a6 (a6 (a' f274) f146 (a' f402)) f82 (a6 (a' f338) f210 (a' f466))) f50 (a6 (a6 (a' f306) f178 .nil) f114 (a6 (a' f370) f242 .nil)))) f10 (a6 (a6 (a6 (a6 (a' f266) f138 (a' f394)) f74 (a6 (a' f330) f202 (a' f458))) f42 (a6 (a6 (a' f298) f170 .nil) f106 (a6 (a' f362) f234 .nil))) f26 (a6 (a6 (a6 (a' f282) f154 (a' f410)) f90 (a6 (a' f346) f218 .nil)) f58 (a6 (a6 (a' f314) f186 (a' f442)) f122 (a6 (a' f378) f250 .nil))))) f6 (a6 (a6 (a6 (a6 (a6 (a' f262) f134 .nil) f70 (a6 (a' f326) f198 (a' f454))) f38 (a6 (a6 (a' f294) f166 .nil) f102 (a6 (a' f358) f230 .nil))) f22 (a6 (a6 (a6 (a' f278) f150 (a' f406)) f86 (a6 (a' f342) f214 (a' f470))) f54 (a6 (a6 (a' f310) f182 (a' f438)) f118 (a6 (a' f374) f246 .nil)))) f14 (a6 (a6 (a6 (a6 (a' f270) f142 (a' f398)) f78 (a6 (a' f334) f206 .nil)) f46 (a6 (a6 (a' f302) f174 .nil) f110 (a6 (a' f366) f238 .nil))) f30 (a6 (a6 (a6 (a' f286) f158 (a' f414)) f94 (a6 (a' f350) f222 .nil)) f62 (a6 (a6 (a' f318) f190 (a' f446)) f126 (a' f254))))))))
noncomputable def env (fs:List Fact) :Env:={fn:=bu.get Kg,ty:=bu.get OP,facts:=fs,rZ:=1}
noncomputable def J:Env:=env []
def u0(l n:Nat) :Nat->Nat:=Nat.rec 0 (λ_ acc=>n+acc<<< (8*l))
def Ht:List aa->ae->Option (aa×ae)
 |[.str l n,.int .i64 (.ofNat k)],h=>bif Nat.ble (l*k) 140737488355328&&Nat.ble k 9223372036854775807 then some (.str (l*k) (u0 l n k),h)else none
 |_,_=>none
def zx(n:Nat)(c:Nat) :Nat->Nat->Int
 |0,_=> -1
 |k+1,i=>bif Nat.beq (dN n i) c then .ofNat i else zx n c k (i+1)
def LO:List aa->ae->Option (aa×ae)
 |[.str l n,.int .u8 (.ofNat c)],h=>bif Nat.blt c 256 then some (.int .i64 (zx n c l 0),h)else none
 |_,_=>none
def z'(n:Int) :List Int->List Int
 |[]=>[n]
 |m::l=>bif pM n m then n::m::l else m::z' n l
def C1:List (aa×aa×Nat)->Option (List Int)
 |[]=>some []
 |(k,_,_)::es=>match k,C1 es with
  | .int .i64 n,some l=>bif pM (-9223372036854775808) n&&pM n 9223372036854775807 then some (n::l)else none
  |_,_=>none
def DA:List (aa×aa×Nat)->Nat->Nat->Bool
 |[],_,_=>true
 |(_,_,b)::es,lo,clock=>Nat.ble lo b&&Nat.blt b clock&&DA es (b+1) clock
def r9:List Int->List Int
 |[]=>[]
 |n::l=>z' n (r9 l)
def Dm:List Int->Bool
 |[]=>true
 |[_]=>true
 |a::b::l=>mm a b&&Dm (b::l)
def L_:List aa->ae->Option (aa×ae)
 |[.map id],h=>some (.func 261 [] [.ptr h.next 0],h.new (.ro 1 (.node .nil (some (.map id)) .nil)))
 |_,_=>none
def ah'(l:List Int)(h:ae) :aa×ae:=match l with
 |[]=>(.bI,h)
 |k::l=>(.slice h.next 0 (l.length+1) (l.length+1) 1 false,h.new (.cells (l.length+1) false [] (bu.ofList ((k::l).map (aa.int .i64)))))
def NZ:List aa->ae->Option (aa×ae)
 |[.func f [] [.ptr a 0]],h=>bif Nat.beq f 261 then match h.get a with
  | .ro 1 (.node _ (some (.map id)) _)=>match h.get id with
   | .map es clock=>match C1 es with
    |some jL=>bif Dm (r9 jL) &&DA es 0 clock&&Nat.ble es.length 16777216 then some (ah' (r9 jL) h)else none
    |none=>none
   |_=>none
  |_=>none
  else none
 |_,_=>none
def Nq:List (FuncId×(List aa->ae->Option (aa×ae))):=[(296,Ht),(425,LO),(172,NZ),(173,L_)]
def qh:cn:=wG Nq
def okF(f:Nat) :Bool:= !(Nat.beq f 28||Nat.beq f 56||Nat.beq f 61)
class cN (P:outParam cn) :Prop where
 same:∀f,okF f=true->P f=qh f
section
variable{PV:cn} [cN PV]
theorem b'{f:Nat}(h:okF f=true)(h0:qh f=none) :PV f=none:=(cN.same f h).trans h0
end
end
section
set_option maxRecDepth 100000
def C7{α:Type} :List (Nat×α)->bu α
 |[]=>.nil
 |(k,v)::l=>(C7 l).set k v
theorem Kr{α:Type}(f:List (Nat×α)->Nat->Option α)(h0:∀u,f [] u=none)(h1:∀t i r u,f ((t,i)::r) u=bif Nat.beq u t then some i else f r u) :∀(l:List (Nat×α)) (t:Nat),bu.get (C7 l) t=f l t
 |[],t=>(h0 t).symm
 |(k,v)::l,t=>by
  rw[h1,C7,bu.lL,Kr f h0 h1 l t];by_cases e:t=k
  ·rw[if_pos e,beq_true.2 e];rfl
  ·rw[if_neg e,beq_false.2 e];rfl
def OQ:List (TypeId×bK):=[(2,Zb),(3,lA),(4,yK),(5,m6),(9,oz),(22,A'),(23,Zl),(24,Zo),(25,H7),(27,DX),(28,Zx),(29,Zy),(32,yJ),(34,ZK),(36,ZN),(41,ZU),(42,Ba),(43,OO),(47,p6),(48,p7),(59,DY),(60,aag),(63,aah),(64,vc),(67,w2),(69,aai),(71,aaj),(75,q5),(83,yL),(90,aak),(101,YP),(103,YQ),(104,YR),(107,YS),(109,YT),(113,YU),(115,YV),(117,YW),(121,YX),(124,YY),(126,p5),(128,YZ),(130,Y0),(131,Y1),(132,Y2),(133,Y3),(135,nK),(137,Y4),(138,Y5),(140,Y6),(142,Y7),(143,Y8),(145,Y9),(149,Y_),(152,w0),(153,DT),(154,DU),(156,OG),(157,A9),(161,DV),(169,w1),(175,sc),(178,tC),(179,DW),(182,sf),(185,Y'),(197,yI),(199,Za),(202,sg),(204,A_),(206,vb),(208,Zc),(210,Zd),(211,Ze),(213,Zf),(215,Zg),(216,Zh),(218,Zi),(220,Zj),(229,Zk),(232,Zm),(234,Zn),(244,Zp),(247,Zq),(248,Zr),(250,Zs),(255,OH),(258,Zt),(263,Zu),(265,Zv),(268,OI),(269,Zw),(272,OJ),(286,OK),(288,OL),(292,sj),(293,q3),(295,OM),(296,q4),(298,ON),(312,Zz),(313,ZA),(314,ZB),(316,ZC),(320,ZD),(323,ZE),(324,ZF),(326,ZG),(328,ZH),(330,ZI),(334,ZJ),(344,ZL),(352,ZM),(366,H8),(377,ZO),(380,ZP),(382,ZQ),(392,ZR),(395,ZS),(406,ZT),(410,ZV),(414,ZW),(417,ZX),(426,ZY),(430,ZZ),(434,Z0),(438,Z1),(440,Z2),(445,Z3),(451,Z4),(454,Z5),(458,Z6),(467,Z7),(468,Z8),(475,Z9),(488,Z_),(493,Z'),(494,aaa),(501,aab),(515,aac),(529,aad),(535,aae),(539,aaf)]
open _root_.Go.Proofs.Tryz in
noncomputable def Kh:List (FuncId×Func):=[(3,f3),(4,f4),(5,f5),(6,f6),(7,f7),(8,f8),(9,f9),(10,f10),(11,f11),(12,f12),(13,f13),(14,f14),(15,f15),(16,f16),(17,f17),(18,f18),(19,f19),(20,f20),(21,f21),(22,f22),(23,f23),(24,f24),(25,f25),(26,f26),(27,f27),(28,f28),(29,f29),(30,f30),(31,f31),(32,f32),(33,f33),(34,f34),(35,f35),(36,f36),(37,f37),(38,f38),(39,f39),(40,f40),(41,f41),(42,f42),(43,f43),(44,f44),(45,f45),(46,f46),(47,f47),(48,f48),(49,f49),(50,f50),(51,f51),(52,f52),(53,f53),(54,f54),(55,f55),(56,f56),(57,f57),(58,f58),(59,f59),(60,f60),(61,f61),(62,f62),(63,f63),(64,f64),(65,f65),(66,f66),(67,f67),(68,f68),(69,f69),(70,f70),(71,f71),(72,f72),(73,f73),(74,f74),(75,f75),(76,f76),(77,f77),(78,f78),(79,f79),(80,f80),(81,f81),(82,f82),(83,f83),(84,f84),(85,f85),(86,f86),(87,f87),(88,f88),(89,f89),(90,f90),(91,f91),(92,f92),(93,f93),(94,f94),(95,f95),(96,f96),(97,f97),(98,f98),(99,f99),(100,f100),(101,f101),(102,f102),(103,f103),(104,f104),(105,f105),(106,f106),(107,f107),(108,f108),(109,f109),(110,f110),(111,f111),(112,f112),(113,f113),(114,f114),(115,f115),(116,f116),(117,f117),(118,f118),(119,f119),(120,f120),(121,f121),(122,f122),(123,f123),(124,f124),(125,f125),(126,f126),(127,f127),(128,f128),(129,f129),(130,f130),(131,f131),(132,f132),(133,f133),(134,f134),(135,f135),(136,f136),(137,f137),(138,f138),(139,f139),(140,f140),(141,f141),(142,f142),(143,f143),(144,f144),(145,f145),(146,f146),(147,f147),(148,f148),(149,f149),(150,f150),(151,f151),(152,f152),(153,f153),(154,f154),(155,f155),(156,f156),(157,f157),(158,f158),(159,f159),(160,f160),(161,f161),(162,f162),(163,f163),(164,f164),(165,f165),(166,f166),(167,f167),(168,f168),(169,f169),(170,f170),(171,f171),(172,f172),(173,f173),(174,f174),(175,f175),(176,f176),(177,f177),(178,f178),(179,f179),(180,f180),(181,f181),(182,f182),(183,f183),(184,f184),(185,f185),(186,f186),(187,f187),(188,f188),(189,f189),(190,f190),(191,f191),(192,f192),(193,f193),(194,f194),(195,f195),(196,f196),(197,f197),(198,f198),(199,f199),(200,f200),(201,f201),(202,f202),(203,f203),(204,f204),(205,f205),(206,f206),(207,f207),(208,f208),(209,f209),(210,f210),(211,f211),(212,f212),(213,f213),(214,f214),(215,f215),(216,f216),(217,f217),(218,f218),(219,f219),(220,f220),(221,f221),(222,f222),(223,f223),(224,f224),(225,f225),(226,f226),(227,f227),(228,f228),(229,f229),(230,f230),(231,f231),(232,f232),(233,f233),(234,f234),(235,f235),(236,f236),(237,f237),(238,f238),(239,f239),(240,f240),(241,f241),(242,f242),(243,f243),(244,f244),(245,f245),(246,f246),(247,f247),(248,f248),(249,f249),(250,f250),(251,f251),(252,f252),(253,f253),(254,f254),(255,f255),(256,f256),(257,f257),(258,f258),(262,f262),(263,f263),(264,f264),(265,f265),(266,f266),(267,f267),(268,f268),(269,f269),(270,f270),(271,f271),(272,f272),(273,f273),(274,f274),(275,f275),(276,f276),(277,f277),(278,f278),(279,f279),(280,f280),(281,f281),(282,f282),(283,f283),(284,f284),(285,f285),(286,f286),(287,f287),(288,f288),(289,f289),(290,f290),(291,f291),(292,f292),(293,f293),(294,f294),(295,f295),(296,f296),(297,f297),(298,f298),(299,f299),(300,f300),(301,f301),(302,f302),(303,f303),(304,f304),(305,f305),(306,f306),(307,f307),(308,f308),(309,f309),(310,f310),(311,f311),(312,f312),(313,f313),(314,f314),(315,f315),(316,f316),(317,f317),(318,f318),(319,f319),(320,f320),(321,f321),(325,f325),(326,f326),(327,f327),(328,f328),(329,f329),(330,f330),(331,f331),(332,f332),(333,f333),(334,f334),(335,f335),(336,f336),(337,f337),(338,f338),(339,f339),(340,f340),(341,f341),(342,f342),(343,f343),(344,f344),(345,f345),(346,f346),(347,f347),(348,f348),(349,f349),(350,f350),(351,f351),(352,f352),(353,f353),(354,f354),(355,f355),(356,f356),(357,f357),(358,f358),(359,f359),(360,f360),(361,f361),(362,f362),(363,f363),(364,f364),(365,f365),(366,f366),(367,f367),(370,f370),(371,f371),(372,f372),(373,f373),(374,f374),(375,f375),(376,f376),(377,f377),(378,f378),(379,f379),(391,f391),(392,f392),(393,f393),(394,f394),(395,f395),(396,f396),(397,f397),(398,f398),(399,f399),(400,f400),(401,f401),(402,f402),(403,f403),(404,f404),(405,f405),(406,f406),(407,f407),(408,f408),(409,f409),(410,f410),(411,f411),(412,f412),(413,f413),(414,f414),(415,f415),(416,f416),(417,f417),(418,f418),(419,f419),(420,f420),(424,f424),(425,f425),(427,f427),(428,f428),(429,f429),(436,f436),(437,f437),(438,f438),(439,f439),(440,f440),(441,f441),(442,f442),(443,f443),(444,f444),(445,f445),(446,f446),(447,f447),(448,f448),(449,f449),(451,f451),(452,f452),(453,f453),(454,f454),(455,f455),(456,f456),(457,f457),(458,f458),(459,f459),(460,f460),(463,f463),(465,f465),(466,f466),(467,f467),(468,f468),(469,f469),(470,f470),(471,f471),(472,f472)]
theorem aqH:I8 Tryz.prog OQ:=by
 unfold OQ;repeat refine⟨by constructor<;>kernel_rfl,?_⟩
 exact trivial
theorem aeq:IX Tryz.prog Kh:=by
 unfold Kh;repeat refine⟨⟨by kernel_rfl,by kernel_rfl⟩,?_⟩
 exact trivial
theorem aqG:C7 OQ=OP:=by kernel_rfl
theorem aee:C7 Kh=Kg:=by kernel_rfl
theorem S0(fs:List Fact)(σ:Nat->Int)(h:∀f,f∈fs->f.ok Tryz.prog σ) :dL Tryz.prog (env fs) σ where
 fn:=λf fn aJ=>by have e:bu.get Kg f=some fn:=aJ;rw[<-aee,Kr Fu (λ_=>rfl) (λ_ _ _ _=>rfl)]at e;exact Tl aeq f fn e
 ty:=λt i aW=>by have e:bu.get OP t=some i:=aW;rw[<-aqG,Kr H9 (λ_=>rfl) (λ_ _ _ _=>rfl)]at e;exact aal aqH t i e
 facts:=h
 mixed:=by kernel_rfl
end
end Go.Proofs.YtkdjcmpgnkecfaaGreatDoor
namespace Go.Proofs
open Go.Shelf
def Tryz.aiG:Go.Shelf.Ren:=⟨λ|217=>425|266=>462|n=>n,λ|9=>9|5=>5|3=>3|n=>n,λ|n=>n⟩
theorem Tryz.aiF:Go.Proofs.Lays.n217 Tryz.prog Tryz.aiG:={
 mixed:=by kernel_rfl
 f217:=Tryz.func425.trans (congrArg some (by kernel_rfl))
 f266:=Tryz.func462.trans (congrArg some (by kernel_rfl))
 t3:=Tryz.underlying3
 a3:=Tryz.isAgg3
 z3:=Tryz.sizeOf3
 v3:=Tryz.zeroValue3
 t5:=Tryz.underlying5
 a5:=Tryz.isAgg5
 z5:=Tryz.sizeOf5
 v5:=Tryz.zeroValue5
 t9:=Tryz.underlying9
 a9:=Tryz.isAgg9
 z9:=Tryz.sizeOf9
 v9:=Tryz.zeroValue9}
open Go.RowKit Go.Lib in
theorem Tryz.stringslite_IndexByte(s:ByteArray)(c:Int)(w:World) :
 Calls Tryz.prog 425 #[.string s,.int .u8 c] w λe aZ=>e=.returned (.int .i64 (Lib.indexByte s.data.toList c.toNat.toUInt8))/\aZ=w:=Any.stringslite_IndexByte Tryz.aiF s c w
def Tryz.Vb:Go.Shelf.Ren:=⟨λ|105=>296|212=>368|99=>369|165=>370|166=>337|170=>339|169=>340|263=>421|264=>422|206=>423|240=>406|241=>424|276=>450|277=>461|n=>n,λ|9=>9|3=>3|4=>4|20=>20|0=>0|46=>410|109=>469|5=>5|72=>440|76=>443|51=>475|146=>505|53=>67|148=>507|70=>438|37=>135|75=>442|127=>492|164=>524|80=>262|n=>n,λ|n=>n⟩
theorem Tryz.aiE:Go.Proofs.Lays.n105 Tryz.prog Tryz.Vb:={
 mixed:=by kernel_rfl
 f99:=Tryz.func369.trans (congrArg some (by kernel_rfl))
 f105:=Tryz.func296.trans (congrArg some (by kernel_rfl))
 f165:=Tryz.func370.trans (congrArg some (by kernel_rfl))
 f166:=Tryz.func337.trans (congrArg some (by kernel_rfl))
 f169:=Tryz.func340.trans (congrArg some (by kernel_rfl))
 f170:=Tryz.func339.trans (congrArg some (by kernel_rfl))
 f206:=Tryz.func423.trans (congrArg some (by kernel_rfl))
 f212:=Tryz.func368.trans (congrArg some (by kernel_rfl))
 f240:=Tryz.func406.trans (congrArg some (by kernel_rfl))
 f241:=Tryz.func424.trans (congrArg some (by kernel_rfl))
 f263:=Tryz.func421.trans (congrArg some (by kernel_rfl))
 f264:=Tryz.func422.trans (congrArg some (by kernel_rfl))
 f276:=Tryz.func450.trans (congrArg some (by kernel_rfl))
 f277:=Tryz.func461.trans (congrArg some (by kernel_rfl))
 t0:=Tryz.underlying0
 a0:=Tryz.isAgg0
 z0:=Tryz.sizeOf0
 v0:=Tryz.zeroValue0
 t3:=Tryz.underlying3
 a3:=Tryz.isAgg3
 z3:=Tryz.sizeOf3
 v3:=Tryz.zeroValue3
 t4:=Tryz.underlying4
 a4:=Tryz.isAgg4
 z4:=Tryz.sizeOf4
 v4:=Tryz.zeroValue4
 t5:=Tryz.underlying5
 a5:=Tryz.isAgg5
 z5:=Tryz.sizeOf5
 v5:=Tryz.zeroValue5
 t9:=Tryz.underlying9
 a9:=Tryz.isAgg9
 z9:=Tryz.sizeOf9
 v9:=Tryz.zeroValue9
 t20:=Tryz.underlying20
 a20:=Tryz.isAgg20
 z20:=Tryz.sizeOf20
 v20:=Tryz.zeroValue20
 t37:=Tryz.underlying135
 a37:=Tryz.isAgg135
 z37:=Tryz.sizeOf135
 v37:=Tryz.zeroValue135
 t46:=Tryz.underlying410
 a46:=Tryz.isAgg410
 z46:=Tryz.sizeOf410
 v46:=Tryz.zeroValue410
 t51:=Tryz.underlying475
 a51:=Tryz.isAgg475
 z51:=Tryz.sizeOf475
 v51:=Tryz.zeroValue475
 t53:=Tryz.underlying67
 a53:=Tryz.isAgg67
 z53:=Tryz.sizeOf67
 v53:=Tryz.zeroValue67
 t70:=Tryz.underlying438
 a70:=Tryz.isAgg438
 z70:=Tryz.sizeOf438
 v70:=Tryz.zeroValue438
 t72:=Tryz.underlying440
 a72:=Tryz.isAgg440
 z72:=Tryz.sizeOf440
 v72:=Tryz.zeroValue440
 t75:=Tryz.underlying442
 a75:=Tryz.isAgg442
 z75:=Tryz.sizeOf442
 v75:=Tryz.zeroValue442
 t76:=Tryz.underlying443
 a76:=Tryz.isAgg443
 z76:=Tryz.sizeOf443
 v76:=Tryz.zeroValue443
 t109:=Tryz.underlying469
 a109:=Tryz.isAgg469
 z109:=Tryz.sizeOf469
 v109:=Tryz.zeroValue469
 t127:=Tryz.underlying492
 a127:=Tryz.isAgg492
 z127:=Tryz.sizeOf492
 v127:=Tryz.zeroValue492
 t146:=Tryz.underlying505
 a146:=Tryz.isAgg505
 z146:=Tryz.sizeOf505
 v146:=Tryz.zeroValue505
 t148:=Tryz.underlying507
 a148:=Tryz.isAgg507
 z148:=Tryz.sizeOf507
 v148:=Tryz.zeroValue507
 t164:=Tryz.underlying524
 a164:=Tryz.isAgg524
 z164:=Tryz.sizeOf524
 v164:=Tryz.zeroValue524}
theorem Tryz.aaV:Builder.Extra Tryz.prog Tryz.Vb:={
 sizeBuilder:=by kernel_rfl
 liesBuilder:=by kernel_rfl
 t5:=Tryz.underlying5
 a5:=Tryz.isAgg5
 z5:=Tryz.sizeOf5
 v5:=Tryz.zeroValue5
 infoByte:=by kernel_rfl
 cellsByte:=by kernel_rfl
 sizeByte:=by kernel_rfl
 neB5:=by decide}
open Go.RowKit Go.Lib in
open Go.RowKit Go.Lib in
open Go.RowKit Go.Lib in
open Go.RowKit Go.Lib in
open Go.RowKit Go.Lib in
open Go.RowKit Go.Lib in
open Go.RowKit Go.Lib in
theorem Tryz.strings_Repeat(s:ByteArray)(c:Nat)(w:World)(aH:c<=9223372036854775807)(hlen:s.size*c<=140737488355328) :
 Calls Tryz.prog 296 #[.string s,.int .i64 c] w λe aZ=>e=.returned (.string ⟨(Lib.repeatL s.data.toList c).toArray⟩)/\Below w.heap.size w aZ:=Any.strings_Repeat Tryz.aiE Tryz.aaV s c w aH hlen
def Tryz.U5:Go.Shelf.Ren:=⟨λ|7=>173|10=>261|n=>n,λ|23=>263|26=>3|3=>63|28=>302|0=>0|27=>301|33=>128|4=>4|n=>n,λ|n=>n⟩
theorem Tryz.U4:Go.Proofs.SlLaysZI.n7 Tryz.prog Tryz.U5:={
 mixed:=by kernel_rfl
 f7:=⟨Tryz.f173.name,by decide,Tryz.func173.trans (congrArg some (by kernel_rfl))⟩
 f10:=⟨Tryz.f261.name,by decide,Tryz.func261.trans (congrArg some (by kernel_rfl))⟩
 t0:=Tryz.underlying0
 a0:=Tryz.isAgg0
 z0:=Tryz.sizeOf0
 v0:=Tryz.zeroValue0
 t4:=Tryz.underlying4
 a4:=Tryz.isAgg4
 z4:=Tryz.sizeOf4
 v4:=Tryz.zeroValue4
 t23:=Tryz.underlying263
 a23:=Tryz.isAgg263
 z23:=Tryz.sizeOf263
 v23:=Tryz.zeroValue263
 t26:=Tryz.underlying3
 a26:=Tryz.isAgg3
 z26:=Tryz.sizeOf3
 v26:=Tryz.zeroValue3
 t27:=Tryz.underlying301
 a27:=Tryz.isAgg301
 z27:=Tryz.sizeOf301
 v27:=Tryz.zeroValue301
 t28:=Tryz.underlying302
 a28:=Tryz.isAgg302
 z28:=Tryz.sizeOf302
 v28:=Tryz.zeroValue302
 t33:=Tryz.underlying128
 a33:=Tryz.isAgg128
 z33:=Tryz.sizeOf128
 v33:=Tryz.zeroValue128}
def Tryz.XX:Go.Shelf.Ren:=⟨λ|6=>172|8=>259|9=>260|11=>322|13=>324|12=>323|23=>389|24=>390|14=>380|15=>381|16=>382|17=>383|18=>384|19=>385|20=>386|21=>387|22=>388|25=>430|26=>431|27=>432|28=>433|29=>434|30=>435|31=>464|n=>n,λ|26=>3|28=>302|24=>64|0=>0|3=>3|37=>410|48=>475|50=>67|4=>4|40=>479|39=>478|45=>183|5=>5|9=>9|51=>510|55=>494|57=>533|58=>446|33=>128|n=>n,λ|n=>n⟩
theorem Tryz.ao8:Go.Proofs.SlLaysZI.n6 Tryz.prog Tryz.XX:={
 mixed:=by kernel_rfl
 f6:=⟨Tryz.f172.name,by decide,Tryz.func172.trans (congrArg some (by kernel_rfl))⟩
 f8:=⟨Tryz.f259.name,by decide,Tryz.func259.trans (congrArg some (by kernel_rfl))⟩
 f11:=⟨Tryz.f322.name,by decide,Tryz.func322.trans (congrArg some (by kernel_rfl))⟩
 t0:=Tryz.underlying0
 a0:=Tryz.isAgg0
 z0:=Tryz.sizeOf0
 v0:=Tryz.zeroValue0
 t24:=Tryz.underlying64
 a24:=Tryz.isAgg64
 z24:=Tryz.sizeOf64
 v24:=Tryz.zeroValue64
 t26:=Tryz.underlying3
 a26:=Tryz.isAgg3
 z26:=Tryz.sizeOf3
 v26:=Tryz.zeroValue3
 t28:=Tryz.underlying302
 a28:=Tryz.isAgg302
 z28:=Tryz.sizeOf302
 v28:=Tryz.zeroValue302
 i26:=by kernel_rfl}
def Tryz.ao7:Go.Shelf.Ren:=⟨λ|5=>260|8=>324|7=>323|19=>389|20=>390|10=>380|11=>381|12=>382|13=>383|14=>384|15=>385|16=>386|17=>387|18=>388|30=>430|31=>431|32=>432|33=>433|34=>434|35=>435|40=>464|n=>n,λ|23=>64|25=>3|3=>3|32=>410|22=>64|0=>0|44=>475|46=>67|4=>4|36=>479|35=>478|41=>183|5=>5|9=>9|53=>510|57=>494|63=>533|64=>446|n=>n,λ|n=>n⟩
theorem Tryz.XV:Go.Proofs.SlLaysM.n5 Tryz.prog Tryz.ao7:={
 mixed:=by kernel_rfl
 f5:=⟨Tryz.f260.name,by decide,Tryz.func260.trans (congrArg some (by kernel_rfl))⟩
 f7:=⟨Tryz.f323.name,by decide,Tryz.func323.trans (congrArg some (by kernel_rfl))⟩
 f8:=Tryz.func324.trans (congrArg some (by kernel_rfl))
 f10:=⟨Tryz.f380.name,by decide,Tryz.func380.trans (congrArg some (by kernel_rfl))⟩
 f11:=⟨Tryz.f381.name,by decide,Tryz.func381.trans (congrArg some (by kernel_rfl))⟩
 f12:=⟨Tryz.f382.name,by decide,Tryz.func382.trans (congrArg some (by kernel_rfl))⟩
 f13:=⟨Tryz.f383.name,by decide,Tryz.func383.trans (congrArg some (by kernel_rfl))⟩
 f14:=⟨Tryz.f384.name,by decide,Tryz.func384.trans (congrArg some (by kernel_rfl))⟩
 f15:=⟨Tryz.f385.name,by decide,Tryz.func385.trans (congrArg some (by kernel_rfl))⟩
 f16:=⟨Tryz.f386.name,by decide,Tryz.func386.trans (congrArg some (by kernel_rfl))⟩
 f17:=⟨Tryz.f387.name,by decide,Tryz.func387.trans (congrArg some (by kernel_rfl))⟩
 f18:=⟨Tryz.f388.name,by decide,Tryz.func388.trans (congrArg some (by kernel_rfl))⟩
 f19:=Tryz.func389.trans (congrArg some (by kernel_rfl))
 f20:=Tryz.func390.trans (congrArg some (by kernel_rfl))
 f30:=⟨Tryz.f430.name,by decide,Tryz.func430.trans (congrArg some (by kernel_rfl))⟩
 f31:=Tryz.func431.trans (congrArg some (by kernel_rfl))
 f32:=Tryz.func432.trans (congrArg some (by kernel_rfl))
 f33:=⟨Tryz.f433.name,by decide,Tryz.func433.trans (congrArg some (by kernel_rfl))⟩
 f34:=⟨Tryz.f434.name,by decide,Tryz.func434.trans (congrArg some (by kernel_rfl))⟩
 f35:=⟨Tryz.f435.name,by decide,Tryz.func435.trans (congrArg some (by kernel_rfl))⟩
 f40:=⟨Tryz.f464.name,by decide,Tryz.func464.trans (congrArg some (by kernel_rfl))⟩
 t0:=Tryz.underlying0
 a0:=Tryz.isAgg0
 z0:=Tryz.sizeOf0
 v0:=Tryz.zeroValue0
 t3:=Tryz.underlying3
 a3:=Tryz.isAgg3
 z3:=Tryz.sizeOf3
 v3:=Tryz.zeroValue3
 t4:=Tryz.underlying4
 a4:=Tryz.isAgg4
 z4:=Tryz.sizeOf4
 v4:=Tryz.zeroValue4
 t5:=Tryz.underlying5
 a5:=Tryz.isAgg5
 z5:=Tryz.sizeOf5
 v5:=Tryz.zeroValue5
 t9:=Tryz.underlying9
 a9:=Tryz.isAgg9
 z9:=Tryz.sizeOf9
 v9:=Tryz.zeroValue9
 t22:=Tryz.underlying64
 a22:=Tryz.isAgg64
 z22:=Tryz.sizeOf64
 v22:=Tryz.zeroValue64
 t23:=Tryz.underlying64
 a23:=Tryz.isAgg64
 z23:=Tryz.sizeOf64
 v23:=Tryz.zeroValue64
 t25:=Tryz.underlying3
 a25:=Tryz.isAgg3
 z25:=Tryz.sizeOf3
 v25:=Tryz.zeroValue3
 t32:=Tryz.underlying410
 a32:=Tryz.isAgg410
 z32:=Tryz.sizeOf410
 v32:=Tryz.zeroValue410
 t35:=Tryz.underlying478
 a35:=Tryz.isAgg478
 z35:=Tryz.sizeOf478
 v35:=Tryz.zeroValue478
 t36:=Tryz.underlying479
 a36:=Tryz.isAgg479
 z36:=Tryz.sizeOf479
 v36:=Tryz.zeroValue479
 t41:=Tryz.underlying183
 a41:=Tryz.isAgg183
 z41:=Tryz.sizeOf183
 v41:=Tryz.zeroValue183
 t44:=Tryz.underlying475
 a44:=Tryz.isAgg475
 z44:=Tryz.sizeOf475
 v44:=Tryz.zeroValue475
 t46:=Tryz.underlying67
 a46:=Tryz.isAgg67
 z46:=Tryz.sizeOf67
 v46:=Tryz.zeroValue67
 t53:=Tryz.underlying510
 a53:=Tryz.isAgg510
 z53:=Tryz.sizeOf510
 v53:=Tryz.zeroValue510
 t57:=Tryz.underlying494
 a57:=Tryz.isAgg494
 z57:=Tryz.sizeOf494
 v57:=Tryz.zeroValue494
 t63:=Tryz.underlying533
 a63:=Tryz.isAgg533
 z63:=Tryz.sizeOf533
 v63:=Tryz.zeroValue533
 t64:=Tryz.underlying446
 a64:=Tryz.isAgg446
 z64:=Tryz.sizeOf446
 v64:=Tryz.zeroValue446}
end Go.Proofs
namespace Go.Proofs.YtkdjcmpgnkecfaaGreatDoor
open Go.a8 Go.RowKit Go.Shelf Go.Maps
theorem Th(n c:Nat)(aH:c<256) :∀(k i:Nat),zx n c k i=if Lib.indexByte (bytesOf k (n/256^i)) (UInt8.ofNat c)= -1 then-1 else Lib.indexByte (bytesOf k (n/256^i)) (UInt8.ofNat c) +i
 |0,i=>by simp[zx,bytesOf,Lib.indexByte]
 |k+1,i=>by
  have aG:n/256^i%256=dN n i:=by rw[jE,show 2^(8*i)=256^i by rw[Nat.pow_mul]]
  have aT:n/256^i/256=n/256^(i+1):=by rw[Nat.div_div_eq_div_mul,Nat.pow_succ]
  have bJ:(UInt8.ofNat (dN n i) ==UInt8.ofNat c)=Nat.beq (dN n i) c:=by
   rw[Bool.eq_iff_iff,a8.beq_true,beq_iff_eq];constructor
   ·intro h;have:=congrArg UInt8.toNat h;simpa [Nat.mod_eq_of_lt (vI n i),Nat.mod_eq_of_lt aH]using this
   ·intro h;rw[h]
  unfold zx bytesOf Lib.indexByte;rw[aG,aT,bJ,Th n c aH k (i+1)];have rI:=Lib.indexByte_ge (bytesOf k (n/256^(i+1))) (UInt8.ofNat c);cases Nat.beq (dN n i) c with
  |true=>simp
  |false=>
   simp only[cond_false,Bool.false_eq_true,if_false,beq_iff_eq];by_cases h:Lib.indexByte (bytesOf k (n/256^(i+1))) (UInt8.ofNat c)= -1
   ·simp[h]
   ·rw[if_neg h,if_neg h,if_neg (by omega)];omega
theorem aej:Tryz.f425.body=some (Tryz.f425.body.getD .skip):=by kernel_rfl
theorem aeo(fs:List Fact) :(env fs).fn 425=some Tryz.f425:=by kernel_rfl
theorem ah6{fs:List Fact}{σ:Nat->Int}(ok:dL Tryz.prog (env fs) σ) :y6 Tryz.prog (env fs) σ 425 LO:=by
 intro args h v bC he μ w us aN rel hu;unfold LO at he;split at he
 ·rename_i l n c;replace he:=dV he;obtain⟨aH,he⟩:=he;have aH:=dM.1 aH;cases he;obtain⟨bb,cS,aG,⟨aw,aA⟩,bn,dm,aT,ab,bJ⟩:=hu
  have bw:us= #[.string ⟨(bytesOf l n).toArray⟩,.int .u8 (.ofNat c)]:=by apply Array.ext';rw[aG,aT,bJ,aA,ab]
  subst bw;refine JA ok (aeo fs) aej rel ((Tryz.stringslite_IndexByte _ _ w).mono λe aZ ⟨h1,ab⟩=>⟨_,h1,?_,by subst ab;exact Below.refl _ _⟩);have:=Th n c aH l 0;simp only[Nat.pow_zero,Nat.div_one,Int.natCast_zero,Int.add_zero,Int.ofNat_eq_natCast]at this;show Value.int .i64 _=.int .i64 (zx n c l 0);rw[this];congr 1;have e:(Int.ofNat c).toNat.toUInt8=UInt8.ofNat c:=rfl;rw[e];split<;>simp_all
 ·cases he
theorem Xg(l n:Nat)(aw:n<2^(8*l)) :∀k,u0 l n k<2^(8*(l*k))
 |0=>by show(0:Nat) <_;exact Nat.two_pow_pos _
 |k+1=>by have b1:=Xg l n aw k;show n+u0 l n k<<< (8*l) <_;rw[Nat.shiftLeft_eq,Nat.mul_succ,Nat.mul_add,Nat.pow_add];have:(u0 l n k+1) *2^(8*l)<=2^(8*(l*k)) *2^(8*l):=Nat.mul_le_mul_right _ b1;rw[Nat.add_mul,Nat.one_mul]at this;omega
theorem Xf(l n:Nat)(aw:n<2^(8*l)) :∀k,bytesOf (l*k) (u0 l n k)=Lib.repeatL (bytesOf l n) k
 |0=>rfl
 |k+1=>by show bytesOf (l*(k+1)) (n+u0 l n k<<< (8*l))=_;rw[Nat.mul_succ,Nat.add_comm,Sd _ _ _ _ aw,Xf l n aw k];rfl
theorem aei:Tryz.f296.body=some (Tryz.f296.body.getD .skip):=by kernel_rfl
theorem aen(fs:List Fact) :(env fs).fn 296=some Tryz.f296:=by kernel_rfl
theorem an3{fs:List Fact}{σ:Nat->Int}(ok:dL Tryz.prog (env fs) σ) :y6 Tryz.prog (env fs) σ 296 Ht:=by
 intro args h v bC he μ w us aN rel hu;unfold Ht at he;split at he
 ·rename_i l n k;replace he:=dV he;obtain⟨aj,he⟩:=he;simp only[Bool.and_eq_true]at aj;have ay:=ec.1 aj.1;have av:=ec.1 aj.2;cases he;obtain⟨bb,cS,aG,⟨aw,aA⟩,bn,dm,aT,ab,bJ⟩:=hu
  have bw:us= #[.string ⟨(bytesOf l n).toArray⟩,.int .i64 (k:Nat)]:=by apply Array.ext';rw[aG,aT,bJ,aA,ab];rfl
  subst bw
  have eR:(⟨(bytesOf l n).toArray⟩ :ByteArray).size=l:=by show(bytesOf l n).toArray.size=l;simp[nR]
  refine JA ok (aen fs) aei rel ((Tryz.strings_Repeat ⟨(bytesOf l n).toArray⟩ k w av (by rw[eR];exact ay)).mono λe aZ ⟨h1,ab⟩=>⟨_,h1,?_,ab⟩);refine⟨Xg l n aw k,?_⟩;rw[Xf l n aw k]
 ·cases he
theorem UU{f:FuncId}{fn:Func}{fs:List Fact}{σ:Nat->Int}(ok:dL Tryz.prog (env fs) σ)(aJ:(env fs).fn f=some fn)(aj:fn.body=some (fn.body.getD .skip))(us:Array Value)(w:World) :
 (inv (.func (.func f) #[] #[]) us).run Tryz.prog w=.ok (.enter f us) w:=LX ok aJ aj us w
theorem aeg:Tryz.f173.body=some (Tryz.f173.body.getD .skip):=by kernel_rfl
theorem ael(fs:List Fact) :(env fs).fn 173=some Tryz.f173:=by kernel_rfl
theorem ait(MA:Option Nat)(w:World) :Calls Tryz.prog 173 #[.map MA] w λe aZ=>e=.returned (.func (.func 261) #[] #[.pointer (some ⟨w.heap.size,0,none⟩)])/\aZ=w.alloc (.cells #[.map MA] 263):=
 callsIn_wide.1 (AnyZI.keys_in Tryz.U4 Fence.wide 5 trivial rfl MA w)
theorem ais{fs:List Fact}{σ:Nat->Int}(ok:dL Tryz.prog (env fs) σ) :y6 Tryz.prog (env fs) σ 173 L_:=by
 intro args h v bC he μ w us aN rel hu;unfold L_ at he;split at he
 ·rename_i id;cases he;obtain⟨bb,cS,aG,⟨loc,hm,aA⟩,bJ⟩:=hu
  have bw:us= #[.map (some loc.b)]:=by apply Array.ext';rw[aG,bJ,aA]
  subst bw;refine .inl ⟨173,_,UU ok (ael fs) aeg _ w,λcs=> ?_⟩;obtain⟨e,aZ,fr,⟨rfl,rfl⟩,h1,ab,al⟩:=ait (some loc.b) w cs;have c':id≠h.next:=λe=>by rw[e,rel.hW h.next (Nat.le_refl _)]at hm;cases hm
  have hk:(μ.az h.next ⟨w.heap.size,0,1⟩) id=some loc:=by rw[Map.kn _ _ c'];exact hm
  have MG:=rel.new (x:=.cells #[.map (some loc.b)] 263) (o:=.ro 1 (.node .nil (some (.map id)) .nil)) (room:=1)
   ⟨rfl, #[.map (some loc.b)],263,(0,0),rfl,rfl,Nat.le_refl _,(λe=>by cases e),(λi _ af=>by simp at af),λi af=>by
    have:i=0:=by omega
    subst this
    exact⟨.map id,.map (some loc.b),rfl,rfl,loc,hk,rfl⟩⟩
  refine⟨fr,_,_,μ.az h.next ⟨w.heap.size,0,1⟩,h1,ab,al,⟨rfl,rfl,rfl⟩,MG,?_⟩;exact⟨#[], #[.pointer (some ⟨w.heap.size,0,none⟩)],rfl,rfl,_,_,rfl,⟨⟨w.heap.size,0,1⟩,Map.iS _ _ _,rfl⟩,rfl⟩
 ·cases he
theorem LR(n:Int) :∀l:List Int,(z' n l).Perm (n::l)
 |[]=>List.Perm.refl _
 |m::l=>by
  unfold z';cases Go.a8.pM n m with
  |true=>exact List.Perm.refl _
  |false=>exact((LR n l).cons m).trans (List.Perm.swap n m l)
theorem HM:∀l:List Int,(r9 l).Perm l
 |[]=>List.Perm.refl _
 |n::l=>(LR n (r9 l)).trans ((HM l).cons n)
theorem UP(n:Int) :∀l:List Int,l.Pairwise (·<= ·)->(z' n l).Pairwise (·<= ·)
 |[],_=>List.pairwise_singleton _ _
 |m::l,h=>by
  unfold z';have hm:=List.pairwise_cons.1 h;cases e:Go.a8.pM n m with
  |true=>
   rw[wv,decide_eq_true_eq]at e;refine List.pairwise_cons.2 ⟨λx ag=> ?_,h⟩;rcases List.mem_cons.1 ag with rfl|ag
   ·exact e
   ·exact Int.le_trans e (hm.1 x ag)
  |false=>
   rw[wv,decide_eq_false_iff_not]at e;refine List.pairwise_cons.2 ⟨λx ag=> ?_,UP n l hm.2⟩;rcases List.mem_cons.1 ((LR n l).mem_iff.1 ag)with rfl|ag
   ·omega
   ·exact hm.1 x ag
theorem XW:∀l:List Int,(r9 l).Pairwise (·<= ·)
 |[]=>List.Pairwise.nil
 |n::l=>UP n _ (XW l)
theorem Xk:∀l:List Int,Dm l=true->l.Pairwise (· < ·)
 |[],_=>List.Pairwise.nil
 |[a],_=>List.pairwise_singleton _ _
 |a::b::l,h=>by
  simp only[Dm,Bool.and_eq_true]at h;have b1:=Xk (b::l) h.2;have hO:a<b:=by have:=h.1;rw[oi,decide_eq_true_eq]at this;exact this
  refine List.pairwise_cons.2 ⟨λx ag=> ?_,b1⟩;rcases List.mem_cons.1 ag with rfl|ag
  ·exact hO
  ·exact Int.lt_trans hO ((List.pairwise_cons.1 b1).1 x ag)
theorem insert_perm{H:Type}(x:Lit×DataW H) :∀l:List (Lit×DataW H),(DataW.insert x l).Perm (x::l)
 |[]=>List.Perm.refl _
 |y::l=>by
  unfold DataW.insert;split
  ·exact List.Perm.refl _
  ·exact((insert_perm x l).cons y).trans (List.Perm.swap x y l)
theorem Ki{H:Type} :∀l:List (Lit×DataW H),(l.foldr DataW.insert []).Perm l
 |[]=>List.Perm.refl _
 |x::l=>(insert_perm x _).trans ((Ki l).cons x)
def wL:Value->Option (DataW Unit×List MemPlace):=λ_=>some (.nil,[])
theorem aqO:Tryz.prog.underlying 3=some (.int .i64):=Tryz.underlying3
theorem U6{σ:Nat->Int}{μ:a8.Map} :∀{es:List (aa×aa×Nat)} {cV:List MapEntry} {jL:List Int},hz σ μ es cV->C1 es=some jL->
  cV.map (·.key)=jL.map (Value.int .i64)/\∀n,n∈jL->(Lit.int .i64 n).wf=true
 |[],cV,jL,he,av=>by cases av;rw[show cV=[]from he];exact⟨rfl,λn h=>by cases h⟩
 |(k,v,b)::es,cV,jL,he,av=>by
  obtain⟨e,r,aG,h1,ab,al,aE⟩:=he;simp only[C1]at av;split at av
  ·rename_i n l ay;replace av:=dV av;obtain⟨aj,av⟩:=av;cases av;obtain⟨g1,g2⟩:=U6 aE ay;subst aG;have xL:e.key=.int .i64 n:=h1;refine⟨by simp[xL,g1],λm hm=> ?_⟩;rcases List.mem_cons.1 hm with rfl|hm
   ·simp only[Bool.and_eq_true,wv,decide_eq_true_eq]at aj;simp only[Lit.wf,Bool.and_eq_true,decide_eq_true_eq];exact⟨aj.1,aj.2⟩
   ·exact g2 m hm
  ·cases av
theorem X9{σ:Nat->Int}{μ:a8.Map} :∀{es:List (aa×aa×Nat)} {cV:List MapEntry} {lo clock:Nat},hz σ μ es cV->DA es lo clock=true->
  (∀x,x∈cV->lo<=x.born/\x.born<clock)/\(cV.map (·.born)).Nodup
 |[],cV,lo,clock,he,aA=>by rw[show cV=[]from he];exact⟨(λx h=>by cases h),List.nodup_nil⟩
 |(k,v,b)::es,cV,lo,clock,he,aA=>by
  obtain⟨e,r,aG,h1,ab,al,aE⟩:=he;simp only[DA,Bool.and_eq_true]at aA;obtain⟨⟨s1,s2⟩,dE⟩:=aA;have s1:=ec.1 s1;have s2:=dM.1 s2;obtain⟨g1,g2⟩:=X9 aE dE;subst aG;refine⟨λx ag=> ?_,?_⟩
  ·rcases List.mem_cons.1 ag with rfl|ag
   ·rw[al];exact⟨s1,s2⟩
   ·have:=g1 x ag;omega
  ·rw[List.map_cons,List.nodup_cons];refine⟨λhm=> ?_,g2⟩;obtain⟨x,ag,ex⟩:=List.mem_map.1 hm;have:=g1 x ag;omega
theorem amT{σ:Nat->Int}{μ:a8.Map}{w:World}{b:Nat}{es:List (aa×aa×Nat)}{cV:Array MapEntry}{clock:Nat}{jL:List Int}(aj:w.heap[b]? =some (.map cV clock))(he:hz σ μ es cV.toList)(av:C1 es=some jL)
  (aA:DA es 0 clock=true) (an:Dm (r9 jL)=true) (ay:es.length<=16777216) :
  ∃D:DataW Unit,w.ownsMap Tryz.prog 3 wL b es.length D/\(intKeys D).Perm jL/\Maps.size D=es.length:=by
 obtain⟨g1,g2⟩:=U6 he av;obtain⟨s1,s2⟩:=X9 he aA
 have hlen:∀{es:List (aa×aa×Nat)} {cV:List MapEntry},hz σ μ es cV->cV.length=es.length:=by
  intro es;induction es with
  |nil=>intro cV h;rw[show cV=[]from h];rfl
  |cons p es b1=>
   intro cV h;obtain⟨k,v,b⟩:=p;obtain⟨e,r,aG,_,_,_,aE⟩:=h;rw[aG,List.length_cons,b1 aE,List.length_cons]
 have eR:cV.size=es.length:=by rw[<-Array.length_toList];exact hlen he
 have db:jL.Nodup:=by
  have h1:=Xk _ an;have ab:(r9 jL).Nodup:=h1.imp λh=>Int.ne_of_lt h
  exact(HM jL).nodup_iff.1 ab
 have W7:∀x,x∈cV.toList->∃n,x.key=.int .i64 n/\Go.WideElems.rd Tryz.prog 3 wL x=some (.int .i64 n,.nil):=by
  intro x ag;have hm:x.key∈cV.toList.map (·.key):=List.mem_map.2 ⟨x,ag,rfl⟩;rw[g1]at hm;obtain⟨n,aw,e⟩:=List.mem_map.1 hm;refine⟨n,e.symm,?_⟩
  have iV:keyOf Tryz.prog 3 x.key=some (.int .i64 n):=by rw[<-e];simp only[keyOf,aqO,mapKey,g2 n aw,and_self,if_true]
  unfold Go.WideElems.rd;rw[iV];rfl
 have fit:Go.WideElems.Fit Tryz.prog 3 wL cV clock:=
  {size:=by rw[eR];unfold maxLen;omega
   stamped:=⟨λx ag=>(s1 x ag).2,s2,by rw[g1];exact List.pairwise_map.2 (List.Pairwise.imp (λh e=>h (by cases e;rfl)) db)⟩
   reads:=λx ag=>let⟨n,_,h⟩:=W7 x ag;⟨_,h⟩}
 refine⟨_,⟨cV,clock,aj,fit,by omega,rfl⟩,?_,?_⟩
 ·show(((cV.toList.map (Go.WideElems.rg Tryz.prog 3 wL)).foldr DataW.insert []).map λp=>Go.intOf p.1).Perm jL;refine((Ki _).map _).trans ?_
  have:∀l:List MapEntry,(∀x,x∈l->∃n,x.key=.int .i64 n/\Go.WideElems.rd Tryz.prog 3 wL x=some (.int .i64 n,.nil))->
    ((l.map (Go.WideElems.rg Tryz.prog 3 wL)).map λp=>Go.intOf p.1).map (Value.int .i64)=l.map (·.key):=by
   intro l;induction l with
   |nil=>intro _;rfl
   |cons x l b1=>
    intro h;obtain⟨n,aG,aT⟩:=h x List.mem_cons_self;simp only[List.map_cons,b1 λy aq=>h y (List.mem_cons_of_mem _ aq),Go.WideElems.rg_of aT,aG];rfl
  have h1:=this cV.toList W7;rw[g1]at h1;have ab:=List.map_inj_right (f:=Value.int .i64) (λa b h=>by cases h;rfl) |>.1 h1;rw[ab]
 ·show((cV.toList.map (Go.WideElems.rg Tryz.prog 3 wL)).foldr DataW.insert []).length=es.length;rw[(Ki _).length_eq,List.length_map,Array.length_toList,eR]
theorem ao'(m:Nat) :AnyZI.SortsIn Tryz.prog Tryz.XX Fence.wide m:=
 ⟨λdW off cap ot W aeV KJ eR=>callsIn_wide.2 (AnyM.slices_Sort_int Tryz.XV dW off cap ot W aeV KJ eR),
  λp cap W=>callsIn_wide.2 (AnyM.slices_Sort_int_none Tryz.XV p cap W)⟩
theorem ao9{w:World}{y3 b nn:Nat}{D:DataW Unit}(aeU:y3<w.heap.size)(hm:w.cell? ⟨y3,0,none⟩=some (.map (some b)))(nu:w.ownsMap Tryz.prog 3 wL b nn D)(T_:Maps.size D<=maxLen)(afk:Maps.size D*8<=140737488355328) :
  Calls Tryz.prog 172 #[.func (.func 261) #[] #[.pointer (some ⟨y3,0,none⟩)]] w λe aZ=>∃(v:Value) (ot:List Int),e=.returned v/\ot.Perm (intKeys D)/\
   aZ.ownsRow w.heap.size 3 1 v ot.length ((ot.mergeSort (λx y=>decide (x<=y))).map encZ)/\(v=.slice none 0 0↔ot=[])/\Below w.heap.size w aZ:=by
 have ag_:SeqGives Fence.wide 2 Tryz.prog 261 #[.pointer (some ⟨y3,0,none⟩)] encZ (λot=>ot.Perm (intKeys D)) (Maps.size D) w:=
  AnyZI.keys_gives (ρ:=Tryz.U5) {Tryz.U4 with} Fence.wide _ trivial rfl (by omega) y3 b nn D w aeU hm nu
 have BF:=AnyZI.sorted_in Tryz.ao8 Fence.wide 5 trivial trivial trivial trivial rfl (by omega) (ao' _) (enters_of Tryz.func260 (by kernel_rfl) rfl) 261 #[.pointer (some ⟨y3,0,none⟩)] trivial (enters_of Tryz.func261 (by kernel_rfl) rfl) _ _ T_ afk _ ag_;exact callsIn_wide.1 BF
theorem aa'{σ:Nat->Int}{μ:a8.Map}{h:ae}{H kJ:Array Obj}{g room:Nat}{o:bT}(rel:dU σ μ h H)(jG:∀k,k<H.size->kJ[k]? =H[k]?)(eR:H.size<=kJ.size)(aN:H.size<=g)(Cg:g<kJ.size)
  (an:hq σ (μ.az h.next ⟨g,0,room⟩) o ⟨g,0,room⟩ kJ[g]?) :ej σ μ h H (μ.az h.next ⟨g,0,room⟩) (h.new o) kJ:=by
 have aw:=rel.hW h.next (Nat.le_refl _);have Am:(h.new o).next=h.next+1:=rfl
 have old:∀j,j≠h.next->(μ.az h.next ⟨g,0,room⟩) j=μ j:=λj aO=>Map.kn _ _ aO
 exact
  {ext:=Map.q7 _ _ aw
   rel:=
    {obj:=λj l q aO aF=>by
      rw[oy]at aF;by_cases e:j=h.next
      ·rw[if_pos e]at aF;cases aF;rw[e,Map.iS]at aO;cases aO;exact an
      ·rw[if_neg e]at aF;rw[old j e]at aO;rw[jG l.b (rel.lt j l aO)];exact(rel.obj j l q aO aF).ext (Map.q7 _ _ aw)
     inj:=λi j l bQ af aO aj rE jv=>by
      rw[oy]at jv;by_cases oN:i=h.next
      ·by_cases kr:j=h.next
       ·rw[oN,kr]
       ·rw[oN,Map.iS]at af;cases af;rw[old j kr]at aO;have:=rel.lt j bQ aO;simp at aj;omega
      ·rw[old i oN]at af;by_cases kr:j=h.next
       ·rw[kr,Map.iS]at aO;cases aO;have:=rel.lt i l af;simp at aj;omega
       ·rw[old j kr]at aO;rw[if_neg kr]at jv;exact rel.inj i j l bQ af aO aj (λx ag=>rE x (by rw[oy,if_neg oN];exact ag)) jv
     lt:=λj l aO=>by
      by_cases e:j=h.next
      ·rw[e,Map.iS]at aO;cases aO;exact Cg
      ·rw[old j e]at aO;exact Nat.lt_of_lt_of_le (rel.lt j l aO) eR
     hW:=λj aO=>by rw[Am]at aO;rw[old j (by omega)];exact rel.hW j (by omega)
     k8:=λj aO=>by
      rw[Am]at aO;rw[oy,if_neg (by omega)]
      exact rel.k8 j (by omega)}
   next:=by rw[Am];omega
   nC:=λj aO ag=>by rw[old j (by omega)];exact ag
   kept:=λj aO _=>by rw[oy,if_neg (by omega)]
   size:=eR
   own:=λb aj ⟨id,loc,q,h1,ab,al,aE⟩=>by
    by_cases e:id=h.next
    ·rw[e,Map.iS]at h1;cases h1;simp at aE;omega
    ·rw[old id e]at h1;rw[oy,if_neg e]at ab;exact⟨id,loc,q,h1,ab,al,aE⟩
   frame:=λb aj _=>jG b aj}
theorem aef:Tryz.f172.body=some (Tryz.f172.body.getD .skip):=by kernel_rfl
theorem aek(fs:List Fact) :(env fs).fn 172=some Tryz.f172:=by kernel_rfl
theorem get_some{h:ae}{id:Nat}{o:bT}(aN:h.get id=o)(aC:o≠.dead) :h.dS.get id=some o:=by
 unfold ae.get at aN;split at aN
 ·rename_i q aF;rw[aF,aN]
 ·exact absurd aN.symm aC
theorem ao_{fs:List Fact}{σ:Nat->Int}(ok:dL Tryz.prog (env fs) σ) :y6 Tryz.prog (env fs) σ 172 NZ:=by
 intro args h v bC he μ w us aN rel hu;unfold NZ at he;split at he
 ·rename_i f a;replace he:=dV he;obtain⟨aJ,he⟩:=he;have aJ:=a8.beq_true.1 aJ;subst aJ;split at he
  ·rename_i fC id dS bc;split at he
   ·rename_i es clock hid;split at he
    ·rename_i jL agc;replace he:=dV he;obtain⟨aj,he⟩:=he;simp only[Bool.and_eq_true]at aj;obtain⟨⟨an,ea⟩,hlen⟩:=aj;have hlen:=ec.1 hlen;obtain⟨bb,cS,aG,⟨x,y,pG,ag,aq⟩,bJ⟩:=hu;have LI:x= #[]:=by apply Array.ext';exact ag
     obtain⟨bn,dm,aT,⟨loc,hm,Gg⟩,e0⟩:=aq;have k3:=rel.obj a loc _ hm (get_some bc (by intro e;cases e));obtain⟨Uh,c,aso,aew,uk,zF,asX,_,_,afn⟩:=k3;obtain⟨v0,sn,qD,UE,iE⟩:=afn 0 (by omega)
     have ahr:v0=.map id:=by have:(bT.ro 1 (.node fC (some (.map id)) dS)).cell 0=some (.map id):=rfl;rw[this]at qD;exact(Option.some.inj qD).symm
     subst ahr;obtain⟨lm,agi,ahK⟩:=iE;have pW:=rel.obj id lm _ agi (get_some hid (by intro e;cases e));obtain⟨cV,afJ,F9⟩:=pW;obtain⟨D,nu,Un,qC⟩:=amT afJ F9 agc ea an hlen
     have bw:us= #[.func (.func 261) #[] #[.pointer (some ⟨loc.b,0,none⟩)]]:=by
      have qE:y= #[.pointer (some ⟨loc.b,0,none⟩)]:=by apply Array.ext';rw[aT,e0,Gg,Uh]
      apply Array.ext';rw[aG,bJ,pG,LI,qE]
     subst bw
     have mR:w.cell? ⟨loc.b,0,none⟩=some (.map (some lm.b)):=by simp only[World.cell?,uk];rw[Uh]at UE;simpa [ahK]using UE
     refine .inl ⟨172,_,UU ok (aek fs) aef _ w,λcs=> ?_⟩;obtain⟨e,aZ,fr,⟨eT,ot,rfl,LA,eK,Lk,jG⟩,h1,ab,al⟩:=ao9 (rel.lt a loc hm) mR nu (by rw[qC];unfold maxLen;omega) (by rw[qC];omega) cs
     have aha:ot.mergeSort (λx y=>decide (x<=y))=r9 jL:=by refine List.Perm.eq_of_pairwise (le:=λa b=>a<=b) (λa b _ _ p q=>Int.le_antisymm p q) ?_ (XW jL) (((List.mergeSort_perm ot _).trans (LA.trans Un)).trans (HM jL).symm);have:=List.pairwise_mergeSort (le:=λx y:Int=>decide (x<=y)) (λa b c p q=>by simp only[decide_eq_true_eq]at*;omega) (λa b=>by simp only[Bool.or_eq_true,decide_eq_true_eq];omega) ot;exact this.imp λp=>by simpa using p
     rw[aha]at eK;have wa:ot.length=(r9 jL).length:=((LA.trans Un).trans (HM jL).symm).length_eq;cases dB:r9 jL with
     |nil=>
      rw[dB]at he wa;cases he;have:ot=[]:=List.length_eq_zero_iff.1 wa;have ai:=Lk.2 this;exact⟨fr,eT,aZ,μ,h1,ab,al,⟨jG.os,jG.tape,jG.output⟩,VO rel jG,ai⟩
     |cons k l=>
      rw[dB]at he wa eK;cases he;obtain⟨x2,eK⟩:=eK;rcases eK with⟨_,h0⟩ |⟨g,cap,cur,ai,afZ,K2,aw,mQ,rC,rQ⟩
      ·rw[wa]at h0;cases h0
      ·have zN:g<aZ.heap.size:=by
        by_cases b6:g<aZ.heap.size
        ·exact b6
        ·rw[Array.getElem?_eq_none (by omega)]at K2;cases K2
       simp only[Nat.mul_one]at rC rQ;have wc:l.length+1<=cap:=by rw[wa]at aw;simpa using aw
       have MG:=aa' (o:=.cells (l.length+1) false [] (bu.ofList ((k::l).map (aa.int .i64)))) (room:=cap) rel (λb aj=>jG.block b aj) jG.size afZ zN
        ⟨cur,3,(0,0),K2,by simp[rC],wc,(λ_=>rfl),(λi _ af=>by simp at af),λi af=>by
         have fh:i<(k::l).length:=by simpa using af
         refine⟨.int .i64 ((k::l)[i]'fh),.int .i64 ((k::l)[i]'fh),?_,?_,rfl⟩
         ·show(bif Nat.blt i (l.length+1)then _ else none)=_;rw[dM.2 af,bu.xu,List.getElem?_map,List.getElem?_eq_getElem fh];rfl
         ·have fJ:(cur.toList.take ot.length)[i]? =((k::l).map encZ)[i]? :=by rw[rQ]
          rw[List.getElem?_take,if_pos (by rw[wa];exact fh),List.getElem?_map,List.getElem?_eq_getElem fh]at fJ
          simpa using fJ⟩
       refine⟨fr,eT,aZ,_,h1,ab,al,⟨jG.os,jG.tape,jG.output⟩,MG,?_⟩;refine⟨⟨g,0,cap⟩,⟨g,0,none⟩,cap,Map.iS _ _ _,?_,Nat.le_refl _,wc,(λe=>by cases e),λ_=>rfl,by simp⟩;rw[ai,wa];rfl
    ·cases he
   ·cases he
  ·cases he
 ·cases he
theorem WX{fs:List Fact}{σ:Nat->Int}(ok:dL Tryz.prog (env fs) σ) :vB Tryz.prog (env fs) σ qh:=
 Df (an3 ok) (Df (ah6 ok) (Df (ao_ ok) (Df (ais ok) anf)))
section
open Go.a8 Go.ChangeShapes Go.WideShapes Go.ChangeAt Go.RowKit Go.Deep
theorem own:ownKnob Tryz.prog.godebug=none:=by kernel_rfl
section
variable{H:Type}{enc:TypeId×Value->H}{P:Program}{w aZ:World}{base RU:Nat}{sp XY:Nat->Bool}{held cK:Bool}
noncomputable def o5 (P:Program) :Nat->TypeId->Bool
 |0,_=>false
 |d+1,t=>match P.underlying t with
  |some .bool=>true
  |some (.int _)=>true
  |some (.struct fs)=>fs.toList.all λf=>o5 P d f.type
  |_=>false
theorem VI{α β:Type}{f g:α->Option β} :∀{l:List α},(∀x,x∈l->f x=g x)->l.mapM f=l.mapM g
 |[],_=>rfl
 |x::l,h=>by rw[List.mapM_cons,List.mapM_cons,h x List.mem_cons_self,VI λy aq=>h y (List.mem_cons_of_mem _ aq)]
theorem YI:∀(d:Nat) (t:TypeId) (n:Nat) (cs:List Value),o5 P d t=true->DataW.trod enc P w base sp held n t cs=DataW.trod enc P aZ RU XY cK n t cs
 |0,t,n,cs,aI=>by cases aI
 |d+1,t,0,cs,aI=>by simp only[DataW.trod]
 |d+1,t,n+1,cs,aI=>by
  unfold o5 at aI;cases hu:P.underlying t with
  |none=>rw[hu]at aI;cases aI
  |some ty=>
   rw[hu]at aI;cases ty<;>first|(cases aI;done) |skip
   ·unfold DataW.trod;rw[hu];rcases cs with _|⟨c,_|⟨cp,r⟩⟩<;>first|rfl|(cases c<;>rfl)
   ·unfold DataW.trod;rw[hu];rcases cs with _|⟨c,_|⟨cp,r⟩⟩<;>first|rfl|(cases c<;>rfl)
   ·rename_i fs;have nv:∀f,f∈fs.toList->o5 P d f.type=true:=List.all_eq_true.1 aI;simp only[DataW.trod,hu];rw[VI λf aJ=>YI d f.type n ((cs.drop f.offset).take (P.cellsOf f.type)) (nv f aJ)]
theorem OC:∀{ts:List TypeId} {vs:List Value} {ds:List (DataW H)} {p:List MemPlace},(∀t,t∈ts->o5 P 3 t=true)->DataW.TrodAll enc P w base sp held ts vs ds p->DataW.TrodAll enc P aZ RU XY cK ts vs ds p
 |[],[],[],p,_,h=>h
 |t::ts,v::vs,d::ds,p,aW,⟨g',eA,⟨n,aw⟩,ab,e⟩=>
  ⟨g',eA,⟨n,by rw[<-YI (w:=w) (base:=base) (sp:=sp) (held:=held) 3 t n _ (aW t List.mem_cons_self)];exact aw⟩,OC (λu hu=>aW u (List.mem_cons_of_mem _ hu)) ab,e⟩
end
section
variable{H:Type}{enc:TypeId×Value->H}{P:Program}{w:World}{base:Nat}{sp:Nat->Bool}{held:Bool}
theorem WV:∀(d:Nat) (t:TypeId) (n:Nat) (cs:List Value) (x:DataW H×List MemPlace),o5 P d t=true->DataW.trod enc P w base sp held n t cs=some x->x.2=[]
 |0,t,n,cs,x,aI,_=>by cases aI
 |d+1,t,n,cs,x,aI,h=>by
  unfold o5 at aI;cases hu:P.underlying t with
  |none=>rw[hu]at aI;cases aI
  |some ty=>
   rw[hu]at aI;cases ty<;>first|(cases aI;done) |skip
   ·obtain⟨b,_,e⟩:=DataW.trod_bool hu h;rw[e]
   ·obtain⟨b,_,e,_⟩:=DataW.trod_int hu h;rw[e]
   ·rename_i fs;have nv:∀f,f∈fs.toList->o5 P d f.type=true:=List.all_eq_true.1 aI;obtain⟨xs,m,_,ag,_,hlen,aN⟩:=DataW.trod_struct hu h;rw[ag];show xs.flatMap (·.2)=[];rw[List.flatMap_eq_nil_iff];intro y aq;obtain⟨i,af,e⟩:=List.getElem_of_mem aq;have aJ:fs[i]? =some fs[i]:=Array.getElem?_eq_getElem (by omega);have h1:=aN i _ aJ;rw[List.getElem?_eq_getElem af,e]at h1;exact WV d _ m _ y (nv _ (by simp)) h1
theorem WU:∀{ts:List TypeId} {vs:List Value} {ds:List (DataW H)} {p:List MemPlace},(∀t,t∈ts->o5 P 3 t=true)->DataW.TrodAll enc P w base sp held ts vs ds p->p=[]
 |[],[],[],p,_,h=>h
 |t::ts,v::vs,d::ds,p,aW,⟨g',eA,⟨n,aw⟩,ab,e⟩=>by rw[e,WU (λu hu=>aW u (List.mem_cons_of_mem _ hu)) ab];have:=WV 3 t n _ _ (aW t List.mem_cons_self) aw;simpa using this
end
theorem Hp{H:Type}{enc:TypeId×Value->H}{P:Program}{f:Func}{s:ChangeSpec}{apart fresh handsOn again:Bool}{W j':World}{args:Array Value}{ds:List (DataW H)}{p:List MemPlace}{bt:TypeId}
  (h6:DataW.TrodAll enc P W 0 (λ_=>true) true f.params.toList args.toList ds p) (aI:∀t,t∈f.params.toList->o5 P 3 t=true) (aht:s.vars=[])
  (an:f.resultTypes= #[bt]) (vX:P.underlying bt=some .bool) (aA:((s.fn H (ds++[])).results=[.lit (.bool true)])/\(s.fn H (ds++[])).args=ds/\(s.fn H (ds++[])).vars=[]) (aj:Below W.heap.size W j') :
  s.post enc P f apart fresh handsOn again W args (.bool true) j':=by
 have fU:=WU aI h6;subst fU;have none:∀{w:World} {sp:Nat->Bool},DataW.TrodVars enc P w sp s.vars [] []:=by intro w sp;rw[aht];rfl
 have res:∀(b:Nat) (sp:Nat->Bool) (aC:Bool),DataW.TrodAll enc P j' b sp aC f.resultTypes.toList ((Value.bool true).resultList f.resultTypes.size) [.lit (.bool true)] []:=by intro b sp aC;rw[an];exact trodAll_cons_mk (shut_bool vX _) trodAll_mk0
 refine⟨ds,[],[],[],[],[],⟨[],[],h6,none,rfl,(by intro b off h;cases h),λ_=>List.nodup_nil⟩,?_,?_,?_,aj.frame _,λ_=>⟨?_,_,[],[],⟨[],[],trodAll_append (OC aI h6) (res 0 _ true),none,rfl,(by intro b off h;cases h),λ_=>List.nodup_nil⟩,λ_ h=>by cases h⟩⟩
 ·rw[aA.1];exact res _ _ _
 ·rw[aA.2.1];exact OC aI h6
 ·rw[aA.2.2];exact none
 ·intro j t r h1 ab;rw[an]at h1 ab
  match j,h1,ab with
  |0,h1,ab=>
   cases h1;cases ab;exact okWide_bool_mk vX _
  |j+1,h1,_=>simp at h1
abbrev lR:List (String×DataW Unit):=[("flyleaf/word.widths",Rows.laid_flyleaf_word_widths)]
theorem Tu:Tryz.prog.globalNamed "flyleaf/word.widths" =some 0:=by kernel_rfl
theorem apF:(Tryz.prog.globals[0]?).map (·.type)=some 255:=by kernel_rfl
theorem ed:Tryz.prog.cellsOf 3=1:=by kernel_rfl
theorem Sg:Tryz.prog.cellsOf 255=10:=by kernel_rfl
def kG:List Int:=[0,1,2,4,8,1,2,4,8,8]
theorem Fb(os:Os)(args:Array Value) :laidMetH Tryz.prog lR ((World.doorLaid Tryz.prog 400 os).forCall (λ_ _=>0) ⟨#[],args,[]⟩).memory:=
 laidMetH_of_parts3 (fuel:=8) (laidMet_of_run' 8 (by kernel_rfl) (by kernel_rfl)) (by kernel_rfl) (by kernel_rfl)
theorem amt{W:World}(h:laidMetH Tryz.prog lR W) :∃(c:Array Value) (t:TypeId),W.heap[0]? =some (.cells c t (0,0))/\∀(i:Nat) (n:Int),kG[i]? =some n->c[i]? =some (.int .i64 n):=by
 rw[MakeChecks.laidMetH_plain _ _ _ (by kernel_rfl)]at h;obtain⟨ps,⟨g0,t0,Fa,f0,Hk,Ax,afX,ahf,qD,afv,atv,Cz⟩,_,eK⟩:=h;obtain rfl:=Option.some.inj (Tu.symm.trans afX);obtain rfl:=Option.some.inj (apF.symm.trans ahf);obtain⟨xs,c5,rfl,ag,hlen,aw,afE⟩:=DataW.trod_array Tryz.underlying255 afv
 have mR:∀(i:Nat) (n:Int),kG[i]? =some n->Fa[i]? =some (.int .i64 n):=by
  intro i n af
  have FW:i<10:=by have:=(List.getElem?_eq_some_iff.1 af).1;simpa [kG]using this
  have h1:=afE i FW;rw[ed,Nat.mul_one]at h1;have Gq:i<xs.length:=by omega
  rw[List.getElem?_eq_getElem Gq]at h1;obtain⟨k,aG,aT,_⟩:=DataW.trod_int Tryz.underlying3 h1
  have av:k=n:=by
   have iJ:xs.map (·.1)=kG.map λn=>(DataW.lit (Lit.int .i64 n) :DataW Unit):=by have aG:(DataW.agg (xs.map (·.1)) :DataW Unit)=DataW.agg (kG.map λn=>(DataW.lit (Lit.int .i64 n) :DataW Unit)):=(Prod.mk.inj ag).1.symm;exact DataW.agg.inj aG
   have ab:(xs.map (·.1))[i]? =(kG.map λn=>(DataW.lit (Lit.int .i64 n) :DataW Unit))[i]? :=by rw[iJ]
   rw[List.getElem?_map,List.getElem?_map,af,List.getElem?_eq_getElem Gq,aT]at ab;simpa using ab
  subst av;rw[Sg]at hlen;have sZ:i<Fa.toList.length:=by omega
  rw[List.drop_eq_getElem_cons sZ]at aG;simp only[List.take_succ_cons,List.take_zero,List.cons.injEq,and_true]at aG;rw[<-Array.getElem?_toList,List.getElem?_eq_getElem sZ,aG]
 have eR:0<Fa.size:=by rw[Sg]at hlen;rw[<-Array.length_toList];omega
 obtain⟨⟨c,t,aH⟩,_⟩:=eK 0 0 (by
  rw[Cz];apply List.mem_append_left;apply List.mem_append_left;simp[MemPlace.row]
  exact eR)
 refine⟨c,t,aH,λi n af=> ?_⟩
 have fU:W.var? Tryz.prog "flyleaf/word.widths" =some c:=by simp only[World.var?,Tu,Option.bind_some,aH]
 have:c=Fa:=Option.some.inj (fU.symm.trans qD);subst this;exact mR i n af
def Pt:bu aa:=bu.ofList (kG.map (aa.int .i64))
def dB:ae:={next:=1,dS:=.node .nil (some (.ro 10 Pt)) .nil}
def qN(n:Nat) :a8.Map:=λid=>if id=0 then some ⟨0,0,n⟩else none
theorem A7(id:Nat)(o:bT)(h:dB.dS.get id=some o) :id=0/\o=.ro 10 Pt:=by
 have e:dB.dS.get id=if id=0 then some (.ro 10 Pt)else if id%2=1 then bu.nil.get (id/2)else bu.nil.get (id/2-1):=bu.sJ _ _ _ _
 rw[e]at h;by_cases h0:id=0
 ·rw[if_pos h0]at h;exact⟨h0,(Option.some.inj h).symm⟩
 ·rw[if_neg h0]at h;simp[bu.get_nil]at h
theorem anY{W:World}{c:Array Value}{t:TypeId}{σ:Nat->Int}(aH:W.heap[0]? =some (.cells c t (0,0)))(hw:∀(i:Nat) (n:Int),kG[i]? =some n->c[i]? =some (.int .i64 n)) :dU σ (qN c.size) dB W.heap where
 obj:=λid loc o hm bg=>by
  obtain⟨rfl,rfl⟩:=A7 id o bg;simp only[qN,if_true,Option.some.injEq]at hm;subst hm;have c6:=hw 9 8 rfl;have eR:9<c.size:=(Array.getElem?_eq_some_iff.1 c6).1;refine⟨rfl,c,t,(0,0),aH,by simp,by show 10<=c.size;omega,(λe=>by cases e),(λi _ af=>by simp at af),λi af=> ?_⟩;have fh:i<kG.length:=af;refine⟨.int .i64 kG[i],.int .i64 kG[i],?_,?_,rfl⟩
  ·show(bif Nat.blt i 10 then bu.get (bu.ofList (kG.map (aa.int .i64))) i else none)=_;rw[dM.2 af,bu.xu,List.getElem?_map,List.getElem?_eq_getElem fh];rfl
  ·have:=hw i kG[i] (List.getElem?_eq_getElem fh);simpa using this
 inj:=λi j l bQ af aO _ _ _=>by
  unfold qN at af aO;by_cases h1:i=0
  ·by_cases ab:j=0
   ·rw[h1,ab]
   ·rw[if_neg ab]at aO;cases aO
  ·rw[if_neg h1]at af;cases af
 lt:=λid loc hm=>by
  unfold qN at hm;by_cases h1:id=0
  ·rw[if_pos h1]at hm;cases hm;exact(Array.getElem?_eq_some_iff.1 aH).1
  ·rw[if_neg h1]at hm;cases hm
 hW:=λid hid=>by unfold qN;rw[if_neg];have:1<=id:=hid;omega
 k8:=λid hid=>by
  cases h:dB.dS.get id with
  |none=>rfl
  |some o=>
   obtain⟨rfl,_⟩:=A7 id o h;have:1<=0:=hid;omega
end
section
open Go
theorem GK:laidOutB Tryz.prog=true:=by kernel_rfl
theorem GV:mapsRowed Tryz.prog=true:=by kernel_rfl
def Ag(P:Program)(fn:Func)(s:ChangeSpec)(c:OpenClaim) :Bool:=
 fn.params.all (P.readableRec ·) &&namedTie P c.named s.vars&&
 (c.stops==[]) &&(c.knobs==[]) &&
 (c.maps==(fn.params.toList++s.plain.varTypes P).any (P.mapsRec ·)) &&(c.ifaces==(fn.params.toList++s.plain.varTypes P).any (P.ifacesRec ·)) &&(c.mapsOut==P.mapsAmong fn.resultTypes.toList) &&
 (c.loops==(fn.params.toList++s.plain.varTypes P).any (P.loopsFrom ·)) &&(c.wideKeys==(fn.params.toList++s.plain.varTypes P++fn.resultTypes.toList).any (P.wideKeysFrom ·)) &&
 s.vars.all (P.varReadable ·) &&fn.resultTypes.all (λt=>P.readableRec t&&decide (t<P.types.size)) &&(c.ifacesOut==fn.resultTypes.toList.any (P.ifacesRec ·)) &&(c.loopsOut==fn.resultTypes.toList.any (P.loopsFrom ·)) &&c.shortTexts.isNone&&(c.kinds==(if c.domain.isEmpty then[]else fn.params.toList.map λt=>match P.underlying t with|some (.int k)=>some k|_=>none)) &&(c.pinned==c.pinnedBy) &&
 (c.veiled==(fn.params.toList++s.plain.varTypes P++fn.resultTypes.toList).any (P.veiledRec ·)) &&c.veiledFits P fn.params.toList (fn.params.toList++s.plain.varTypes P++fn.resultTypes.toList)
theorem Gy{P:Program}{f:FuncId}{fn:Func}{s:ChangeSpec}{c:OpenClaim}
  (ab:laidOutB P=true) (al:mapsRowed P=true)
  (g1:(P.stops==[])=true) (g2:(P.stopKnobs==[])=true) (g3:(c.plainKeys==P.plainKeys)=true) (g4:P.stopsHeard=true) (g5:P.mayEnter=true) (g6:(c.lifted==P.liftsFinal)=true) (g7:(P.make==some c.make)=true)
  (h1:c.wf (OpenSpec.ofChange s)=true)
  (aE:(c.inPlace==P.inPlace f)=true) (aL:(c.unfollowed==P.unfollowed f)=true) (bm:(c.recurses==P.recurses f)=true)
  (cr:(c.named==P.varsNamed f)=true) (cz:Ag P fn s c=true) :joinedFacts P f fn s c=true:=by
 unfold Ag at cz;unfold joinedFacts;simp only[Bool.and_eq_true]at cz|-;simp only[h1,ab,al,aE,aL,bm,cr,g1,g2,g3,g4,g5,g6,g7,and_true,true_and];simp only[and_assoc]at cz|-;exact cz
end
end Go.Proofs.YtkdjcmpgnkecfaaGreatDoor
end
