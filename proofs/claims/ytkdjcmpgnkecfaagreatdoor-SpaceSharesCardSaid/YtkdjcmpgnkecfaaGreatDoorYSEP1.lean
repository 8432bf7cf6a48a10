/-
  Parts.
-/
import Derived.Test.YtkdjcmpgnkecfaaGreatDoorZ7
set_option linter.all false
set_option exponentiation.threshold 600
noncomputable section
namespace Go.Proofs.YtkdjcmpgnkecfaaGreatDoor
open Go.a8
section
set_option maxRecDepth 100000
variable{PV:cn} [cN PV]
def PN(a0:aa)(C:bW)(h:ae) :Option a1:=U (ax J h .eql 153 a0 .nilPtr) λv1=>bq v1 (some (.ret,[(.int .i64 0)],h)) (U (bB a0) λv2=>U (aQ J 295 v2 3) λv3=>U (ak J h 293 v3) λv4=>U (dw J h 293 v4) λv5=>some (.ret,[v5],h))
theorem aiU{a0:aa} :LT PV 106 [a0] (PN a0):=
 cc (f:=Tryz.f106) (hF (.seq (hF (.cond (hF .leaf) .leaf)) (hF .leaf))) (by kernel_rfl) (b' rfl (by kernel_rfl)) λ_ _=>by kernel_rfl
end
section
variable{PV:cn} [cN PV]
section
variable{h g:ae}{X:ew}{ρ bD:Nat->Nat}{σ:b8}{ring:List dj}{hand:Nat}
theorem acB(k:Core h X ρ σ) :call J PV (.func 106 [] []) [.ptr X.k 0] h=some (.int .i64 (σ.ring.length:Nat),h):=by obtain⟨rv,hits,fills,os,hK,ex,dO⟩:=k.dX.str;refine aiU (x:=.ret) (vs:=[.int .i64 (σ.ring.length:Nat)]) (first:=[]) (cap:=[]) ?_ rfl;have ay:=hK.len (T:=293) (si:=q3) (by kernel_rfl) rfl;rw[List.length_map,List.length_map]at ay;simp only[PN,A5,ar,ba,Bool.false_eq_true,if_false,cl,wX,Nat.zero_add,wY,Obj.get os (i:=3) rfl,ay]
end
end
section
set_option maxRecDepth 100000
variable{PV:cn} [cN PV]
def Br(a0:aa)(C:bW)(h:ae) :Option a1:=U (ax J h .eql 42 a0 .nilPtr) λv1=>bq v1 (some (.ret,[(.int .i64 0)],h)) (U (bB a0) λv2=>U (aQ J 156 v2 0) λv3=>U (ak J h 152 v3) λv4=>a7 (C (.func 80 [] []) [v4] h) λv5 h1=>some (.ret,[v5],h1))
theorem Mb{a0:aa} :LT PV 36 [a0] (Br a0):=
 cc (f:=Tryz.f36) (hF (.seq (hF (.cond (hF .leaf) .leaf)) (hF .leaf))) (by kernel_rfl) (b' rfl (by kernel_rfl)) λ_ _=>by kernel_rfl
def Q'(a0:aa)(C:bW)(h:ae) :Option a1:=U (ax J h .eql 42 a0 .nilPtr) λv1=>bq v1 (some (.ret,[(.int .i64 0)],h)) (U (bB a0) λv2=>U (aQ J 156 v2 2) λv3=>U (ak J h 153 v3) λv4=>a7 (C (.func 106 [] []) [v4] h) λv5 h1=>some (.ret,[v5],h1))
theorem akh{a0:aa} :LT PV 42 [a0] (Q' a0):=
 cc (f:=Tryz.f42) (hF (.seq (hF (.cond (hF .leaf) .leaf)) (hF .leaf))) (by kernel_rfl) (b' rfl (by kernel_rfl)) λ_ _=>by kernel_rfl
end
section
variable{PV:cn} [cN PV]
section
variable{h g:ae}{X:ew}{ρ bD:Nat->Nat}{σ aR:b8}
theorem C6(k:Sys h X ρ σ) :call J PV (.func 36 [] []) [.ptr X.M 0] h=some (.int .i64 σ.free,h):=by refine Mb (x:=.ret) (vs:=[.int .i64 σ.free]) (first:=[]) (cap:=[]) ?_ rfl;simp only[Br,p4,ar,ba,Bool.false_eq_true,if_false,cl,k7,ha,k.field.1,zz k.core.ps.p,c3]
theorem ak8(k:Sys h X ρ σ) :call J PV (.func 42 [] []) [.ptr X.M 0] h=some (.int .i64 (σ.ring.length:Nat),h):=by refine akh (x:=.ret) (vs:=[.int .i64 (σ.ring.length:Nat)]) (first:=[]) (cap:=[]) ?_ rfl;simp only[Q',p4,ar,ba,Bool.false_eq_true,if_false,cl,DH,Nat.zero_add,o7,k.field.2.2.1,acB k.core,c3]
end
end
theorem Oy(a:Int){b:Int}(aj:0<b) : -b<a.tmod b/\a.tmod b<b:=by
 by_cases h:0<=a
 ·rw[Int.tmod_eq_emod_of_nonneg h];exact⟨by have:=Int.emod_nonneg a (show b≠0 by omega);omega,Int.emod_lt_of_pos a aj⟩
 ·obtain⟨c,rfl⟩ :∃c,a= -c:=⟨-a,by omega⟩;rw[Int.neg_tmod,Int.tmod_eq_emod_of_nonneg (by omega)];have h1:=Int.emod_nonneg c (show b≠0 by omega);have ab:=Int.emod_lt_of_pos c aj;omega
theorem Hv(a:Int){b:Int}(aj:0<b)(pt:b<=1000000) :∃n:Nat,(n:Int) <b/\(b0 .i64 (a.tmod b+b)).tmod b=n:=by have h:=Oy a aj;rw[wrap_i64 (by omega) (by omega),Int.tmod_eq_emod_of_nonneg (by omega)];have h1:=Int.emod_nonneg (a.tmod b+b) (show b≠0 by omega);have ab:=Int.emod_lt_of_pos (a.tmod b+b) aj;exact⟨((a.tmod b+b) %b).toNat,by omega,by omega⟩
theorem I'(a:Int){m:Nat}(hm:m<=1000) :∃n:Nat,n<=m/\jb .i64 a m=n:=by
 have hle:(BitVec.ofInt 64 a&&&BitVec.ofInt 64 (m:Int)).toNat<=m:=by rw[BitVec.toNat_and];refine Nat.le_trans Nat.and_le_right ?_;rw[BitVec.ofInt_natCast,BitVec.toNat_ofNat];exact Nat.mod_le _ _
 refine⟨_,hle,?_⟩;show IntKind.i64.wrap (((BitVec.ofInt 64 a&&&BitVec.ofInt 64 (m:Int)).toNat:Nat) :Int)=_;generalize (BitVec.ofInt 64 a&&&BitVec.ofInt 64 (m:Int)).toNat=n at hle;have h:=wrap_i64 (n:=(n:Int)) (by omega) (by omega);rw[m_]at h;exact h
def lW(c:df)(r:aU) :Nat->Option Nat:=λp=>if r.has p then some (base c r p)else none
section
variable{h g:ae}{X:ew}{c:df}{ρ bD:Nat->Nat}{σ aR:b8}{PV:cn} [cN PV]
theorem JL{σ:b8}{x:bH}{r:aU}(dB:x.L=[r])(aP:∀p,x.T.ent p=.zero) :cont c σ x=lW c r:=funext λp=>by
 rw[zm (aP p)];unfold zg lW;rw[dB,AG];by_cases aD:r.has p=true
 ·rw[if_pos aD,if_pos aD];rfl
 ·rw[if_neg aD,if_neg aD];rfl
theorem GU(k:Good h X c ρ σ (λ_=>0) (λ_=>0))(e1:∀s p,¬c.loose s p){a b:List (Nat×List aU×(Nat->Option Nat))}{s:Nat}{f:Nat->Option Nat}(ai:view c σ=a++(s,[],f)::b){r:aU}(hm:r.may=true) :
  bh (call J PV (.func 31 [] []) [.ptr s 0,.agg r.vs] h) λv g=>v=.int .i64 0/\bX ρ h g/\∃aR bD,(∀i,i<h.next->bD i=ρ i)/\Good g X c bD aR (λ_=>0) (λ_=>0)/\view c aR=a++(s,[r],lW c r)::b/\aR.free=σ.free/\aR.ring=σ.ring/\aR.used=σ.used/\∀y,y∈aR.au->y.s=s->∀p,y.T.ent p=.zero:=by
 unfold view at ai;obtain⟨A,aaU,aA,rfl,sM⟩:=List.map_eq_append_iff.1 ai;obtain⟨x,B,rfl,ag,rfl⟩:=List.map_eq_cons_iff.1 sM;simp only[Prod.mk.injEq]at ag;obtain⟨rfl,dB,aJ⟩:=ag;have gL:x∈σ.au:=by rw[aA];simp
 have aP:∀p,x.T.ent p=.zero:=λp=>Classical.byContradiction λaw=>by
  rcases k.inv.mL x p gL aw with h1|h1
  ·rw[dB]at h1;exact h1 rfl
  ·exact e1 _ _ h1
 refine bh.mono (GS k e1 aA r) ?_;rintro v g ⟨w,⟨hk,_⟩ |⟨_,⟨y,aq,_⟩,_⟩ |⟨_,_,rfl,oB,an,c7⟩⟩
 ·rw[hm]at hk;cases hk
 ·rw[dB]at aq;cases aq
 ·refine⟨rfl,w,_,oB,an,c7,?_,rfl,rfl,rfl,λy aq e=>by
   obtain rfl:=c7.iP aq (List.mem_append_right _ List.mem_cons_self) e
   exact aP⟩
  have aG:(iK r x.L).foldl e9 []=[r]:=by rw[dB];exact LU r (nE hm).2.1
  unfold view;simp only[aG,List.map_append,List.map_cons];rw[JL (x:={x with L:=[r]}) rfl aP];rfl
end
end Go.Proofs.YtkdjcmpgnkecfaaGreatDoor
end
