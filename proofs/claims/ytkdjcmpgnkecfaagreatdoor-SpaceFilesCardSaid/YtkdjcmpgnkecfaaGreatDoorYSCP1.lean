/-
  Parts.
-/
import Derived.Test.YtkdjcmpgnkecfaaGreatDoorZ7
set_option linter.unusedVariables false
set_option linter.unusedSimpArgs false
set_option linter.unusedSectionVars false
set_option exponentiation.threshold 600
noncomputable section
namespace Go.Proofs.YtkdjcmpgnkecfaaGreatDoor
open Go.a8
@[simp] theorem aqe (h:ae) (id off:Nat) :ak J h 25 (.ptr id off)=bP h id off:=hS (i:=H7) (by kernel_rfl) rfl h id off
@[simp] theorem ap4 (id off:Nat) :aQ J 199 (.ptr id off) 0=some (.ptr id off):=by kernel_rfl
@[simp] theorem Oi (id off:Nat) :aQ J 199 (.ptr id off) 2=some (.ptr id (off+2)):=by kernel_rfl
theorem aqb{id off len cap n:Nat}{ex:Bool}(aw:n<len) :cZ J 25 (.slice id off len cap 1 ex) (.int .i64 n)=some (.ptr id (off+n)):=by have:=uE (E:=J) (t:=25) (i:=H7) (ie:=oz) (by kernel_rfl) rfl (by kernel_rfl) aw (id:=id) (off:=off) (cap:=cap) (ex:=ex);rwa[show off+n*oz.size=off+n by show off+n*1=_;omega]at this
@[simp] theorem aqr (h:ae) (a b:Nat) :ax J h .eql 43 (.ptr a b) .nilPtr=some (.bool false):=r5 (i:=OO) (by kernel_rfl) rfl h a b
section
variable{PV:cn} [cN PV]
section
variable{h:ae}{A:gw}{mem held:Nat->Nat}{free:Nat}
theorem G0(n:Nat)(aw:n<=1099511627776) :mn J 135 (.int .i64 (n:Nat)) (.int .i64 (n:Nat))=some (λid=>aa.slice id 0 n n 1 true,.bytes n false 0):=by
 have aG:J.ty 135=some nK:=by kernel_rfl
 have aT:J.ty 5=some m6:=by kernel_rfl
 unfold mn wx;rw[aG]
 show(match(match J.ty 5 with
  |some ie=>
   bif Nat.ble n n&&Nat.ble (ie.bytes*n) 140737488355328&&Nat.ble 1 ie.bytes then
    match jh ie.desc,ie.zero with
    |true,[.int .u8 (.ofNat 0)]=>some (n,n,ie.size,bT.bytes n false 0)
    |_,_=>some (n,n,ie.size,.cells (n*ie.size) false ie.zero .nil)
   else none
  |none=>none)with|some (l,c,sz,o)=>some ((λid=>aa.slice id 0 l c sz true),o) |none=>none)=_
 rw[aT];have h1:Nat.ble n n=true:=ec.2 (Nat.le_refl _);have ab:Nat.ble (m6.bytes*n) 140737488355328=true:=ec.2 (by show 1*n<=_;omega);simp only[h1,ab,Bool.true_and];rfl
end
end
theorem Oy(a:Int){b:Int}(aj:0<b) : -b<a.tmod b/\a.tmod b<b:=by
 by_cases h:0<=a
 ·rw[Int.tmod_eq_emod_of_nonneg h];exact⟨by have:=Int.emod_nonneg a (show b≠0 by omega);omega,Int.emod_lt_of_pos a aj⟩
 ·obtain⟨c,rfl⟩ :∃c,a= -c:=⟨-a,by omega⟩;rw[Int.neg_tmod,Int.tmod_eq_emod_of_nonneg (by omega)];have h1:=Int.emod_nonneg c (show b≠0 by omega);have ab:=Int.emod_lt_of_pos c aj;omega
theorem Hv(a:Int){b:Int}(aj:0<b)(pt:b<=1000000) :∃n:Nat,(n:Int) <b/\(b0 .i64 (a.tmod b+b)).tmod b=n:=by have h:=Oy a aj;rw[wrap_i64 (by omega) (by omega),Int.tmod_eq_emod_of_nonneg (by omega)];have h1:=Int.emod_nonneg (a.tmod b+b) (show b≠0 by omega);have ab:=Int.emod_lt_of_pos (a.tmod b+b) aj;exact⟨((a.tmod b+b) %b).toNat,by omega,by omega⟩
section
set_option maxRecDepth 100000
variable{PV:cn} [cN PV]
def Bt(a0 ao:aa)(C:bW)(h:ae) :Option a1:=U (ax J h .lss 3 ao (.int .i64 0)) λv1=>bq v1 (some (.ret,[(.str 0 0)],h)) (U (dw J h 9 a0) λv2=>U (ax J h .geq 3 v2 ao) λv3=>bq v3 (U (iv J h 9 a0 none (some ao) none) λv4=>some (.ret,[v4],h)) (U (dw J h 9 a0) λv5=>U (ax J h .sub 3 ao v5) λv6=>ca (mn J 135 v6 v6) h λbl h1=>U (gB J h1 135 9 bl) λbA=>U (ax J h1 .add 9 a0 bA) λv9=>some (.ret,[v9],h1)))
theorem Me{a0 ao:aa} :LT PV 54 [a0,ao] (Bt a0 ao):=
 cc (f:=Tryz.f54) (.seq (.ah []) (.seq (.seq (.ah []) (.cond (.seq (.ah []) .leaf) .leaf)) (.seq (.seq (.ah []) (.cond (.seq (.ah []) .leaf) .leaf)) (.seq (.ah []) .leaf)))) (by kernel_rfl) (b' rfl (by kernel_rfl)) λ_ _=>by kernel_rfl
end
end Go.Proofs.YtkdjcmpgnkecfaaGreatDoor
end
