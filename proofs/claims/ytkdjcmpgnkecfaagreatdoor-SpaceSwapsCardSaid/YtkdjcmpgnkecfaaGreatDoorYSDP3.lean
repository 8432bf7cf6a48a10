/-
  Texts M8, joined; own names made short.
-/
import Derived.Test.YtkdjcmpgnkecfaaGreatDoorYSDP2
set_option linter.unusedVariables false
set_option linter.unusedSimpArgs false
set_option linter.unusedSectionVars false
set_option exponentiation.threshold 600
noncomputable section
namespace Go.Proofs.YtkdjcmpgnkecfaaGreatDoor
open Go.a8
def hF(n:Nat) :Prop:=(yg (Dr hA (n:Nat) 64)).map (λq=>(q.2.2.2.A.n,q.2.2.2.R.c1,rq q.2.2.2.F.cb))=some (n,64,7)
theorem ala:hF 16:=by unfold hF;kernel_rfl
theorem alb:hF 17:=by unfold hF;kernel_rfl
theorem alc:hF 18:=by unfold hF;kernel_rfl
theorem ald:hF 19:=by unfold hF;kernel_rfl
theorem ale:hF 20:=by unfold hF;kernel_rfl
theorem alf:hF 21:=by unfold hF;kernel_rfl
theorem alg:hF 22:=by unfold hF;kernel_rfl
theorem alh:hF 23:=by unfold hF;kernel_rfl
theorem ali:hF 24:=by unfold hF;kernel_rfl
theorem alj:hF 25:=by unfold hF;kernel_rfl
theorem alk:hF 26:=by unfold hF;kernel_rfl
theorem alm:hF 27:=by unfold hF;kernel_rfl
theorem aln:hF 28:=by unfold hF;kernel_rfl
theorem alo:hF 29:=by unfold hF;kernel_rfl
theorem alp:hF 30:=by unfold hF;kernel_rfl
theorem alq:hF 31:=by unfold hF;kernel_rfl
theorem alr{k:Nat}(av:k<=15) :hF (16+k):=by
 have:k=0\/k=1\/k=2\/k=3\/k=4\/k=5\/k=6\/k=7\/k=8\/k=9\/k=10\/k=11\/k=12\/k=13\/k=14\/k=15:=by omega
 rcases this with rfl|rfl|rfl|rfl|rfl|rfl|rfl|rfl|rfl|rfl|rfl|rfl|rfl|rfl|rfl|rfl
 ·exact ala
 ·exact alb
 ·exact alc
 ·exact ald
 ·exact ale
 ·exact alf
 ·exact alg
 ·exact alh
 ·exact ali
 ·exact alj
 ·exact alk
 ·exact alm
 ·exact aln
 ·exact alo
 ·exact alp
 ·exact alq
end Go.Proofs.YtkdjcmpgnkecfaaGreatDoor
end
