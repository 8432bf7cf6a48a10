/-
  Texts J2, joined; own names made short.
-/
import Derived.Test.YtkdjcmpgnkecfaaGreatDoorZ3
set_option linter.unusedVariables false
set_option linter.unusedSimpArgs false
set_option linter.unusedSectionVars false
set_option exponentiation.threshold 600
noncomputable section
namespace Go.Proofs.YtkdjcmpgnkecfaaGreatDoor
open Go
theorem afw:Tryz.prog.funcs.any Func.goes=false:=by kernel_rfl
theorem Y4{c:OpenClaim}(au:c.start=.entering) :false=c.goesBy Tryz.prog:=by
 have h:=afw
 have bg:∀g:Nat,(Tryz.prog.funcs[g]?).any Func.goes=false:=by
  intro g;cases aE:Tryz.prog.funcs[g]? with
  |none=>rfl
  |some fn=>
   have:=Array.any_eq_false.1 h g (Array.getElem?_eq_some_iff.1 aE).1;rw[(Array.getElem?_eq_some_iff.1 aE).2]at this;simpa using this
 have aa:∀f:FuncId,Tryz.prog.goes f=false:=by intro f;unfold Program.goes;rw[h,Bool.and_false,Bool.or_false,List.any_eq_false];intro g _;rw[bg g];simp
 unfold OpenClaim.goesBy Program.goesAt Program.goesFrom;rw[au];cases Tryz.prog.funcNamed c.func with
 |none=>rfl
 |some f=>simp[aa f]
end Go.Proofs.YtkdjcmpgnkecfaaGreatDoor
end
