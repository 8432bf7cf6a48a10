/-
  Texts SBF, joined; own names made short.
-/
import Derived.Test.YtkdjcmpgnkecfaaGreatDoorYSBP1
set_option linter.unusedVariables false
set_option linter.unusedSimpArgs false
set_option linter.unusedSectionVars false
set_option exponentiation.threshold 600
noncomputable section
namespace Go.Proofs.YtkdjcmpgnkecfaaGreatDoor.spaceMakes
open Go.Proofs.YtkdjcmpgnkecfaaGreatDoor
theorem ao:Rows.spaceMakesRow.wf (OpenSpec.ofChange Rows.spaceMakesSpec)=true:=by kernel_rfl
theorem a4:(Rows.spaceMakesRow.inPlace==Tryz.prog.inPlace 10)=true:=by kernel_rfl
theorem a5:(Rows.spaceMakesRow.unfollowed==Tryz.prog.unfollowed 10)=true:=by kernel_rfl
theorem hZ:(Rows.spaceMakesRow.recurses==Tryz.prog.recurses 10)=true:=by kernel_rfl
theorem ri:(Rows.spaceMakesRow.named==Tryz.prog.varsNamed 10)=true:=by kernel_rfl
theorem w':Ag Tryz.prog Tryz.f10 Rows.spaceMakesSpec Rows.spaceMakesRow=true:=by kernel_rfl
theorem a9:Rows.spaceMakesRow.wfByText (OpenSpec.ofChange Rows.spaceMakesSpec)=true:=by kernel_rfl
theorem w9:false=Rows.spaceMakesRow.goesBy Tryz.prog:=FD rfl
theorem rh:Tryz.prog.funcNamed "flyleaf/flyleaflaw19.SpaceMakes" =some 10:=by kernel_rfl
theorem closed:joinedFacts Tryz.prog 10 Tryz.f10 Rows.spaceMakesSpec Rows.spaceMakesRow=true:=Gy GK GV g1 g2 g3 g4 g5 g6 g7 ao a4 a5 hZ ri w'
end Go.Proofs.YtkdjcmpgnkecfaaGreatDoor.spaceMakes
end
