/-
  Texts SDF, joined; own names made short.
-/
import Derived.Test.YtkdjcmpgnkecfaaGreatDoorYSDP1
set_option linter.unusedVariables false
set_option linter.unusedSimpArgs false
set_option linter.unusedSectionVars false
set_option exponentiation.threshold 600
noncomputable section
namespace Go.Proofs.YtkdjcmpgnkecfaaGreatDoor.spaceSwaps
open Go.Proofs.YtkdjcmpgnkecfaaGreatDoor
theorem ao:Rows.spaceSwapsRow.wf (OpenSpec.ofChange Rows.spaceSwapsSpec)=true:=by kernel_rfl
theorem a4:(Rows.spaceSwapsRow.inPlace==Tryz.prog.inPlace 7)=true:=by kernel_rfl
theorem a5:(Rows.spaceSwapsRow.unfollowed==Tryz.prog.unfollowed 7)=true:=by kernel_rfl
theorem hZ:(Rows.spaceSwapsRow.recurses==Tryz.prog.recurses 7)=true:=by kernel_rfl
theorem ri:(Rows.spaceSwapsRow.named==Tryz.prog.varsNamed 7)=true:=by kernel_rfl
theorem w':Ag Tryz.prog Tryz.f7 Rows.spaceSwapsSpec Rows.spaceSwapsRow=true:=by kernel_rfl
theorem a9:Rows.spaceSwapsRow.wfByText (OpenSpec.ofChange Rows.spaceSwapsSpec)=true:=by kernel_rfl
theorem w9:false=Rows.spaceSwapsRow.goesBy Tryz.prog:=FD rfl
theorem rh:Tryz.prog.funcNamed "flyleaf/flyleaflaw19.SpaceSwaps" =some 7:=by kernel_rfl
theorem closed:joinedFacts Tryz.prog 7 Tryz.f7 Rows.spaceSwapsSpec Rows.spaceSwapsRow=true:=Gy GK GV g1 g2 g3 g4 g5 g6 g7 ao a4 a5 hZ ri w'
end Go.Proofs.YtkdjcmpgnkecfaaGreatDoor.spaceSwaps
end
