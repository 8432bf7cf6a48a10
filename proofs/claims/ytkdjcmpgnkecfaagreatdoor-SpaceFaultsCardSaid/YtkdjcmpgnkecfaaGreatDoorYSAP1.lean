/-
  Texts SAF, joined; own names made short.
-/
import Derived.Test.YtkdjcmpgnkecfaaGreatDoorZ7
set_option linter.unusedVariables false
set_option linter.unusedSimpArgs false
set_option linter.unusedSectionVars false
set_option exponentiation.threshold 600
noncomputable section
namespace Go.Proofs.YtkdjcmpgnkecfaaGreatDoor.spaceFaults
open Go.Proofs.YtkdjcmpgnkecfaaGreatDoor
theorem ao:Rows.spaceFaultsRow.wf (OpenSpec.ofChange Rows.spaceFaultsSpec)=true:=by kernel_rfl
theorem a4:(Rows.spaceFaultsRow.inPlace==Tryz.prog.inPlace 5)=true:=by kernel_rfl
theorem a5:(Rows.spaceFaultsRow.unfollowed==Tryz.prog.unfollowed 5)=true:=by kernel_rfl
theorem hZ:(Rows.spaceFaultsRow.recurses==Tryz.prog.recurses 5)=true:=by kernel_rfl
theorem ri:(Rows.spaceFaultsRow.named==Tryz.prog.varsNamed 5)=true:=by kernel_rfl
theorem w':Ag Tryz.prog Tryz.f5 Rows.spaceFaultsSpec Rows.spaceFaultsRow=true:=by kernel_rfl
theorem a9:Rows.spaceFaultsRow.wfByText (OpenSpec.ofChange Rows.spaceFaultsSpec)=true:=by kernel_rfl
theorem w9:false=Rows.spaceFaultsRow.goesBy Tryz.prog:=FD rfl
theorem rh:Tryz.prog.funcNamed "flyleaf/flyleaflaw19.SpaceFaults" =some 5:=by kernel_rfl
theorem closed:joinedFacts Tryz.prog 5 Tryz.f5 Rows.spaceFaultsSpec Rows.spaceFaultsRow=true:=Gy GK GV g1 g2 g3 g4 g5 g6 g7 ao a4 a5 hZ ri w'
end Go.Proofs.YtkdjcmpgnkecfaaGreatDoor.spaceFaults
end
