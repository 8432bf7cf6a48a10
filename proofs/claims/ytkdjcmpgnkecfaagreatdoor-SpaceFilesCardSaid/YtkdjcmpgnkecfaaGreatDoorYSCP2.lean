/-
  Parts.
-/
import Derived.Test.YtkdjcmpgnkecfaaGreatDoorYSCP1
noncomputable section
namespace Go.Proofs.YtkdjcmpgnkecfaaGreatDoor.spaceFiles
open Go.Proofs.YtkdjcmpgnkecfaaGreatDoor
theorem ao:Rows.spaceFilesRow.wf (OpenSpec.ofChange Rows.spaceFilesSpec)=true:=by kernel_rfl
theorem a4:(Rows.spaceFilesRow.inPlace==Tryz.prog.inPlace 4)=true:=by kernel_rfl
theorem a5:(Rows.spaceFilesRow.unfollowed==Tryz.prog.unfollowed 4)=true:=by kernel_rfl
theorem hZ:(Rows.spaceFilesRow.recurses==Tryz.prog.recurses 4)=true:=by kernel_rfl
theorem ri:(Rows.spaceFilesRow.named==Tryz.prog.varsNamed 4)=true:=by kernel_rfl
theorem w':Ag Tryz.prog Tryz.f4 Rows.spaceFilesSpec Rows.spaceFilesRow=true:=by kernel_rfl
theorem a9:Rows.spaceFilesRow.wfByText (OpenSpec.ofChange Rows.spaceFilesSpec)=true:=by kernel_rfl
theorem w9:false=Rows.spaceFilesRow.goesBy Tryz.prog:=FD rfl
theorem rh:Tryz.prog.funcNamed "flyleaf/flyleaflaw19.SpaceFiles" =some 4:=by kernel_rfl
theorem closed:joinedFacts Tryz.prog 4 Tryz.f4 Rows.spaceFilesSpec Rows.spaceFilesRow=true:=Gy GK GV g1 g2 g3 g4 g5 g6 g7 ao a4 a5 hZ ri w'
end Go.Proofs.YtkdjcmpgnkecfaaGreatDoor.spaceFiles
end
