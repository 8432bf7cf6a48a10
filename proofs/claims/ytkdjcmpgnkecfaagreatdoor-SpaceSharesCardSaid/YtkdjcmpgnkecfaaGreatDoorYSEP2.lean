/-
  Parts.
-/
import Derived.Test.YtkdjcmpgnkecfaaGreatDoorYSEP1
noncomputable section
namespace Go.Proofs.YtkdjcmpgnkecfaaGreatDoor.spaceShares
open Go.Proofs.YtkdjcmpgnkecfaaGreatDoor
theorem ao:Rows.spaceSharesRow.wf (OpenSpec.ofChange Rows.spaceSharesSpec)=true:=by kernel_rfl
theorem a4:(Rows.spaceSharesRow.inPlace==Tryz.prog.inPlace 8)=true:=by kernel_rfl
theorem a5:(Rows.spaceSharesRow.unfollowed==Tryz.prog.unfollowed 8)=true:=by kernel_rfl
theorem hZ:(Rows.spaceSharesRow.recurses==Tryz.prog.recurses 8)=true:=by kernel_rfl
theorem ri:(Rows.spaceSharesRow.named==Tryz.prog.varsNamed 8)=true:=by kernel_rfl
theorem w':Ag Tryz.prog Tryz.f8 Rows.spaceSharesSpec Rows.spaceSharesRow=true:=by kernel_rfl
theorem a9:Rows.spaceSharesRow.wfByText (OpenSpec.ofChange Rows.spaceSharesSpec)=true:=by kernel_rfl
theorem w9:false=Rows.spaceSharesRow.goesBy Tryz.prog:=FD rfl
theorem rh:Tryz.prog.funcNamed "flyleaf/flyleaflaw19.SpaceShares" =some 8:=by kernel_rfl
theorem closed:joinedFacts Tryz.prog 8 Tryz.f8 Rows.spaceSharesSpec Rows.spaceSharesRow=true:=Gy GK GV g1 g2 g3 g4 g5 g6 g7 ao a4 a5 hZ ri w'
end Go.Proofs.YtkdjcmpgnkecfaaGreatDoor.spaceShares
end
