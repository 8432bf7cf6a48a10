/-
  KernelNil: the closed facts of its row.
-/
import Derived.Test.YtkdjcmpgnkecfaaGreatDoorJ2
noncomputable section
namespace Go.Proofs.YtkdjcmpgnkecfaaGreatDoor.kernelNil
open Go.Proofs.YtkdjcmpgnkecfaaGreatDoor
theorem a1 : Rows.kernelNilRow.wf (OpenSpec.ofChange Rows.kernelNilSpec) = true := by kernel_rfl
theorem a4 : (Rows.kernelNilRow.inPlace == Tryz.prog.inPlace 19) = true := by kernel_rfl
theorem a5 : (Rows.kernelNilRow.unfollowed == Tryz.prog.unfollowed 19) = true := by kernel_rfl
theorem a6 : (Rows.kernelNilRow.recurses == Tryz.prog.recurses 19) = true := by kernel_rfl
theorem a7 : (Rows.kernelNilRow.named == Tryz.prog.varsNamed 19) = true := by kernel_rfl
theorem a8 : lightFacts Tryz.prog Tryz.f19 Rows.kernelNilSpec Rows.kernelNilRow = true := by kernel_rfl
theorem a9 : Rows.kernelNilRow.wfByText (OpenSpec.ofChange Rows.kernelNilSpec) = true := by kernel_rfl
theorem a10 : false = Rows.kernelNilRow.goesBy Tryz.prog := goes_none rfl
theorem a11 : Tryz.prog.funcNamed "flyleaf/flyleaflaw21.KernelNil" = some 19 := by kernel_rfl
theorem closed : joinedFacts Tryz.prog 19 Tryz.f19 Rows.kernelNilSpec Rows.kernelNilRow = true := joined_of laid_out maps_rowed g1 g2 g3 g4 g5 g6 g7 a1 a4 a5 a6 a7 a8
end Go.Proofs.YtkdjcmpgnkecfaaGreatDoor.kernelNil
