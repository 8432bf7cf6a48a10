/-
  KernelTells: the closed facts of its row.
-/
import Derived.Test.YtkdjcmpgnkecfaaGreatDoorJ2
noncomputable section
namespace Go.Proofs.YtkdjcmpgnkecfaaGreatDoor.kernelTells
open Go.Proofs.YtkdjcmpgnkecfaaGreatDoor
theorem a1 : Rows.kernelTellsRow.wf (OpenSpec.ofChange Rows.kernelTellsSpec) = true := by kernel_rfl
theorem a4 : (Rows.kernelTellsRow.inPlace == Tryz.prog.inPlace 13) = true := by kernel_rfl
theorem a5 : (Rows.kernelTellsRow.unfollowed == Tryz.prog.unfollowed 13) = true := by kernel_rfl
theorem a6 : (Rows.kernelTellsRow.recurses == Tryz.prog.recurses 13) = true := by kernel_rfl
theorem a7 : (Rows.kernelTellsRow.named == Tryz.prog.varsNamed 13) = true := by kernel_rfl
theorem a8 : lightFacts Tryz.prog Tryz.f13 Rows.kernelTellsSpec Rows.kernelTellsRow = true := by kernel_rfl
theorem a9 : Rows.kernelTellsRow.wfByText (OpenSpec.ofChange Rows.kernelTellsSpec) = true := by kernel_rfl
theorem a10 : false = Rows.kernelTellsRow.goesBy Tryz.prog := goes_none rfl
theorem a11 : Tryz.prog.funcNamed "flyleaf/flyleaflaw21.KernelTells" = some 13 := by kernel_rfl
theorem closed : joinedFacts Tryz.prog 13 Tryz.f13 Rows.kernelTellsSpec Rows.kernelTellsRow = true := joined_of laid_out maps_rowed g1 g2 g3 g4 g5 g6 g7 a1 a4 a5 a6 a7 a8
end Go.Proofs.YtkdjcmpgnkecfaaGreatDoor.kernelTells
