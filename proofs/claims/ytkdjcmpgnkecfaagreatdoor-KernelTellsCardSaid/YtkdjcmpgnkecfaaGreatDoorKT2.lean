/-
  KernelTells: its runs, pid case 2.
-/
import Derived.Test.YtkdjcmpgnkecfaaGreatDoorKTA
noncomputable section
namespace Go.Proofs.YtkdjcmpgnkecfaaGreatDoor.kernelTells
open Go.Proofs.YtkdjcmpgnkecfaaGreatDoor Go.Ev
theorem r2_1 : run fp2 (.int .i64 1) = some (.bool true) := by kernel_rfl
theorem r2_2 : run fp2 (.int .i64 2) = some (.bool true) := by kernel_rfl
theorem r2_3 : run fp2 (.int .i64 3) = some (.bool true) := by kernel_rfl
theorem r2_4 : run fp2 (.int .i64 4) = some (.bool true) := by kernel_rfl
theorem r2_5 : run fp2 (.int .i64 5) = some (.bool true) := by kernel_rfl
theorem r2_6 : run fp2 (.int .i64 6) = some (.bool true) := by kernel_rfl
theorem r2_7 : run fp2 (.int .i64 7) = some (.bool true) := by kernel_rfl
theorem r2_8 : run fp2 (.int .i64 8) = some (.bool true) := by kernel_rfl
theorem r2_9 : run fp2 (.int .i64 9) = some (.bool true) := by kernel_rfl
theorem r2_10 : run fp2 (.int .i64 10) = some (.bool true) := by kernel_rfl
theorem r2_11 : run fp2 (.int .i64 11) = some (.bool true) := by kernel_rfl
theorem u2_1 : run (fo1 ++ fp2) (.sym .i64 0) = some (.bool true) := by kernel_rfl
theorem u2_2 : run (fo2 ++ fp2) (.sym .i64 0) = some (.bool true) := by kernel_rfl
end Go.Proofs.YtkdjcmpgnkecfaaGreatDoor.kernelTells
