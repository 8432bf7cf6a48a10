/-
  KernelTells: its runs, pid case 1.
-/
import Derived.Test.YtkdjcmpgnkecfaaGreatDoorKTA
noncomputable section
namespace Go.Proofs.YtkdjcmpgnkecfaaGreatDoor.kernelTells
open Go.Proofs.YtkdjcmpgnkecfaaGreatDoor Go.Ev
theorem r1_1 : run fp1 (.int .i64 1) = some (.bool true) := by kernel_rfl
theorem r1_2 : run fp1 (.int .i64 2) = some (.bool true) := by kernel_rfl
theorem r1_3 : run fp1 (.int .i64 3) = some (.bool true) := by kernel_rfl
theorem r1_4 : run fp1 (.int .i64 4) = some (.bool true) := by kernel_rfl
theorem r1_5 : run fp1 (.int .i64 5) = some (.bool true) := by kernel_rfl
theorem r1_6 : run fp1 (.int .i64 6) = some (.bool true) := by kernel_rfl
theorem r1_7 : run fp1 (.int .i64 7) = some (.bool true) := by kernel_rfl
theorem r1_8 : run fp1 (.int .i64 8) = some (.bool true) := by kernel_rfl
theorem r1_9 : run fp1 (.int .i64 9) = some (.bool true) := by kernel_rfl
theorem r1_10 : run fp1 (.int .i64 10) = some (.bool true) := by kernel_rfl
theorem r1_11 : run fp1 (.int .i64 11) = some (.bool true) := by kernel_rfl
theorem u1_1 : run (fo1 ++ fp1) (.sym .i64 0) = some (.bool true) := by kernel_rfl
theorem u1_2 : run (fo2 ++ fp1) (.sym .i64 0) = some (.bool true) := by kernel_rfl
end Go.Proofs.YtkdjcmpgnkecfaaGreatDoor.kernelTells
