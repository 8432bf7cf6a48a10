/-
  KernelTells: its runs, pid case 3.
-/
import Derived.Test.YtkdjcmpgnkecfaaGreatDoorKTA
noncomputable section
namespace Go.Proofs.YtkdjcmpgnkecfaaGreatDoor.kernelTells
open Go.Proofs.YtkdjcmpgnkecfaaGreatDoor Go.Ev
theorem r3_1 : run fp3 (.int .i64 1) = some (.bool true) := by kernel_rfl
theorem r3_2 : run fp3 (.int .i64 2) = some (.bool true) := by kernel_rfl
theorem r3_3 : run fp3 (.int .i64 3) = some (.bool true) := by kernel_rfl
theorem r3_4 : run fp3 (.int .i64 4) = some (.bool true) := by kernel_rfl
theorem r3_5 : run fp3 (.int .i64 5) = some (.bool true) := by kernel_rfl
theorem r3_6 : run fp3 (.int .i64 6) = some (.bool true) := by kernel_rfl
theorem r3_7 : run fp3 (.int .i64 7) = some (.bool true) := by kernel_rfl
theorem r3_8 : run fp3 (.int .i64 8) = some (.bool true) := by kernel_rfl
theorem r3_9 : run fp3 (.int .i64 9) = some (.bool true) := by kernel_rfl
theorem r3_10 : run fp3 (.int .i64 10) = some (.bool true) := by kernel_rfl
theorem r3_11 : run fp3 (.int .i64 11) = some (.bool true) := by kernel_rfl
theorem u3_1 : run (fo1 ++ fp3) (.sym .i64 0) = some (.bool true) := by kernel_rfl
theorem u3_2 : run (fo2 ++ fp3) (.sym .i64 0) = some (.bool true) := by kernel_rfl
end Go.Proofs.YtkdjcmpgnkecfaaGreatDoor.kernelTells
