/-
  The kernel's run for KernelNil.
-/
import Derived.Test.YtkdjcmpgnkecfaaGreatDoorT0
noncomputable section
namespace Go.Proofs.YtkdjcmpgnkecfaaGreatDoor.kernelNil
open Go.Proofs.YtkdjcmpgnkecfaaGreatDoor Go.Ev
def run : Option (AV × AH) := (fns (env []) PV 300).call (.func 19 [] []) [.sym .i64 0] hL
theorem nil_ev : run.map (·.1) = some (.bool true) := by kernel_rfl
end Go.Proofs.YtkdjcmpgnkecfaaGreatDoor.kernelNil
