/-
  The kernel's checks for FaultEnds.
-/
import Derived.Test.YtbgcdlmcpkapaaaX3
noncomputable section
namespace Go.Proofs.Ytbgcdlmcpkapaaa.faultEnds
open Go.Proofs.Ytbgcdlmcpkapaaa Go.Ev
theorem fn4 (fs : List Fact) : (env fs).fn 4 = some Try.f4 := by kernel_rfl
theorem c0 : chk 4 planE true true true = true := by kernel_rfl
theorem c1 : chk 4 planE true true false = true := by kernel_rfl
theorem c2 : chk 4 planE true false true = true := by kernel_rfl
theorem c3 : chk 4 planE true false false = true := by kernel_rfl
theorem c4 : chk 4 planE false true true = true := by kernel_rfl
theorem c5 : chk 4 planE false true false = true := by kernel_rfl
theorem c6 : chk 4 planE false false true = true := by kernel_rfl
theorem c7 : chk 4 planE false false false = true := by kernel_rfl
theorem checked : ∀ h w c, chk 4 planE h w c = true
  | true, true, true => c0
  | true, true, false => c1
  | true, false, true => c2
  | true, false, false => c3
  | false, true, true => c4
  | false, true, false => c5
  | false, false, true => c6
  | false, false, false => c7
end Go.Proofs.Ytbgcdlmcpkapaaa.faultEnds
