/-
  The kernel's checks for FaultSteps.
-/
import Derived.Test.YtbgcdlmcpkapaaaX3
noncomputable section
namespace Go.Proofs.Ytbgcdlmcpkapaaa.faultSteps
open Go.Proofs.Ytbgcdlmcpkapaaa Go.Ev
theorem fn3 (fs : List Fact) : (env fs).fn 3 = some Try.f3 := by kernel_rfl
theorem c0 : chk 3 planS true true true = true := by kernel_rfl
theorem c1 : chk 3 planS true true false = true := by kernel_rfl
theorem c2 : chk 3 planS true false true = true := by kernel_rfl
theorem c3 : chk 3 planS true false false = true := by kernel_rfl
theorem c4 : chk 3 planS false true true = true := by kernel_rfl
theorem c5 : chk 3 planS false true false = true := by kernel_rfl
theorem c6 : chk 3 planS false false true = true := by kernel_rfl
theorem c7 : chk 3 planS false false false = true := by kernel_rfl
theorem checked : ∀ h w c, chk 3 planS h w c = true
  | true, true, true => c0
  | true, true, false => c1
  | true, false, true => c2
  | true, false, false => c3
  | false, true, true => c4
  | false, true, false => c5
  | false, false, true => c6
  | false, false, false => c7
end Go.Proofs.Ytbgcdlmcpkapaaa.faultSteps
