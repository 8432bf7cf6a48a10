/-
  The kernel's checks for FaultReads.
-/
import Derived.Test.YtbgcdlmcpkapaaaX3
noncomputable section
namespace Go.Proofs.Ytbgcdlmcpkapaaa.faultReads
open Go.Proofs.Ytbgcdlmcpkapaaa Go.Ev
theorem fn6 (fs : List Fact) : (env fs).fn 6 = some Try.f6 := by kernel_rfl
theorem c0 : chk 6 planR true true true = true := by kernel_rfl
theorem c1 : chk 6 planR true true false = true := by kernel_rfl
theorem c2 : chk 6 planR true false true = true := by kernel_rfl
theorem c3 : chk 6 planR true false false = true := by kernel_rfl
theorem c4 : chk 6 planR false true true = true := by kernel_rfl
theorem c5 : chk 6 planR false true false = true := by kernel_rfl
theorem c6 : chk 6 planR false false true = true := by kernel_rfl
theorem c7 : chk 6 planR false false false = true := by kernel_rfl
theorem checked : ∀ h w c, chk 6 planR h w c = true
  | true, true, true => c0
  | true, true, false => c1
  | true, false, true => c2
  | true, false, false => c3
  | false, true, true => c4
  | false, true, false => c5
  | false, false, true => c6
  | false, false, false => c7
end Go.Proofs.Ytbgcdlmcpkapaaa.faultReads
