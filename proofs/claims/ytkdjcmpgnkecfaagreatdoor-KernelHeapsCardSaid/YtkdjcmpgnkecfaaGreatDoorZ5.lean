/-
  Texts KHF, joined; own names made short.
-/
import Derived.Test.YtkdjcmpgnkecfaaGreatDoorZ4
set_option linter.unusedVariables false
set_option linter.unusedSimpArgs false
set_option linter.unusedSectionVars false
set_option exponentiation.threshold 600
noncomputable section
namespace Go.Proofs.YtkdjcmpgnkecfaaGreatDoor.kernelHeaps
open Go.Proofs.YtkdjcmpgnkecfaaGreatDoor
theorem aQ:Rows.kernelHeapsRow.wf (OpenSpec.ofChange Rows.kernelHeapsSpec)=true:=by kernel_rfl
theorem a4:(Rows.kernelHeapsRow.inPlace==Tryz.prog.inPlace 16)=true:=by kernel_rfl
theorem a5:(Rows.kernelHeapsRow.unfollowed==Tryz.prog.unfollowed 16)=true:=by kernel_rfl
theorem hY:(Rows.kernelHeapsRow.recurses==Tryz.prog.recurses 16)=true:=by kernel_rfl
theorem tg:(Rows.kernelHeapsRow.named==Tryz.prog.varsNamed 16)=true:=by kernel_rfl
theorem Vq:H5 Tryz.prog Tryz.f16 Rows.kernelHeapsSpec Rows.kernelHeapsRow=true:=by kernel_rfl
theorem a9:Rows.kernelHeapsRow.wfByText (OpenSpec.ofChange Rows.kernelHeapsSpec)=true:=by kernel_rfl
theorem Vp:false=Rows.kernelHeapsRow.goesBy Tryz.prog:=Y4 rfl
theorem Lk:Tryz.prog.funcNamed "flyleaf/flyleaflaw21.KernelHeaps" =some 16:=by kernel_rfl
theorem closed:joinedFacts Tryz.prog 16 Tryz.f16 Rows.kernelHeapsSpec Rows.kernelHeapsRow=true:=acs OR ae7 g1 g2 g3 g4 g5 g6 g7 aQ a4 a5 hY tg Vq
end Go.Proofs.YtkdjcmpgnkecfaaGreatDoor.kernelHeaps
end
