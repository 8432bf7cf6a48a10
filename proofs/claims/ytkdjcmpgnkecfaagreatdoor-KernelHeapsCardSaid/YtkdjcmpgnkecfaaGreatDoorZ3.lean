/-
  Texts J1, joined; own names made short.
-/
import Derived.Test.YtkdjcmpgnkecfaaGreatDoorZ2
import Derived.Test.YtkdjcmpgnkecfaaGreatDoorTie
set_option linter.unusedVariables false
set_option linter.unusedSimpArgs false
set_option linter.unusedSectionVars false
set_option exponentiation.threshold 600
noncomputable section
namespace Go.Proofs.YtkdjcmpgnkecfaaGreatDoor
open Go
theorem g1:(Tryz.prog.stops==[])=true:=by kernel_rfl
theorem g2:(Tryz.prog.stopKnobs==[])=true:=by kernel_rfl
theorem g3:(Rows.kernelNilRow.plainKeys==Tryz.prog.plainKeys)=true:=by kernel_rfl
theorem g4:Tryz.prog.stopsHeard=true:=by kernel_rfl
theorem g5:Tryz.prog.mayEnter=true:=by kernel_rfl
theorem g6:(Rows.kernelNilRow.lifted==Tryz.prog.liftsFinal)=true:=by kernel_rfl
theorem g7:(Tryz.prog.make==some Rows.kernelNilRow.make)=true:=by kernel_rfl
theorem ae3:Tryz.prog.mainIs=some (true, "06c809cf3dd6a07f4563166201490ca0eb765c932b78d3ffd1eecd1398c2f928".toList):=by kernel_rfl
theorem aeT:false=Tryz.prog.looks []:=by kernel_rfl
end Go.Proofs.YtkdjcmpgnkecfaaGreatDoor
end
