/-
  The example of chapter 21 tells true.
-/
import Derived.Test.YtkdjcmpgnkecfaaGreatDoorT1
noncomputable section
namespace Go.Proofs.YtkdjcmpgnkecfaaGreatDoor
open Go.Ev
def awakeR : Option (AV × AH) := (fns (env []) PV 300).call (.func 61 [] []) [] hL
theorem awake_ev : awakeR.map (·.1) = some (.bool true) := by kernel_rfl
theorem fne61 (fs : List Fact) : (env fs).fn 61 = some Tryz.f61 := by kernel_rfl
theorem fnb61 : Tryz.f61.body = some (Tryz.f61.body.getD .skip) := by kernel_rfl
def PK : Prims := primsOf ((61, trueP) :: primL)
theorem pk_ok {fs : List Fact} {σ : Nat → Int} (ok : EnvOk Tryz.prog (env fs) σ) : PrimsOk Tryz.prog (env fs) σ PK :=
  prims_cons (true_ok fne61 fnb61 awake_ev ok) (prims_ok ok)
end Go.Proofs.YtkdjcmpgnkecfaaGreatDoor
