/-
  The program starts no goroutine.
-/
import Derived.Test.YtkdjcmpgnkecfaaGreatDoorJ1
noncomputable section
namespace Go.Proofs.YtkdjcmpgnkecfaaGreatDoor
open Go
theorem no_goes : Tryz.prog.funcs.any Func.goes = false := by kernel_rfl
theorem goes_none {c : OpenClaim} (hs : c.start = .entering) : false = c.goesBy Tryz.prog := by
  have h := no_goes
  have h' : ∀ g : Nat, (Tryz.prog.funcs[g]?).any Func.goes = false := by
    intro g
    cases hg : Tryz.prog.funcs[g]? with
    | none => rfl
    | some fn =>
      have := Array.any_eq_false.1 h g (Array.getElem?_eq_some_iff.1 hg).1
      rw [(Array.getElem?_eq_some_iff.1 hg).2] at this
      simpa using this
  have h2 : ∀ f : FuncId, Tryz.prog.goes f = false := by
    intro f
    unfold Program.goes
    rw [h, Bool.and_false, Bool.or_false, List.any_eq_false]
    intro g _
    rw [h' g]
    simp
  unfold OpenClaim.goesBy Program.goesAt Program.goesFrom
  rw [hs]
  cases Tryz.prog.funcNamed c.func with
  | none => rfl
  | some f => simp [h2 f]
end Go.Proofs.YtkdjcmpgnkecfaaGreatDoor
