/-
  The closed facts of a row, in pieces: each heavy piece its own theorem, so that none outgrows the kernel's memory.
-/
import Derived.Test.YtkdjcmpgnkecfaaGreatDoorT0
import Derived.JoinedOf
noncomputable section
namespace Go.Proofs.YtkdjcmpgnkecfaaGreatDoor
open Go
set_option linter.unusedVariables false

theorem laid_out : laidOutB Tryz.prog = true := by kernel_rfl
theorem maps_rowed : mapsRowed Tryz.prog = true := by kernel_rfl

/-- What is left of the closed facts once the heavy pieces and the program's own are out. -/
def lightFacts (P : Program) (fn : Func) (s : ChangeSpec) (c : OpenClaim) : Bool :=
  fn.params.all (P.readableRec ·) && namedTie P c.named s.vars &&
  (c.stops == []) && (c.knobs == []) &&
  (c.maps == (fn.params.toList ++ s.plain.varTypes P).any (P.mapsRec ·)) && (c.ifaces == (fn.params.toList ++ s.plain.varTypes P).any (P.ifacesRec ·)) && (c.mapsOut == P.mapsAmong fn.resultTypes.toList) &&
  (c.loops == (fn.params.toList ++ s.plain.varTypes P).any (P.loopsFrom ·)) && (c.wideKeys == (fn.params.toList ++ s.plain.varTypes P ++ fn.resultTypes.toList).any (P.wideKeysFrom ·)) &&
  s.vars.all (P.varReadable ·) && fn.resultTypes.all (fun t => P.readableRec t && decide (t < P.types.size)) && (c.ifacesOut == fn.resultTypes.toList.any (P.ifacesRec ·)) && (c.loopsOut == fn.resultTypes.toList.any (P.loopsFrom ·)) && c.shortTexts.isNone && (c.kinds == (if c.domain.isEmpty then [] else fn.params.toList.map fun t => match P.underlying t with | some (.int k) => some k | _ => none)) && (c.pinned == c.pinnedBy) &&
  (c.veiled == (fn.params.toList ++ s.plain.varTypes P ++ fn.resultTypes.toList).any (P.veiledRec ·)) && c.veiledFits P fn.params.toList (fn.params.toList ++ s.plain.varTypes P ++ fn.resultTypes.toList)

theorem joined_of {P : Program} {f : FuncId} {fn : Func} {s : ChangeSpec} {c : OpenClaim}
    (h2 : laidOutB P = true) (h3 : mapsRowed P = true)
    (g1 : (P.stops == []) = true) (g2 : (P.stopKnobs == []) = true) (g3 : (c.plainKeys == P.plainKeys) = true) (g4 : P.stopsHeard = true) (g5 : P.mayEnter = true) (g6 : (c.lifted == P.liftsFinal) = true) (g7 : (P.make == some c.make) = true)
    (h1 : c.wf (OpenSpec.ofChange s) = true)
    (h4 : (c.inPlace == P.inPlace f) = true) (h5 : (c.unfollowed == P.unfollowed f) = true) (h6 : (c.recurses == P.recurses f) = true)
    (h7 : (c.named == P.varsNamed f) = true) (h8 : lightFacts P fn s c = true) : joinedFacts P f fn s c = true := by
  unfold lightFacts at h8
  unfold joinedFacts
  simp only [Bool.and_eq_true] at h8 ⊢
  simp only [h1, h2, h3, h4, h5, h6, h7, g1, g2, g3, g4, g5, g6, g7, and_true, true_and]
  simp only [and_assoc] at h8 ⊢
  exact h8
end Go.Proofs.YtkdjcmpgnkecfaaGreatDoor
