/-
  No cell of these rows narrows 'for every input' (looked for: loops, veiled, ifaces, maps, wideKeys, modest, calm, conditions, laid).
  DERIVED. THE GIVEN ROWS OF THIS SEAT. 6 by the template 'for every input the law returns true; each argument reads behind the call as it read before'; 0 by the template 'total and deterministic' (their statements: YtbgcdlmcpkapaaaTotals.lean).
  GIVEN WITH THE SEED: the statements are not yours to turn. If you find one false, say at which input.
  Laid BY PROGRAM, IN A SANDBOX (cutbox-rows.mjs): the forced cells as the released guide's own fill.sh prints them over the translation 9e43c5d958f1edfe… (all of the seat's roots in one cut). By AI agents, Wed Nov 11 2026. No macro, syntax, notation, axiom, sorry.
-/
import Derived.Test.YtbgcdlmcpkapaaaChecked
import GoSem.Claim
import GoSem.ClaimJoined
import GoSem.ClaimMapViews
import Derived.JoinedTies
import Derived.KernelRfl
namespace Go.Proofs.Ytbgcdlmcpkapaaa
/- THE CELL 'sum', in the pinned program and in every row, IS THE sha256 OF THE DUMP (.gsa) THAT YtbgcdlmcpkapaaaProg.lean LOADS. Nothing in Lean hashes anything: it is a label: what it is worth is what the hold of that sum in a sandbox is worth. -/
noncomputable def Try.pinned : Pinned := { name := "ytbgcdlmcpkapaaa", sum := "9e43c5d958f1edfe55ccef387df927d4d2698ca8b0878b60fb55ac80fa7bcd27", checked := Try.checked }
namespace Rows
def none {H : Type} : Left H := { results := [], args := [] }

/-- 'flyleaflaw16.FaultSteps': WHATEVER THE INPUT: true; the input reads as it did. -/
def faultStepsSpec : ChangeSpec := { name := "faultSteps", fn := fun _ => fun
  | [d1, d2, d3] => { results := [.lit (.bool true)], args := [d1, d2, d3] }
  | _ => none }
def faultStepsRow : OpenClaim := { program := "ytbgcdlmcpkapaaa", sum := "9e43c5d958f1edfe55ccef387df927d4d2698ca8b0878b60fb55ac80fa7bcd27", func := "flyleaf/flyleaflaw16.FaultSteps", spec := "faultSteps", apart := false }
def FaultStepsSaid : Prop := faultStepsRow.holds Try.pinned (OpenSpec.ofChange faultStepsSpec)

/-- ITS FALSE NEIGHBOUR: 'it returns false'. Refute it at one input. -/
def faultStepsWrong : ChangeSpec := { name := "faultSteps", fn := fun _ => fun
  | [d1, d2, d3] => { results := [.lit (.bool false)], args := [d1, d2, d3] }
  | _ => none }
def FaultStepsWrongFalsely : Prop := faultStepsRow.holds Try.pinned (OpenSpec.ofChange faultStepsWrong)

/-- 'flyleaflaw16.FaultEnds': WHATEVER THE INPUT: true; the input reads as it did. -/
def faultEndsSpec : ChangeSpec := { name := "faultEnds", fn := fun _ => fun
  | [d1, d2, d3] => { results := [.lit (.bool true)], args := [d1, d2, d3] }
  | _ => none }
def faultEndsRow : OpenClaim := { program := "ytbgcdlmcpkapaaa", sum := "9e43c5d958f1edfe55ccef387df927d4d2698ca8b0878b60fb55ac80fa7bcd27", func := "flyleaf/flyleaflaw16.FaultEnds", spec := "faultEnds", apart := false }
def FaultEndsSaid : Prop := faultEndsRow.holds Try.pinned (OpenSpec.ofChange faultEndsSpec)

/-- ITS FALSE NEIGHBOUR: 'it returns false'. Refute it at one input. -/
def faultEndsWrong : ChangeSpec := { name := "faultEnds", fn := fun _ => fun
  | [d1, d2, d3] => { results := [.lit (.bool false)], args := [d1, d2, d3] }
  | _ => none }
def FaultEndsWrongFalsely : Prop := faultEndsRow.holds Try.pinned (OpenSpec.ofChange faultEndsWrong)

/-- 'flyleaflaw16.FaultShares': WHATEVER THE INPUT: true; the input reads as it did. -/
def faultSharesSpec : ChangeSpec := { name := "faultShares", fn := fun _ => fun
  | [d1, d2, d3] => { results := [.lit (.bool true)], args := [d1, d2, d3] }
  | _ => none }
def faultSharesRow : OpenClaim := { program := "ytbgcdlmcpkapaaa", sum := "9e43c5d958f1edfe55ccef387df927d4d2698ca8b0878b60fb55ac80fa7bcd27", func := "flyleaf/flyleaflaw16.FaultShares", spec := "faultShares", apart := false }
def FaultSharesSaid : Prop := faultSharesRow.holds Try.pinned (OpenSpec.ofChange faultSharesSpec)

/-- ITS FALSE NEIGHBOUR: 'it returns false'. Refute it at one input. -/
def faultSharesWrong : ChangeSpec := { name := "faultShares", fn := fun _ => fun
  | [d1, d2, d3] => { results := [.lit (.bool false)], args := [d1, d2, d3] }
  | _ => none }
def FaultSharesWrongFalsely : Prop := faultSharesRow.holds Try.pinned (OpenSpec.ofChange faultSharesWrong)

/-- 'flyleaflaw16.FaultReads': WHATEVER THE INPUT: true; the input reads as it did. -/
def faultReadsSpec : ChangeSpec := { name := "faultReads", fn := fun _ => fun
  | [d1, d2, d3] => { results := [.lit (.bool true)], args := [d1, d2, d3] }
  | _ => none }
def faultReadsRow : OpenClaim := { program := "ytbgcdlmcpkapaaa", sum := "9e43c5d958f1edfe55ccef387df927d4d2698ca8b0878b60fb55ac80fa7bcd27", func := "flyleaf/flyleaflaw16.FaultReads", spec := "faultReads", apart := false }
def FaultReadsSaid : Prop := faultReadsRow.holds Try.pinned (OpenSpec.ofChange faultReadsSpec)

/-- ITS FALSE NEIGHBOUR: 'it returns false'. Refute it at one input. -/
def faultReadsWrong : ChangeSpec := { name := "faultReads", fn := fun _ => fun
  | [d1, d2, d3] => { results := [.lit (.bool false)], args := [d1, d2, d3] }
  | _ => none }
def FaultReadsWrongFalsely : Prop := faultReadsRow.holds Try.pinned (OpenSpec.ofChange faultReadsWrong)

/-- 'flyleaflaw16.FaultPerms': WHATEVER THE INPUT: true; the input reads as it did. -/
def faultPermsSpec : ChangeSpec := { name := "faultPerms", fn := fun _ => fun
  | [d1, d2] => { results := [.lit (.bool true)], args := [d1, d2] }
  | _ => none }
def faultPermsRow : OpenClaim := { program := "ytbgcdlmcpkapaaa", sum := "9e43c5d958f1edfe55ccef387df927d4d2698ca8b0878b60fb55ac80fa7bcd27", func := "flyleaf/flyleaflaw16.FaultPerms", spec := "faultPerms", apart := false }
def FaultPermsSaid : Prop := faultPermsRow.holds Try.pinned (OpenSpec.ofChange faultPermsSpec)

/-- ITS FALSE NEIGHBOUR: 'it returns false'. Refute it at one input. -/
def faultPermsWrong : ChangeSpec := { name := "faultPerms", fn := fun _ => fun
  | [d1, d2] => { results := [.lit (.bool false)], args := [d1, d2] }
  | _ => none }
def FaultPermsWrongFalsely : Prop := faultPermsRow.holds Try.pinned (OpenSpec.ofChange faultPermsWrong)

/-- 'flyleaflaw16.FaultKinds': WHATEVER THE INPUT: true; the input reads as it did. -/
def faultKindsSpec : ChangeSpec := { name := "faultKinds", fn := fun _ => fun
  | [d1, d2] => { results := [.lit (.bool true)], args := [d1, d2] }
  | _ => none }
def faultKindsRow : OpenClaim := { program := "ytbgcdlmcpkapaaa", sum := "9e43c5d958f1edfe55ccef387df927d4d2698ca8b0878b60fb55ac80fa7bcd27", func := "flyleaf/flyleaflaw16.FaultKinds", spec := "faultKinds", apart := false }
def FaultKindsSaid : Prop := faultKindsRow.holds Try.pinned (OpenSpec.ofChange faultKindsSpec)

/-- ITS FALSE NEIGHBOUR: 'it returns false'. Refute it at one input. -/
def faultKindsWrong : ChangeSpec := { name := "faultKinds", fn := fun _ => fun
  | [d1, d2] => { results := [.lit (.bool false)], args := [d1, d2] }
  | _ => none }
def FaultKindsWrongFalsely : Prop := faultKindsRow.holds Try.pinned (OpenSpec.ofChange faultKindsWrong)

/- THE SECOND FORM. 'bulk': how many values and letters a reading holds, each counted each time it is reached (what is shared counts as often as it is met; a slice's spare places count too). A statement '..UptoSaid' is the law's where the arguments, and the package variables that the reading takes, are together of bulk at most 1048576: NARROWER than '..Said'. Prove '..Said' where nothing that the law and all that it calls make is longer than what came in: it says more and counts as full. Else prove '..UptoSaid'. A law counts once. -/
mutual
def uptoBulk {H : Type} : DataW H → Nat
  | .lit (.string bytes) => bytes.length + 1
  | .lit _ => 1
  | .nil => 1
  | .ptr d => uptoBulk d + 1
  | .slice elems spare => uptoBulkAll elems + uptoBulkAll spare + 1
  | .agg parts => uptoBulkAll parts + 1
  | .iface _ d => uptoBulk d + 1
  | .map entries => uptoBulkEntries entries + 1
  | .held _ => 1
def uptoBulkAll {H : Type} : List (DataW H) → Nat
  | [] => 0
  | d :: r => uptoBulk d + uptoBulkAll r
def uptoBulkEntries {H : Type} : List (Lit × DataW H) → Nat
  | [] => 0
  | x :: r => uptoBulkEntry x + uptoBulkEntries r
def uptoBulkEntry {H : Type} : Lit × DataW H → Nat
  | (.string bytes, d) => bytes.length + uptoBulk d + 1
  | (_, d) => uptoBulk d + 1
 end
def uptoSmall : (H : Type) → List (DataW H) → Bool := fun _ ds => decide (uptoBulkAll ds ≤ 1048576)
def OpenSpec.upto (s : _root_.Go.ChangeSpec) : _root_.Go.OpenSpec := { _root_.Go.OpenSpec.ofChange s with cond := some uptoSmall }

/-- 'flyleaflaw16.FaultSteps', WHERE WHAT IT READS IS OF BULK AT MOST 1048576: true; the input reads as it did. -/
def faultStepsUptoRow : OpenClaim := { program := "ytbgcdlmcpkapaaa", sum := "9e43c5d958f1edfe55ccef387df927d4d2698ca8b0878b60fb55ac80fa7bcd27", func := "flyleaf/flyleaflaw16.FaultSteps", spec := "faultSteps", apart := false, narrowed := true }
def FaultStepsUptoSaid : Prop := faultStepsUptoRow.holds Try.pinned (OpenSpec.upto faultStepsSpec)

/-- 'flyleaflaw16.FaultEnds', WHERE WHAT IT READS IS OF BULK AT MOST 1048576: true; the input reads as it did. -/
def faultEndsUptoRow : OpenClaim := { program := "ytbgcdlmcpkapaaa", sum := "9e43c5d958f1edfe55ccef387df927d4d2698ca8b0878b60fb55ac80fa7bcd27", func := "flyleaf/flyleaflaw16.FaultEnds", spec := "faultEnds", apart := false, narrowed := true }
def FaultEndsUptoSaid : Prop := faultEndsUptoRow.holds Try.pinned (OpenSpec.upto faultEndsSpec)

/-- 'flyleaflaw16.FaultShares', WHERE WHAT IT READS IS OF BULK AT MOST 1048576: true; the input reads as it did. -/
def faultSharesUptoRow : OpenClaim := { program := "ytbgcdlmcpkapaaa", sum := "9e43c5d958f1edfe55ccef387df927d4d2698ca8b0878b60fb55ac80fa7bcd27", func := "flyleaf/flyleaflaw16.FaultShares", spec := "faultShares", apart := false, narrowed := true }
def FaultSharesUptoSaid : Prop := faultSharesUptoRow.holds Try.pinned (OpenSpec.upto faultSharesSpec)

/-- 'flyleaflaw16.FaultReads', WHERE WHAT IT READS IS OF BULK AT MOST 1048576: true; the input reads as it did. -/
def faultReadsUptoRow : OpenClaim := { program := "ytbgcdlmcpkapaaa", sum := "9e43c5d958f1edfe55ccef387df927d4d2698ca8b0878b60fb55ac80fa7bcd27", func := "flyleaf/flyleaflaw16.FaultReads", spec := "faultReads", apart := false, narrowed := true }
def FaultReadsUptoSaid : Prop := faultReadsUptoRow.holds Try.pinned (OpenSpec.upto faultReadsSpec)

/-- 'flyleaflaw16.FaultPerms', WHERE WHAT IT READS IS OF BULK AT MOST 1048576: true; the input reads as it did. -/
def faultPermsUptoRow : OpenClaim := { program := "ytbgcdlmcpkapaaa", sum := "9e43c5d958f1edfe55ccef387df927d4d2698ca8b0878b60fb55ac80fa7bcd27", func := "flyleaf/flyleaflaw16.FaultPerms", spec := "faultPerms", apart := false, narrowed := true }
def FaultPermsUptoSaid : Prop := faultPermsUptoRow.holds Try.pinned (OpenSpec.upto faultPermsSpec)

/-- 'flyleaflaw16.FaultKinds', WHERE WHAT IT READS IS OF BULK AT MOST 1048576: true; the input reads as it did. -/
def faultKindsUptoRow : OpenClaim := { program := "ytbgcdlmcpkapaaa", sum := "9e43c5d958f1edfe55ccef387df927d4d2698ca8b0878b60fb55ac80fa7bcd27", func := "flyleaf/flyleaflaw16.FaultKinds", spec := "faultKinds", apart := false, narrowed := true }
def FaultKindsUptoSaid : Prop := faultKindsUptoRow.holds Try.pinned (OpenSpec.upto faultKindsSpec)

end Rows
end Go.Proofs.Ytbgcdlmcpkapaaa
