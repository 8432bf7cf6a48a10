/-
  NARROWER THAN 'FOR EVERY INPUT', by the rows' own cells (each row's printed sentence says how): TopSame: laid · SpaceFiles: laid · SpaceFaults: laid · TopApart: laid · SpaceSwaps: laid · SpaceShares: laid · TopRoom: laid · SpaceMakes: laid · SpaceTight: laid · RunsPlay: laid · KernelTells: laid · KernelStacks: laid · KernelApart: laid · KernelHeaps: laid · KernelPlays: laid · KernelTight: laid · KernelNil: laid · TopCounts: laid.
  DERIVED. THE GIVEN ROWS OF THIS SEAT. 18 by the template 'for every input the law returns true; each argument reads behind the call as it read before'; 0 by the template 'total and deterministic' (their statements: YtkdjcmpgnkecfaaGreatDoorTotals.lean).
  GIVEN WITH THE SEED: the statements are not yours to turn. If you find one false, say at which input.
  Laid BY PROGRAM, IN A SANDBOX (cutbox-rows.mjs): the forced cells as the released guide's own fill.sh prints them over the translation a165bf4f0d325108… (all of the seat's roots in one cut). By AI agents, Wed Nov 11 2026. No macro, syntax, notation, axiom, sorry.
-/
import Derived.Test.YtkdjcmpgnkecfaaGreatDoorChecked
import GoSem.Claim
import GoSem.ClaimJoined
import GoSem.ClaimMapViews
import Derived.JoinedTies
import Derived.KernelRfl
namespace Go.Proofs.YtkdjcmpgnkecfaaGreatDoor
/- THE CELL 'sum', in the pinned program and in every row, IS THE sha256 OF THE DUMP (.gsa) THAT YtkdjcmpgnkecfaaGreatDoorProg.lean LOADS. Nothing in Lean hashes anything: it is a label: what it is worth is what the hold of that sum in a sandbox is worth. -/
noncomputable def Tryz.pinned : Pinned := { name := "ytkdjcmpgnkecfaagreatdoor", sum := "a165bf4f0d32510821f304d5756bb74f2e172b7de95551932b494bbd2750b7a7", checked := Tryz.checked }
namespace Rows
def none {H : Type} : Left H := { results := [], args := [] }

/- WHAT THE LISTED PACKAGE-LEVEL VARIABLES READ AS WHEN THE CALL BEGINS. Each datum BY PROGRAM (the guide's laid-datum.mjs) off the statement by which the dump's own 'gosem.cut.vars' lays the variable. In a bare row this is a premise. The card (YtkdjcmpgnkecfaaGreatDoorCards.lean) ties it to the program's text. -/
def laid_flyleaf_word_widths {H : Type} : DataW H := .agg [.lit (.int .i64 0), .lit (.int .i64 1), .lit (.int .i64 2), .lit (.int .i64 4), .lit (.int .i64 8), .lit (.int .i64 1), .lit (.int .i64 2), .lit (.int .i64 4), .lit (.int .i64 8), .lit (.int .i64 8)]

/-- 'flyleaftop.TopSame': WHATEVER THE INPUT: true; the input reads as it did. -/
def topSameSpec : ChangeSpec := { name := "topSame", fn := fun _ => fun
  | [d1, d2, d3] => { results := [.lit (.bool true)], args := [d1, d2, d3] }
  | _ => none }
def topSameRow : OpenClaim := { program := "ytkdjcmpgnkecfaagreatdoor", sum := "a165bf4f0d32510821f304d5756bb74f2e172b7de95551932b494bbd2750b7a7", func := "flyleaf/flyleaftop.TopSame", spec := "topSame", inPlace := ["internal/abi.NoEscape", "internal/bytealg.MakeNoZero", "internal/bytealg.IndexByteString", "internal/bytealg.IndexString"], unfollowed := true, recurses := true, named := ["internal/bytealg.MaxLen", "flyleaf/word.widths"], plainKeys := false, apart := false, laid := [("flyleaf/word.widths", laid_flyleaf_word_widths)] }
def TopSameSaid : Prop := topSameRow.holds Tryz.pinned (OpenSpec.ofChange topSameSpec)

/-- ITS FALSE NEIGHBOUR: 'it returns false'. Refute it at one input. -/
def topSameWrong : ChangeSpec := { name := "topSame", fn := fun _ => fun
  | [d1, d2, d3] => { results := [.lit (.bool false)], args := [d1, d2, d3] }
  | _ => none }
def TopSameWrongFalsely : Prop := topSameRow.holds Tryz.pinned (OpenSpec.ofChange topSameWrong)

/-- 'flyleaflaw19.SpaceFiles': WHATEVER THE INPUT: true; the input reads as it did. -/
def spaceFilesSpec : ChangeSpec := { name := "spaceFiles", fn := fun _ => fun
  | [d1, d2, d3] => { results := [.lit (.bool true)], args := [d1, d2, d3] }
  | _ => none }
def spaceFilesRow : OpenClaim := { program := "ytkdjcmpgnkecfaagreatdoor", sum := "a165bf4f0d32510821f304d5756bb74f2e172b7de95551932b494bbd2750b7a7", func := "flyleaf/flyleaflaw19.SpaceFiles", spec := "spaceFiles", inPlace := ["internal/abi.NoEscape", "internal/bytealg.MakeNoZero", "internal/bytealg.IndexByteString", "internal/bytealg.IndexString"], unfollowed := true, recurses := true, named := ["internal/bytealg.MaxLen", "flyleaf/word.widths"], plainKeys := false, apart := false, laid := [("flyleaf/word.widths", laid_flyleaf_word_widths)] }
def SpaceFilesSaid : Prop := spaceFilesRow.holds Tryz.pinned (OpenSpec.ofChange spaceFilesSpec)

/-- ITS FALSE NEIGHBOUR: 'it returns false'. Refute it at one input. -/
def spaceFilesWrong : ChangeSpec := { name := "spaceFiles", fn := fun _ => fun
  | [d1, d2, d3] => { results := [.lit (.bool false)], args := [d1, d2, d3] }
  | _ => none }
def SpaceFilesWrongFalsely : Prop := spaceFilesRow.holds Tryz.pinned (OpenSpec.ofChange spaceFilesWrong)

/-- 'flyleaflaw19.SpaceFaults': WHATEVER THE INPUT: true; the input reads as it did. -/
def spaceFaultsSpec : ChangeSpec := { name := "spaceFaults", fn := fun _ => fun
  | [d1, d2, d3] => { results := [.lit (.bool true)], args := [d1, d2, d3] }
  | _ => none }
def spaceFaultsRow : OpenClaim := { program := "ytkdjcmpgnkecfaagreatdoor", sum := "a165bf4f0d32510821f304d5756bb74f2e172b7de95551932b494bbd2750b7a7", func := "flyleaf/flyleaflaw19.SpaceFaults", spec := "spaceFaults", inPlace := ["internal/abi.NoEscape", "internal/bytealg.MakeNoZero", "internal/bytealg.IndexByteString", "internal/bytealg.IndexString"], unfollowed := true, recurses := true, named := ["internal/bytealg.MaxLen", "flyleaf/word.widths"], plainKeys := false, apart := false, laid := [("flyleaf/word.widths", laid_flyleaf_word_widths)] }
def SpaceFaultsSaid : Prop := spaceFaultsRow.holds Tryz.pinned (OpenSpec.ofChange spaceFaultsSpec)

/-- ITS FALSE NEIGHBOUR: 'it returns false'. Refute it at one input. -/
def spaceFaultsWrong : ChangeSpec := { name := "spaceFaults", fn := fun _ => fun
  | [d1, d2, d3] => { results := [.lit (.bool false)], args := [d1, d2, d3] }
  | _ => none }
def SpaceFaultsWrongFalsely : Prop := spaceFaultsRow.holds Tryz.pinned (OpenSpec.ofChange spaceFaultsWrong)

/-- 'flyleaftop.TopApart': WHATEVER THE INPUT: true; the input reads as it did. -/
def topApartSpec : ChangeSpec := { name := "topApart", fn := fun _ => fun
  | [d1, d2, d3] => { results := [.lit (.bool true)], args := [d1, d2, d3] }
  | _ => none }
def topApartRow : OpenClaim := { program := "ytkdjcmpgnkecfaagreatdoor", sum := "a165bf4f0d32510821f304d5756bb74f2e172b7de95551932b494bbd2750b7a7", func := "flyleaf/flyleaftop.TopApart", spec := "topApart", inPlace := ["internal/abi.NoEscape", "internal/bytealg.MakeNoZero", "internal/bytealg.IndexByteString", "internal/bytealg.IndexString"], unfollowed := true, recurses := true, named := ["internal/bytealg.MaxLen", "flyleaf/word.widths"], plainKeys := false, apart := false, laid := [("flyleaf/word.widths", laid_flyleaf_word_widths)] }
def TopApartSaid : Prop := topApartRow.holds Tryz.pinned (OpenSpec.ofChange topApartSpec)

/-- ITS FALSE NEIGHBOUR: 'it returns false'. Refute it at one input. -/
def topApartWrong : ChangeSpec := { name := "topApart", fn := fun _ => fun
  | [d1, d2, d3] => { results := [.lit (.bool false)], args := [d1, d2, d3] }
  | _ => none }
def TopApartWrongFalsely : Prop := topApartRow.holds Tryz.pinned (OpenSpec.ofChange topApartWrong)

/-- 'flyleaflaw19.SpaceSwaps': WHATEVER THE INPUT: true; the input reads as it did. -/
def spaceSwapsSpec : ChangeSpec := { name := "spaceSwaps", fn := fun _ => fun
  | [d1, d2] => { results := [.lit (.bool true)], args := [d1, d2] }
  | _ => none }
def spaceSwapsRow : OpenClaim := { program := "ytkdjcmpgnkecfaagreatdoor", sum := "a165bf4f0d32510821f304d5756bb74f2e172b7de95551932b494bbd2750b7a7", func := "flyleaf/flyleaflaw19.SpaceSwaps", spec := "spaceSwaps", inPlace := ["internal/abi.NoEscape", "internal/bytealg.MakeNoZero", "internal/bytealg.IndexByteString", "internal/bytealg.IndexString"], unfollowed := true, recurses := true, named := ["internal/bytealg.MaxLen", "flyleaf/word.widths"], plainKeys := false, apart := false, laid := [("flyleaf/word.widths", laid_flyleaf_word_widths)] }
def SpaceSwapsSaid : Prop := spaceSwapsRow.holds Tryz.pinned (OpenSpec.ofChange spaceSwapsSpec)

/-- ITS FALSE NEIGHBOUR: 'it returns false'. Refute it at one input. -/
def spaceSwapsWrong : ChangeSpec := { name := "spaceSwaps", fn := fun _ => fun
  | [d1, d2] => { results := [.lit (.bool false)], args := [d1, d2] }
  | _ => none }
def SpaceSwapsWrongFalsely : Prop := spaceSwapsRow.holds Tryz.pinned (OpenSpec.ofChange spaceSwapsWrong)

/-- 'flyleaflaw19.SpaceShares': WHATEVER THE INPUT: true; the input reads as it did. -/
def spaceSharesSpec : ChangeSpec := { name := "spaceShares", fn := fun _ => fun
  | [d1, d2] => { results := [.lit (.bool true)], args := [d1, d2] }
  | _ => none }
def spaceSharesRow : OpenClaim := { program := "ytkdjcmpgnkecfaagreatdoor", sum := "a165bf4f0d32510821f304d5756bb74f2e172b7de95551932b494bbd2750b7a7", func := "flyleaf/flyleaflaw19.SpaceShares", spec := "spaceShares", inPlace := ["internal/abi.NoEscape", "internal/bytealg.MakeNoZero", "internal/bytealg.IndexByteString", "internal/bytealg.IndexString"], unfollowed := true, recurses := true, named := ["internal/bytealg.MaxLen", "flyleaf/word.widths"], plainKeys := false, apart := false, laid := [("flyleaf/word.widths", laid_flyleaf_word_widths)] }
def SpaceSharesSaid : Prop := spaceSharesRow.holds Tryz.pinned (OpenSpec.ofChange spaceSharesSpec)

/-- ITS FALSE NEIGHBOUR: 'it returns false'. Refute it at one input. -/
def spaceSharesWrong : ChangeSpec := { name := "spaceShares", fn := fun _ => fun
  | [d1, d2] => { results := [.lit (.bool false)], args := [d1, d2] }
  | _ => none }
def SpaceSharesWrongFalsely : Prop := spaceSharesRow.holds Tryz.pinned (OpenSpec.ofChange spaceSharesWrong)

/-- 'flyleaftop.TopRoom': WHATEVER THE INPUT: true; the input reads as it did. -/
def topRoomSpec : ChangeSpec := { name := "topRoom", fn := fun _ => fun
  | [d1, d2] => { results := [.lit (.bool true)], args := [d1, d2] }
  | _ => none }
def topRoomRow : OpenClaim := { program := "ytkdjcmpgnkecfaagreatdoor", sum := "a165bf4f0d32510821f304d5756bb74f2e172b7de95551932b494bbd2750b7a7", func := "flyleaf/flyleaftop.TopRoom", spec := "topRoom", inPlace := ["internal/abi.NoEscape", "internal/bytealg.MakeNoZero", "internal/bytealg.IndexByteString", "internal/bytealg.IndexString"], unfollowed := true, recurses := true, named := ["internal/bytealg.MaxLen", "flyleaf/word.widths"], plainKeys := false, apart := false, laid := [("flyleaf/word.widths", laid_flyleaf_word_widths)] }
def TopRoomSaid : Prop := topRoomRow.holds Tryz.pinned (OpenSpec.ofChange topRoomSpec)

/-- ITS FALSE NEIGHBOUR: 'it returns false'. Refute it at one input. -/
def topRoomWrong : ChangeSpec := { name := "topRoom", fn := fun _ => fun
  | [d1, d2] => { results := [.lit (.bool false)], args := [d1, d2] }
  | _ => none }
def TopRoomWrongFalsely : Prop := topRoomRow.holds Tryz.pinned (OpenSpec.ofChange topRoomWrong)

/-- 'flyleaflaw19.SpaceMakes': WHATEVER THE INPUT: true; the input reads as it did. -/
def spaceMakesSpec : ChangeSpec := { name := "spaceMakes", fn := fun _ => fun
  | [d1, d2] => { results := [.lit (.bool true)], args := [d1, d2] }
  | _ => none }
def spaceMakesRow : OpenClaim := { program := "ytkdjcmpgnkecfaagreatdoor", sum := "a165bf4f0d32510821f304d5756bb74f2e172b7de95551932b494bbd2750b7a7", func := "flyleaf/flyleaflaw19.SpaceMakes", spec := "spaceMakes", inPlace := ["internal/abi.NoEscape", "internal/bytealg.MakeNoZero", "internal/bytealg.IndexByteString", "internal/bytealg.IndexString"], unfollowed := true, recurses := true, named := ["internal/bytealg.MaxLen", "flyleaf/word.widths"], plainKeys := false, apart := false, laid := [("flyleaf/word.widths", laid_flyleaf_word_widths)] }
def SpaceMakesSaid : Prop := spaceMakesRow.holds Tryz.pinned (OpenSpec.ofChange spaceMakesSpec)

/-- ITS FALSE NEIGHBOUR: 'it returns false'. Refute it at one input. -/
def spaceMakesWrong : ChangeSpec := { name := "spaceMakes", fn := fun _ => fun
  | [d1, d2] => { results := [.lit (.bool false)], args := [d1, d2] }
  | _ => none }
def SpaceMakesWrongFalsely : Prop := spaceMakesRow.holds Tryz.pinned (OpenSpec.ofChange spaceMakesWrong)

/-- 'flyleaflaw19.SpaceTight': WHATEVER THE INPUT: true; the input reads as it did. -/
def spaceTightSpec : ChangeSpec := { name := "spaceTight", fn := fun _ => fun
  | [d1, d2, d3] => { results := [.lit (.bool true)], args := [d1, d2, d3] }
  | _ => none }
def spaceTightRow : OpenClaim := { program := "ytkdjcmpgnkecfaagreatdoor", sum := "a165bf4f0d32510821f304d5756bb74f2e172b7de95551932b494bbd2750b7a7", func := "flyleaf/flyleaflaw19.SpaceTight", spec := "spaceTight", inPlace := ["internal/abi.NoEscape", "internal/bytealg.MakeNoZero", "internal/bytealg.IndexByteString", "internal/bytealg.IndexString"], unfollowed := true, recurses := true, named := ["internal/bytealg.MaxLen", "flyleaf/word.widths"], plainKeys := false, apart := false, laid := [("flyleaf/word.widths", laid_flyleaf_word_widths)] }
def SpaceTightSaid : Prop := spaceTightRow.holds Tryz.pinned (OpenSpec.ofChange spaceTightSpec)

/-- ITS FALSE NEIGHBOUR: 'it returns false'. Refute it at one input. -/
def spaceTightWrong : ChangeSpec := { name := "spaceTight", fn := fun _ => fun
  | [d1, d2, d3] => { results := [.lit (.bool false)], args := [d1, d2, d3] }
  | _ => none }
def SpaceTightWrongFalsely : Prop := spaceTightRow.holds Tryz.pinned (OpenSpec.ofChange spaceTightWrong)

/-- 'flyleaflaw22.RunsPlay': WHATEVER THE INPUT: true; the input reads as it did. -/
def runsPlaySpec : ChangeSpec := { name := "runsPlay", fn := fun _ => fun
  | [d] => { results := [.lit (.bool true)], args := [d] }
  | _ => none }
def runsPlayRow : OpenClaim := { program := "ytkdjcmpgnkecfaagreatdoor", sum := "a165bf4f0d32510821f304d5756bb74f2e172b7de95551932b494bbd2750b7a7", func := "flyleaf/flyleaflaw22.RunsPlay", spec := "runsPlay", inPlace := ["internal/abi.NoEscape", "internal/bytealg.MakeNoZero", "internal/bytealg.IndexByteString", "internal/bytealg.IndexString"], unfollowed := true, recurses := true, named := ["internal/bytealg.MaxLen", "flyleaf/word.widths"], plainKeys := false, apart := false, laid := [("flyleaf/word.widths", laid_flyleaf_word_widths)] }
def RunsPlaySaid : Prop := runsPlayRow.holds Tryz.pinned (OpenSpec.ofChange runsPlaySpec)

/-- ITS FALSE NEIGHBOUR: 'it returns false'. Refute it at one input. -/
def runsPlayWrong : ChangeSpec := { name := "runsPlay", fn := fun _ => fun
  | [d] => { results := [.lit (.bool false)], args := [d] }
  | _ => none }
def RunsPlayWrongFalsely : Prop := runsPlayRow.holds Tryz.pinned (OpenSpec.ofChange runsPlayWrong)

/-- 'flyleaflaw21.KernelTells': WHATEVER THE INPUT: true; the input reads as it did. -/
def kernelTellsSpec : ChangeSpec := { name := "kernelTells", fn := fun _ => fun
  | [d1, d2] => { results := [.lit (.bool true)], args := [d1, d2] }
  | _ => none }
def kernelTellsRow : OpenClaim := { program := "ytkdjcmpgnkecfaagreatdoor", sum := "a165bf4f0d32510821f304d5756bb74f2e172b7de95551932b494bbd2750b7a7", func := "flyleaf/flyleaflaw21.KernelTells", spec := "kernelTells", inPlace := ["internal/abi.NoEscape", "internal/bytealg.MakeNoZero", "internal/bytealg.IndexByteString", "internal/bytealg.IndexString"], unfollowed := true, recurses := true, named := ["internal/bytealg.MaxLen", "flyleaf/word.widths"], plainKeys := false, apart := false, laid := [("flyleaf/word.widths", laid_flyleaf_word_widths)] }
def KernelTellsSaid : Prop := kernelTellsRow.holds Tryz.pinned (OpenSpec.ofChange kernelTellsSpec)

/-- ITS FALSE NEIGHBOUR: 'it returns false'. Refute it at one input. -/
def kernelTellsWrong : ChangeSpec := { name := "kernelTells", fn := fun _ => fun
  | [d1, d2] => { results := [.lit (.bool false)], args := [d1, d2] }
  | _ => none }
def KernelTellsWrongFalsely : Prop := kernelTellsRow.holds Tryz.pinned (OpenSpec.ofChange kernelTellsWrong)

/-- 'flyleaflaw21.KernelStacks': WHATEVER THE INPUT: true; the input reads as it did. -/
def kernelStacksSpec : ChangeSpec := { name := "kernelStacks", fn := fun _ => fun
  | [d1, d2] => { results := [.lit (.bool true)], args := [d1, d2] }
  | _ => none }
def kernelStacksRow : OpenClaim := { program := "ytkdjcmpgnkecfaagreatdoor", sum := "a165bf4f0d32510821f304d5756bb74f2e172b7de95551932b494bbd2750b7a7", func := "flyleaf/flyleaflaw21.KernelStacks", spec := "kernelStacks", inPlace := ["internal/abi.NoEscape", "internal/bytealg.MakeNoZero", "internal/bytealg.IndexByteString", "internal/bytealg.IndexString"], unfollowed := true, recurses := true, named := ["internal/bytealg.MaxLen", "flyleaf/word.widths"], plainKeys := false, apart := false, laid := [("flyleaf/word.widths", laid_flyleaf_word_widths)] }
def KernelStacksSaid : Prop := kernelStacksRow.holds Tryz.pinned (OpenSpec.ofChange kernelStacksSpec)

/-- ITS FALSE NEIGHBOUR: 'it returns false'. Refute it at one input. -/
def kernelStacksWrong : ChangeSpec := { name := "kernelStacks", fn := fun _ => fun
  | [d1, d2] => { results := [.lit (.bool false)], args := [d1, d2] }
  | _ => none }
def KernelStacksWrongFalsely : Prop := kernelStacksRow.holds Tryz.pinned (OpenSpec.ofChange kernelStacksWrong)

/-- 'flyleaflaw21.KernelApart': WHATEVER THE INPUT: true; the input reads as it did. -/
def kernelApartSpec : ChangeSpec := { name := "kernelApart", fn := fun _ => fun
  | [d1, d2] => { results := [.lit (.bool true)], args := [d1, d2] }
  | _ => none }
def kernelApartRow : OpenClaim := { program := "ytkdjcmpgnkecfaagreatdoor", sum := "a165bf4f0d32510821f304d5756bb74f2e172b7de95551932b494bbd2750b7a7", func := "flyleaf/flyleaflaw21.KernelApart", spec := "kernelApart", inPlace := ["internal/abi.NoEscape", "internal/bytealg.MakeNoZero", "internal/bytealg.IndexByteString", "internal/bytealg.IndexString"], unfollowed := true, recurses := true, named := ["internal/bytealg.MaxLen", "flyleaf/word.widths"], plainKeys := false, apart := false, laid := [("flyleaf/word.widths", laid_flyleaf_word_widths)] }
def KernelApartSaid : Prop := kernelApartRow.holds Tryz.pinned (OpenSpec.ofChange kernelApartSpec)

/-- ITS FALSE NEIGHBOUR: 'it returns false'. Refute it at one input. -/
def kernelApartWrong : ChangeSpec := { name := "kernelApart", fn := fun _ => fun
  | [d1, d2] => { results := [.lit (.bool false)], args := [d1, d2] }
  | _ => none }
def KernelApartWrongFalsely : Prop := kernelApartRow.holds Tryz.pinned (OpenSpec.ofChange kernelApartWrong)

/-- 'flyleaflaw21.KernelHeaps': WHATEVER THE INPUT: true; the input reads as it did. -/
def kernelHeapsSpec : ChangeSpec := { name := "kernelHeaps", fn := fun _ => fun
  | [d] => { results := [.lit (.bool true)], args := [d] }
  | _ => none }
def kernelHeapsRow : OpenClaim := { program := "ytkdjcmpgnkecfaagreatdoor", sum := "a165bf4f0d32510821f304d5756bb74f2e172b7de95551932b494bbd2750b7a7", func := "flyleaf/flyleaflaw21.KernelHeaps", spec := "kernelHeaps", inPlace := ["internal/abi.NoEscape", "internal/bytealg.MakeNoZero", "internal/bytealg.IndexByteString", "internal/bytealg.IndexString"], unfollowed := true, recurses := true, named := ["internal/bytealg.MaxLen", "flyleaf/word.widths"], plainKeys := false, apart := false, laid := [("flyleaf/word.widths", laid_flyleaf_word_widths)] }
def KernelHeapsSaid : Prop := kernelHeapsRow.holds Tryz.pinned (OpenSpec.ofChange kernelHeapsSpec)

/-- ITS FALSE NEIGHBOUR: 'it returns false'. Refute it at one input. -/
def kernelHeapsWrong : ChangeSpec := { name := "kernelHeaps", fn := fun _ => fun
  | [d] => { results := [.lit (.bool false)], args := [d] }
  | _ => none }
def KernelHeapsWrongFalsely : Prop := kernelHeapsRow.holds Tryz.pinned (OpenSpec.ofChange kernelHeapsWrong)

/-- 'flyleaflaw21.KernelPlays': WHATEVER THE INPUT: true; the input reads as it did. -/
def kernelPlaysSpec : ChangeSpec := { name := "kernelPlays", fn := fun _ => fun
  | [d1, d2] => { results := [.lit (.bool true)], args := [d1, d2] }
  | _ => none }
def kernelPlaysRow : OpenClaim := { program := "ytkdjcmpgnkecfaagreatdoor", sum := "a165bf4f0d32510821f304d5756bb74f2e172b7de95551932b494bbd2750b7a7", func := "flyleaf/flyleaflaw21.KernelPlays", spec := "kernelPlays", inPlace := ["internal/abi.NoEscape", "internal/bytealg.MakeNoZero", "internal/bytealg.IndexByteString", "internal/bytealg.IndexString"], unfollowed := true, recurses := true, named := ["internal/bytealg.MaxLen", "flyleaf/word.widths"], plainKeys := false, apart := false, laid := [("flyleaf/word.widths", laid_flyleaf_word_widths)] }
def KernelPlaysSaid : Prop := kernelPlaysRow.holds Tryz.pinned (OpenSpec.ofChange kernelPlaysSpec)

/-- ITS FALSE NEIGHBOUR: 'it returns false'. Refute it at one input. -/
def kernelPlaysWrong : ChangeSpec := { name := "kernelPlays", fn := fun _ => fun
  | [d1, d2] => { results := [.lit (.bool false)], args := [d1, d2] }
  | _ => none }
def KernelPlaysWrongFalsely : Prop := kernelPlaysRow.holds Tryz.pinned (OpenSpec.ofChange kernelPlaysWrong)

/-- 'flyleaflaw21.KernelTight': WHATEVER THE INPUT: true; the input reads as it did. -/
def kernelTightSpec : ChangeSpec := { name := "kernelTight", fn := fun _ => fun
  | [d1, d2, d3] => { results := [.lit (.bool true)], args := [d1, d2, d3] }
  | _ => none }
def kernelTightRow : OpenClaim := { program := "ytkdjcmpgnkecfaagreatdoor", sum := "a165bf4f0d32510821f304d5756bb74f2e172b7de95551932b494bbd2750b7a7", func := "flyleaf/flyleaflaw21.KernelTight", spec := "kernelTight", inPlace := ["internal/abi.NoEscape", "internal/bytealg.MakeNoZero", "internal/bytealg.IndexByteString", "internal/bytealg.IndexString"], unfollowed := true, recurses := true, named := ["internal/bytealg.MaxLen", "flyleaf/word.widths"], plainKeys := false, apart := false, laid := [("flyleaf/word.widths", laid_flyleaf_word_widths)] }
def KernelTightSaid : Prop := kernelTightRow.holds Tryz.pinned (OpenSpec.ofChange kernelTightSpec)

/-- ITS FALSE NEIGHBOUR: 'it returns false'. Refute it at one input. -/
def kernelTightWrong : ChangeSpec := { name := "kernelTight", fn := fun _ => fun
  | [d1, d2, d3] => { results := [.lit (.bool false)], args := [d1, d2, d3] }
  | _ => none }
def KernelTightWrongFalsely : Prop := kernelTightRow.holds Tryz.pinned (OpenSpec.ofChange kernelTightWrong)

/-- 'flyleaflaw21.KernelNil': WHATEVER THE INPUT: true; the input reads as it did. -/
def kernelNilSpec : ChangeSpec := { name := "kernelNil", fn := fun _ => fun
  | [d] => { results := [.lit (.bool true)], args := [d] }
  | _ => none }
def kernelNilRow : OpenClaim := { program := "ytkdjcmpgnkecfaagreatdoor", sum := "a165bf4f0d32510821f304d5756bb74f2e172b7de95551932b494bbd2750b7a7", func := "flyleaf/flyleaflaw21.KernelNil", spec := "kernelNil", inPlace := ["internal/abi.NoEscape", "internal/bytealg.MakeNoZero", "internal/bytealg.IndexByteString", "internal/bytealg.IndexString"], unfollowed := true, recurses := true, named := ["flyleaf/word.widths", "internal/bytealg.MaxLen"], plainKeys := false, apart := false, laid := [("flyleaf/word.widths", laid_flyleaf_word_widths)] }
def KernelNilSaid : Prop := kernelNilRow.holds Tryz.pinned (OpenSpec.ofChange kernelNilSpec)

/-- ITS FALSE NEIGHBOUR: 'it returns false'. Refute it at one input. -/
def kernelNilWrong : ChangeSpec := { name := "kernelNil", fn := fun _ => fun
  | [d] => { results := [.lit (.bool false)], args := [d] }
  | _ => none }
def KernelNilWrongFalsely : Prop := kernelNilRow.holds Tryz.pinned (OpenSpec.ofChange kernelNilWrong)

/-- 'flyleaftop.TopCounts': WHATEVER THE INPUT: true; the input reads as it did. -/
def topCountsSpec : ChangeSpec := { name := "topCounts", fn := fun _ => fun
  | [d1, d2, d3] => { results := [.lit (.bool true)], args := [d1, d2, d3] }
  | _ => none }
def topCountsRow : OpenClaim := { program := "ytkdjcmpgnkecfaagreatdoor", sum := "a165bf4f0d32510821f304d5756bb74f2e172b7de95551932b494bbd2750b7a7", func := "flyleaf/flyleaftop.TopCounts", spec := "topCounts", inPlace := ["internal/abi.NoEscape", "internal/bytealg.MakeNoZero", "internal/bytealg.IndexByteString", "internal/bytealg.IndexString"], unfollowed := true, recurses := true, named := ["internal/bytealg.MaxLen", "flyleaf/word.widths"], plainKeys := false, apart := false, laid := [("flyleaf/word.widths", laid_flyleaf_word_widths)] }
def TopCountsSaid : Prop := topCountsRow.holds Tryz.pinned (OpenSpec.ofChange topCountsSpec)

/-- ITS FALSE NEIGHBOUR: 'it returns false'. Refute it at one input. -/
def topCountsWrong : ChangeSpec := { name := "topCounts", fn := fun _ => fun
  | [d1, d2, d3] => { results := [.lit (.bool false)], args := [d1, d2, d3] }
  | _ => none }
def TopCountsWrongFalsely : Prop := topCountsRow.holds Tryz.pinned (OpenSpec.ofChange topCountsWrong)

/- THE SECOND FORM. 'bulk': how many values and letters a reading holds, each counted each time it is reached (what is shared counts as often as it is met; a slice's spare places count too). A statement '..UptoSaid' is the law's where the arguments, and the package variables that the reading takes, are together of bulk at most 1048576: NARROWER than '..Said'. Prove '..Said' where nothing that the law and all that it calls make is longer than what came in: it says more and counts as full. Else prove '..UptoSaid'. A law counts once. -/
mutual
def uptoBulk {H : Type} : DataW H → Nat
  | .lit (.string bytes) => bytes.length + 1
  | .lit _ => 1
  | .nil => 1
  | .ptr d => uptoBulk d + 1
  | .slice elems spare => uptoBulkAll elems + uptoBulkAll spare + 1
  | .agg parts => uptoBulkAll parts + 1
  | .iface _ d => uptoBulk d + 1
  | .map entries => uptoBulkEntries entries + 1
  | .held _ => 1
def uptoBulkAll {H : Type} : List (DataW H) → Nat
  | [] => 0
  | d :: r => uptoBulk d + uptoBulkAll r
def uptoBulkEntries {H : Type} : List (Lit × DataW H) → Nat
  | [] => 0
  | x :: r => uptoBulkEntry x + uptoBulkEntries r
def uptoBulkEntry {H : Type} : Lit × DataW H → Nat
  | (.string bytes, d) => bytes.length + uptoBulk d + 1
  | (_, d) => uptoBulk d + 1
 end
def uptoSmall : (H : Type) → List (DataW H) → Bool := fun _ ds => decide (uptoBulkAll ds ≤ 1048576)
def OpenSpec.upto (s : _root_.Go.ChangeSpec) : _root_.Go.OpenSpec := { _root_.Go.OpenSpec.ofChange s with cond := some uptoSmall }

/-- 'flyleaftop.TopSame', WHERE WHAT IT READS IS OF BULK AT MOST 1048576: true; the input reads as it did. -/
def topSameUptoRow : OpenClaim := { program := "ytkdjcmpgnkecfaagreatdoor", sum := "a165bf4f0d32510821f304d5756bb74f2e172b7de95551932b494bbd2750b7a7", func := "flyleaf/flyleaftop.TopSame", spec := "topSame", inPlace := ["internal/abi.NoEscape", "internal/bytealg.MakeNoZero", "internal/bytealg.IndexByteString", "internal/bytealg.IndexString"], unfollowed := true, recurses := true, named := ["internal/bytealg.MaxLen", "flyleaf/word.widths"], plainKeys := false, apart := false, laid := [("flyleaf/word.widths", laid_flyleaf_word_widths)], narrowed := true }
def TopSameUptoSaid : Prop := topSameUptoRow.holds Tryz.pinned (OpenSpec.upto topSameSpec)

/-- 'flyleaflaw19.SpaceFiles', WHERE WHAT IT READS IS OF BULK AT MOST 1048576: true; the input reads as it did. -/
def spaceFilesUptoRow : OpenClaim := { program := "ytkdjcmpgnkecfaagreatdoor", sum := "a165bf4f0d32510821f304d5756bb74f2e172b7de95551932b494bbd2750b7a7", func := "flyleaf/flyleaflaw19.SpaceFiles", spec := "spaceFiles", inPlace := ["internal/abi.NoEscape", "internal/bytealg.MakeNoZero", "internal/bytealg.IndexByteString", "internal/bytealg.IndexString"], unfollowed := true, recurses := true, named := ["internal/bytealg.MaxLen", "flyleaf/word.widths"], plainKeys := false, apart := false, laid := [("flyleaf/word.widths", laid_flyleaf_word_widths)], narrowed := true }
def SpaceFilesUptoSaid : Prop := spaceFilesUptoRow.holds Tryz.pinned (OpenSpec.upto spaceFilesSpec)

/-- 'flyleaflaw19.SpaceFaults', WHERE WHAT IT READS IS OF BULK AT MOST 1048576: true; the input reads as it did. -/
def spaceFaultsUptoRow : OpenClaim := { program := "ytkdjcmpgnkecfaagreatdoor", sum := "a165bf4f0d32510821f304d5756bb74f2e172b7de95551932b494bbd2750b7a7", func := "flyleaf/flyleaflaw19.SpaceFaults", spec := "spaceFaults", inPlace := ["internal/abi.NoEscape", "internal/bytealg.MakeNoZero", "internal/bytealg.IndexByteString", "internal/bytealg.IndexString"], unfollowed := true, recurses := true, named := ["internal/bytealg.MaxLen", "flyleaf/word.widths"], plainKeys := false, apart := false, laid := [("flyleaf/word.widths", laid_flyleaf_word_widths)], narrowed := true }
def SpaceFaultsUptoSaid : Prop := spaceFaultsUptoRow.holds Tryz.pinned (OpenSpec.upto spaceFaultsSpec)

/-- 'flyleaftop.TopApart', WHERE WHAT IT READS IS OF BULK AT MOST 1048576: true; the input reads as it did. -/
def topApartUptoRow : OpenClaim := { program := "ytkdjcmpgnkecfaagreatdoor", sum := "a165bf4f0d32510821f304d5756bb74f2e172b7de95551932b494bbd2750b7a7", func := "flyleaf/flyleaftop.TopApart", spec := "topApart", inPlace := ["internal/abi.NoEscape", "internal/bytealg.MakeNoZero", "internal/bytealg.IndexByteString", "internal/bytealg.IndexString"], unfollowed := true, recurses := true, named := ["internal/bytealg.MaxLen", "flyleaf/word.widths"], plainKeys := false, apart := false, laid := [("flyleaf/word.widths", laid_flyleaf_word_widths)], narrowed := true }
def TopApartUptoSaid : Prop := topApartUptoRow.holds Tryz.pinned (OpenSpec.upto topApartSpec)

/-- 'flyleaflaw19.SpaceSwaps', WHERE WHAT IT READS IS OF BULK AT MOST 1048576: true; the input reads as it did. -/
def spaceSwapsUptoRow : OpenClaim := { program := "ytkdjcmpgnkecfaagreatdoor", sum := "a165bf4f0d32510821f304d5756bb74f2e172b7de95551932b494bbd2750b7a7", func := "flyleaf/flyleaflaw19.SpaceSwaps", spec := "spaceSwaps", inPlace := ["internal/abi.NoEscape", "internal/bytealg.MakeNoZero", "internal/bytealg.IndexByteString", "internal/bytealg.IndexString"], unfollowed := true, recurses := true, named := ["internal/bytealg.MaxLen", "flyleaf/word.widths"], plainKeys := false, apart := false, laid := [("flyleaf/word.widths", laid_flyleaf_word_widths)], narrowed := true }
def SpaceSwapsUptoSaid : Prop := spaceSwapsUptoRow.holds Tryz.pinned (OpenSpec.upto spaceSwapsSpec)

/-- 'flyleaflaw19.SpaceShares', WHERE WHAT IT READS IS OF BULK AT MOST 1048576: true; the input reads as it did. -/
def spaceSharesUptoRow : OpenClaim := { program := "ytkdjcmpgnkecfaagreatdoor", sum := "a165bf4f0d32510821f304d5756bb74f2e172b7de95551932b494bbd2750b7a7", func := "flyleaf/flyleaflaw19.SpaceShares", spec := "spaceShares", inPlace := ["internal/abi.NoEscape", "internal/bytealg.MakeNoZero", "internal/bytealg.IndexByteString", "internal/bytealg.IndexString"], unfollowed := true, recurses := true, named := ["internal/bytealg.MaxLen", "flyleaf/word.widths"], plainKeys := false, apart := false, laid := [("flyleaf/word.widths", laid_flyleaf_word_widths)], narrowed := true }
def SpaceSharesUptoSaid : Prop := spaceSharesUptoRow.holds Tryz.pinned (OpenSpec.upto spaceSharesSpec)

/-- 'flyleaftop.TopRoom', WHERE WHAT IT READS IS OF BULK AT MOST 1048576: true; the input reads as it did. -/
def topRoomUptoRow : OpenClaim := { program := "ytkdjcmpgnkecfaagreatdoor", sum := "a165bf4f0d32510821f304d5756bb74f2e172b7de95551932b494bbd2750b7a7", func := "flyleaf/flyleaftop.TopRoom", spec := "topRoom", inPlace := ["internal/abi.NoEscape", "internal/bytealg.MakeNoZero", "internal/bytealg.IndexByteString", "internal/bytealg.IndexString"], unfollowed := true, recurses := true, named := ["internal/bytealg.MaxLen", "flyleaf/word.widths"], plainKeys := false, apart := false, laid := [("flyleaf/word.widths", laid_flyleaf_word_widths)], narrowed := true }
def TopRoomUptoSaid : Prop := topRoomUptoRow.holds Tryz.pinned (OpenSpec.upto topRoomSpec)

/-- 'flyleaflaw19.SpaceMakes', WHERE WHAT IT READS IS OF BULK AT MOST 1048576: true; the input reads as it did. -/
def spaceMakesUptoRow : OpenClaim := { program := "ytkdjcmpgnkecfaagreatdoor", sum := "a165bf4f0d32510821f304d5756bb74f2e172b7de95551932b494bbd2750b7a7", func := "flyleaf/flyleaflaw19.SpaceMakes", spec := "spaceMakes", inPlace := ["internal/abi.NoEscape", "internal/bytealg.MakeNoZero", "internal/bytealg.IndexByteString", "internal/bytealg.IndexString"], unfollowed := true, recurses := true, named := ["internal/bytealg.MaxLen", "flyleaf/word.widths"], plainKeys := false, apart := false, laid := [("flyleaf/word.widths", laid_flyleaf_word_widths)], narrowed := true }
def SpaceMakesUptoSaid : Prop := spaceMakesUptoRow.holds Tryz.pinned (OpenSpec.upto spaceMakesSpec)

/-- 'flyleaflaw19.SpaceTight', WHERE WHAT IT READS IS OF BULK AT MOST 1048576: true; the input reads as it did. -/
def spaceTightUptoRow : OpenClaim := { program := "ytkdjcmpgnkecfaagreatdoor", sum := "a165bf4f0d32510821f304d5756bb74f2e172b7de95551932b494bbd2750b7a7", func := "flyleaf/flyleaflaw19.SpaceTight", spec := "spaceTight", inPlace := ["internal/abi.NoEscape", "internal/bytealg.MakeNoZero", "internal/bytealg.IndexByteString", "internal/bytealg.IndexString"], unfollowed := true, recurses := true, named := ["internal/bytealg.MaxLen", "flyleaf/word.widths"], plainKeys := false, apart := false, laid := [("flyleaf/word.widths", laid_flyleaf_word_widths)], narrowed := true }
def SpaceTightUptoSaid : Prop := spaceTightUptoRow.holds Tryz.pinned (OpenSpec.upto spaceTightSpec)

/-- 'flyleaflaw22.RunsPlay', WHERE WHAT IT READS IS OF BULK AT MOST 1048576: true; the input reads as it did. -/
def runsPlayUptoRow : OpenClaim := { program := "ytkdjcmpgnkecfaagreatdoor", sum := "a165bf4f0d32510821f304d5756bb74f2e172b7de95551932b494bbd2750b7a7", func := "flyleaf/flyleaflaw22.RunsPlay", spec := "runsPlay", inPlace := ["internal/abi.NoEscape", "internal/bytealg.MakeNoZero", "internal/bytealg.IndexByteString", "internal/bytealg.IndexString"], unfollowed := true, recurses := true, named := ["internal/bytealg.MaxLen", "flyleaf/word.widths"], plainKeys := false, apart := false, laid := [("flyleaf/word.widths", laid_flyleaf_word_widths)], narrowed := true }
def RunsPlayUptoSaid : Prop := runsPlayUptoRow.holds Tryz.pinned (OpenSpec.upto runsPlaySpec)

/-- 'flyleaflaw21.KernelTells', WHERE WHAT IT READS IS OF BULK AT MOST 1048576: true; the input reads as it did. -/
def kernelTellsUptoRow : OpenClaim := { program := "ytkdjcmpgnkecfaagreatdoor", sum := "a165bf4f0d32510821f304d5756bb74f2e172b7de95551932b494bbd2750b7a7", func := "flyleaf/flyleaflaw21.KernelTells", spec := "kernelTells", inPlace := ["internal/abi.NoEscape", "internal/bytealg.MakeNoZero", "internal/bytealg.IndexByteString", "internal/bytealg.IndexString"], unfollowed := true, recurses := true, named := ["internal/bytealg.MaxLen", "flyleaf/word.widths"], plainKeys := false, apart := false, laid := [("flyleaf/word.widths", laid_flyleaf_word_widths)], narrowed := true }
def KernelTellsUptoSaid : Prop := kernelTellsUptoRow.holds Tryz.pinned (OpenSpec.upto kernelTellsSpec)

/-- 'flyleaflaw21.KernelStacks', WHERE WHAT IT READS IS OF BULK AT MOST 1048576: true; the input reads as it did. -/
def kernelStacksUptoRow : OpenClaim := { program := "ytkdjcmpgnkecfaagreatdoor", sum := "a165bf4f0d32510821f304d5756bb74f2e172b7de95551932b494bbd2750b7a7", func := "flyleaf/flyleaflaw21.KernelStacks", spec := "kernelStacks", inPlace := ["internal/abi.NoEscape", "internal/bytealg.MakeNoZero", "internal/bytealg.IndexByteString", "internal/bytealg.IndexString"], unfollowed := true, recurses := true, named := ["internal/bytealg.MaxLen", "flyleaf/word.widths"], plainKeys := false, apart := false, laid := [("flyleaf/word.widths", laid_flyleaf_word_widths)], narrowed := true }
def KernelStacksUptoSaid : Prop := kernelStacksUptoRow.holds Tryz.pinned (OpenSpec.upto kernelStacksSpec)

/-- 'flyleaflaw21.KernelApart', WHERE WHAT IT READS IS OF BULK AT MOST 1048576: true; the input reads as it did. -/
def kernelApartUptoRow : OpenClaim := { program := "ytkdjcmpgnkecfaagreatdoor", sum := "a165bf4f0d32510821f304d5756bb74f2e172b7de95551932b494bbd2750b7a7", func := "flyleaf/flyleaflaw21.KernelApart", spec := "kernelApart", inPlace := ["internal/abi.NoEscape", "internal/bytealg.MakeNoZero", "internal/bytealg.IndexByteString", "internal/bytealg.IndexString"], unfollowed := true, recurses := true, named := ["internal/bytealg.MaxLen", "flyleaf/word.widths"], plainKeys := false, apart := false, laid := [("flyleaf/word.widths", laid_flyleaf_word_widths)], narrowed := true }
def KernelApartUptoSaid : Prop := kernelApartUptoRow.holds Tryz.pinned (OpenSpec.upto kernelApartSpec)

/-- 'flyleaflaw21.KernelHeaps', WHERE WHAT IT READS IS OF BULK AT MOST 1048576: true; the input reads as it did. -/
def kernelHeapsUptoRow : OpenClaim := { program := "ytkdjcmpgnkecfaagreatdoor", sum := "a165bf4f0d32510821f304d5756bb74f2e172b7de95551932b494bbd2750b7a7", func := "flyleaf/flyleaflaw21.KernelHeaps", spec := "kernelHeaps", inPlace := ["internal/abi.NoEscape", "internal/bytealg.MakeNoZero", "internal/bytealg.IndexByteString", "internal/bytealg.IndexString"], unfollowed := true, recurses := true, named := ["internal/bytealg.MaxLen", "flyleaf/word.widths"], plainKeys := false, apart := false, laid := [("flyleaf/word.widths", laid_flyleaf_word_widths)], narrowed := true }
def KernelHeapsUptoSaid : Prop := kernelHeapsUptoRow.holds Tryz.pinned (OpenSpec.upto kernelHeapsSpec)

/-- 'flyleaflaw21.KernelPlays', WHERE WHAT IT READS IS OF BULK AT MOST 1048576: true; the input reads as it did. -/
def kernelPlaysUptoRow : OpenClaim := { program := "ytkdjcmpgnkecfaagreatdoor", sum := "a165bf4f0d32510821f304d5756bb74f2e172b7de95551932b494bbd2750b7a7", func := "flyleaf/flyleaflaw21.KernelPlays", spec := "kernelPlays", inPlace := ["internal/abi.NoEscape", "internal/bytealg.MakeNoZero", "internal/bytealg.IndexByteString", "internal/bytealg.IndexString"], unfollowed := true, recurses := true, named := ["internal/bytealg.MaxLen", "flyleaf/word.widths"], plainKeys := false, apart := false, laid := [("flyleaf/word.widths", laid_flyleaf_word_widths)], narrowed := true }
def KernelPlaysUptoSaid : Prop := kernelPlaysUptoRow.holds Tryz.pinned (OpenSpec.upto kernelPlaysSpec)

/-- 'flyleaflaw21.KernelTight', WHERE WHAT IT READS IS OF BULK AT MOST 1048576: true; the input reads as it did. -/
def kernelTightUptoRow : OpenClaim := { program := "ytkdjcmpgnkecfaagreatdoor", sum := "a165bf4f0d32510821f304d5756bb74f2e172b7de95551932b494bbd2750b7a7", func := "flyleaf/flyleaflaw21.KernelTight", spec := "kernelTight", inPlace := ["internal/abi.NoEscape", "internal/bytealg.MakeNoZero", "internal/bytealg.IndexByteString", "internal/bytealg.IndexString"], unfollowed := true, recurses := true, named := ["internal/bytealg.MaxLen", "flyleaf/word.widths"], plainKeys := false, apart := false, laid := [("flyleaf/word.widths", laid_flyleaf_word_widths)], narrowed := true }
def KernelTightUptoSaid : Prop := kernelTightUptoRow.holds Tryz.pinned (OpenSpec.upto kernelTightSpec)

/-- 'flyleaflaw21.KernelNil', WHERE WHAT IT READS IS OF BULK AT MOST 1048576: true; the input reads as it did. -/
def kernelNilUptoRow : OpenClaim := { program := "ytkdjcmpgnkecfaagreatdoor", sum := "a165bf4f0d32510821f304d5756bb74f2e172b7de95551932b494bbd2750b7a7", func := "flyleaf/flyleaflaw21.KernelNil", spec := "kernelNil", inPlace := ["internal/abi.NoEscape", "internal/bytealg.MakeNoZero", "internal/bytealg.IndexByteString", "internal/bytealg.IndexString"], unfollowed := true, recurses := true, named := ["flyleaf/word.widths", "internal/bytealg.MaxLen"], plainKeys := false, apart := false, laid := [("flyleaf/word.widths", laid_flyleaf_word_widths)], narrowed := true }
def KernelNilUptoSaid : Prop := kernelNilUptoRow.holds Tryz.pinned (OpenSpec.upto kernelNilSpec)

/-- 'flyleaftop.TopCounts', WHERE WHAT IT READS IS OF BULK AT MOST 1048576: true; the input reads as it did. -/
def topCountsUptoRow : OpenClaim := { program := "ytkdjcmpgnkecfaagreatdoor", sum := "a165bf4f0d32510821f304d5756bb74f2e172b7de95551932b494bbd2750b7a7", func := "flyleaf/flyleaftop.TopCounts", spec := "topCounts", inPlace := ["internal/abi.NoEscape", "internal/bytealg.MakeNoZero", "internal/bytealg.IndexByteString", "internal/bytealg.IndexString"], unfollowed := true, recurses := true, named := ["internal/bytealg.MaxLen", "flyleaf/word.widths"], plainKeys := false, apart := false, laid := [("flyleaf/word.widths", laid_flyleaf_word_widths)], narrowed := true }
def TopCountsUptoSaid : Prop := topCountsUptoRow.holds Tryz.pinned (OpenSpec.upto topCountsSpec)

end Rows
end Go.Proofs.YtkdjcmpgnkecfaaGreatDoor
