/-
  DERIVED. GIVEN WITH THE SEED: THE CARDS: each row of YtkdjcmpgnkecfaaGreatDoorRows.lean that lists a variable, with what it lists TIED to the program's text (the seventh form; the later family's looks); each row that meets fmt, with fmt's text TOLD by the authors' own Lean function (tested against real Go, not proved from fmt's source: count such statements apart). THE CARD IS WHAT COUNTS. Prove the row's statement (the work); the ties are given (YtkdjcmpgnkecfaaGreatDoorTie.lean); close each card by the builder's one call (the guide's Derived/Test/ToyasCard.lean, 'card_holds'). Laid BY PROGRAM, IN A SANDBOX (cutbox-door.mjs). By AI agents, Wed Nov 11 2026. No macro, syntax, notation, axiom, sorry.
-/
import Derived.Test.YtkdjcmpgnkecfaaGreatDoorRows
import GoSem.ClaimSeven
namespace Go.Proofs.YtkdjcmpgnkecfaaGreatDoor
namespace Rows

/-- THE TIED CARD OF 'flyleaftop.TopSame'. -/
def topSameCard : Claim7 := { stood := { row := topSameRow, standIns := [], harness := (true, "06c809cf3dd6a07f4563166201490ca0eb765c932b78d3ffd1eecd1398c2f928"), looks := false }, kinds := [], alts := [], laidByText := true, laidKinds := [.data], laidTests := true, laidLooks := .later }
def TopSameCardSaid : Prop := Claim7.holds Tryz.pinned (.plain (OpenSpec.ofChange topSameSpec)) topSameCard

/-- THE TIED CARD OF 'flyleaflaw19.SpaceFiles'. -/
def spaceFilesCard : Claim7 := { stood := { row := spaceFilesRow, standIns := [], harness := (true, "06c809cf3dd6a07f4563166201490ca0eb765c932b78d3ffd1eecd1398c2f928"), looks := false }, kinds := [], alts := [], laidByText := true, laidKinds := [.data], laidTests := true, laidLooks := .later }
def SpaceFilesCardSaid : Prop := Claim7.holds Tryz.pinned (.plain (OpenSpec.ofChange spaceFilesSpec)) spaceFilesCard

/-- THE TIED CARD OF 'flyleaflaw19.SpaceFaults'. -/
def spaceFaultsCard : Claim7 := { stood := { row := spaceFaultsRow, standIns := [], harness := (true, "06c809cf3dd6a07f4563166201490ca0eb765c932b78d3ffd1eecd1398c2f928"), looks := false }, kinds := [], alts := [], laidByText := true, laidKinds := [.data], laidTests := true, laidLooks := .later }
def SpaceFaultsCardSaid : Prop := Claim7.holds Tryz.pinned (.plain (OpenSpec.ofChange spaceFaultsSpec)) spaceFaultsCard

/-- THE TIED CARD OF 'flyleaftop.TopApart'. -/
def topApartCard : Claim7 := { stood := { row := topApartRow, standIns := [], harness := (true, "06c809cf3dd6a07f4563166201490ca0eb765c932b78d3ffd1eecd1398c2f928"), looks := false }, kinds := [], alts := [], laidByText := true, laidKinds := [.data], laidTests := true, laidLooks := .later }
def TopApartCardSaid : Prop := Claim7.holds Tryz.pinned (.plain (OpenSpec.ofChange topApartSpec)) topApartCard

/-- THE TIED CARD OF 'flyleaflaw19.SpaceSwaps'. -/
def spaceSwapsCard : Claim7 := { stood := { row := spaceSwapsRow, standIns := [], harness := (true, "06c809cf3dd6a07f4563166201490ca0eb765c932b78d3ffd1eecd1398c2f928"), looks := false }, kinds := [], alts := [], laidByText := true, laidKinds := [.data], laidTests := true, laidLooks := .later }
def SpaceSwapsCardSaid : Prop := Claim7.holds Tryz.pinned (.plain (OpenSpec.ofChange spaceSwapsSpec)) spaceSwapsCard

/-- THE TIED CARD OF 'flyleaflaw19.SpaceShares'. -/
def spaceSharesCard : Claim7 := { stood := { row := spaceSharesRow, standIns := [], harness := (true, "06c809cf3dd6a07f4563166201490ca0eb765c932b78d3ffd1eecd1398c2f928"), looks := false }, kinds := [], alts := [], laidByText := true, laidKinds := [.data], laidTests := true, laidLooks := .later }
def SpaceSharesCardSaid : Prop := Claim7.holds Tryz.pinned (.plain (OpenSpec.ofChange spaceSharesSpec)) spaceSharesCard

/-- THE TIED CARD OF 'flyleaftop.TopRoom'. -/
def topRoomCard : Claim7 := { stood := { row := topRoomRow, standIns := [], harness := (true, "06c809cf3dd6a07f4563166201490ca0eb765c932b78d3ffd1eecd1398c2f928"), looks := false }, kinds := [], alts := [], laidByText := true, laidKinds := [.data], laidTests := true, laidLooks := .later }
def TopRoomCardSaid : Prop := Claim7.holds Tryz.pinned (.plain (OpenSpec.ofChange topRoomSpec)) topRoomCard

/-- THE TIED CARD OF 'flyleaflaw19.SpaceMakes'. -/
def spaceMakesCard : Claim7 := { stood := { row := spaceMakesRow, standIns := [], harness := (true, "06c809cf3dd6a07f4563166201490ca0eb765c932b78d3ffd1eecd1398c2f928"), looks := false }, kinds := [], alts := [], laidByText := true, laidKinds := [.data], laidTests := true, laidLooks := .later }
def SpaceMakesCardSaid : Prop := Claim7.holds Tryz.pinned (.plain (OpenSpec.ofChange spaceMakesSpec)) spaceMakesCard

/-- THE TIED CARD OF 'flyleaflaw19.SpaceTight'. -/
def spaceTightCard : Claim7 := { stood := { row := spaceTightRow, standIns := [], harness := (true, "06c809cf3dd6a07f4563166201490ca0eb765c932b78d3ffd1eecd1398c2f928"), looks := false }, kinds := [], alts := [], laidByText := true, laidKinds := [.data], laidTests := true, laidLooks := .later }
def SpaceTightCardSaid : Prop := Claim7.holds Tryz.pinned (.plain (OpenSpec.ofChange spaceTightSpec)) spaceTightCard

/-- THE TIED CARD OF 'flyleaflaw22.RunsPlay'. -/
def runsPlayCard : Claim7 := { stood := { row := runsPlayRow, standIns := [], harness := (true, "06c809cf3dd6a07f4563166201490ca0eb765c932b78d3ffd1eecd1398c2f928"), looks := false }, kinds := [], alts := [], laidByText := true, laidKinds := [.data], laidTests := true, laidLooks := .later }
def RunsPlayCardSaid : Prop := Claim7.holds Tryz.pinned (.plain (OpenSpec.ofChange runsPlaySpec)) runsPlayCard

/-- THE TIED CARD OF 'flyleaflaw21.KernelTells'. -/
def kernelTellsCard : Claim7 := { stood := { row := kernelTellsRow, standIns := [], harness := (true, "06c809cf3dd6a07f4563166201490ca0eb765c932b78d3ffd1eecd1398c2f928"), looks := false }, kinds := [], alts := [], laidByText := true, laidKinds := [.data], laidTests := true, laidLooks := .later }
def KernelTellsCardSaid : Prop := Claim7.holds Tryz.pinned (.plain (OpenSpec.ofChange kernelTellsSpec)) kernelTellsCard

/-- THE TIED CARD OF 'flyleaflaw21.KernelStacks'. -/
def kernelStacksCard : Claim7 := { stood := { row := kernelStacksRow, standIns := [], harness := (true, "06c809cf3dd6a07f4563166201490ca0eb765c932b78d3ffd1eecd1398c2f928"), looks := false }, kinds := [], alts := [], laidByText := true, laidKinds := [.data], laidTests := true, laidLooks := .later }
def KernelStacksCardSaid : Prop := Claim7.holds Tryz.pinned (.plain (OpenSpec.ofChange kernelStacksSpec)) kernelStacksCard

/-- THE TIED CARD OF 'flyleaflaw21.KernelApart'. -/
def kernelApartCard : Claim7 := { stood := { row := kernelApartRow, standIns := [], harness := (true, "06c809cf3dd6a07f4563166201490ca0eb765c932b78d3ffd1eecd1398c2f928"), looks := false }, kinds := [], alts := [], laidByText := true, laidKinds := [.data], laidTests := true, laidLooks := .later }
def KernelApartCardSaid : Prop := Claim7.holds Tryz.pinned (.plain (OpenSpec.ofChange kernelApartSpec)) kernelApartCard

/-- THE TIED CARD OF 'flyleaflaw21.KernelHeaps'. -/
def kernelHeapsCard : Claim7 := { stood := { row := kernelHeapsRow, standIns := [], harness := (true, "06c809cf3dd6a07f4563166201490ca0eb765c932b78d3ffd1eecd1398c2f928"), looks := false }, kinds := [], alts := [], laidByText := true, laidKinds := [.data], laidTests := true, laidLooks := .later }
def KernelHeapsCardSaid : Prop := Claim7.holds Tryz.pinned (.plain (OpenSpec.ofChange kernelHeapsSpec)) kernelHeapsCard

/-- THE TIED CARD OF 'flyleaflaw21.KernelPlays'. -/
def kernelPlaysCard : Claim7 := { stood := { row := kernelPlaysRow, standIns := [], harness := (true, "06c809cf3dd6a07f4563166201490ca0eb765c932b78d3ffd1eecd1398c2f928"), looks := false }, kinds := [], alts := [], laidByText := true, laidKinds := [.data], laidTests := true, laidLooks := .later }
def KernelPlaysCardSaid : Prop := Claim7.holds Tryz.pinned (.plain (OpenSpec.ofChange kernelPlaysSpec)) kernelPlaysCard

/-- THE TIED CARD OF 'flyleaflaw21.KernelTight'. -/
def kernelTightCard : Claim7 := { stood := { row := kernelTightRow, standIns := [], harness := (true, "06c809cf3dd6a07f4563166201490ca0eb765c932b78d3ffd1eecd1398c2f928"), looks := false }, kinds := [], alts := [], laidByText := true, laidKinds := [.data], laidTests := true, laidLooks := .later }
def KernelTightCardSaid : Prop := Claim7.holds Tryz.pinned (.plain (OpenSpec.ofChange kernelTightSpec)) kernelTightCard

/-- THE TIED CARD OF 'flyleaflaw21.KernelNil'. -/
def kernelNilCard : Claim7 := { stood := { row := kernelNilRow, standIns := [], harness := (true, "06c809cf3dd6a07f4563166201490ca0eb765c932b78d3ffd1eecd1398c2f928"), looks := false }, kinds := [], alts := [], laidByText := true, laidKinds := [.data], laidTests := true, laidLooks := .later }
def KernelNilCardSaid : Prop := Claim7.holds Tryz.pinned (.plain (OpenSpec.ofChange kernelNilSpec)) kernelNilCard

/-- THE TIED CARD OF 'flyleaftop.TopCounts'. -/
def topCountsCard : Claim7 := { stood := { row := topCountsRow, standIns := [], harness := (true, "06c809cf3dd6a07f4563166201490ca0eb765c932b78d3ffd1eecd1398c2f928"), looks := false }, kinds := [], alts := [], laidByText := true, laidKinds := [.data], laidTests := true, laidLooks := .later }
def TopCountsCardSaid : Prop := Claim7.holds Tryz.pinned (.plain (OpenSpec.ofChange topCountsSpec)) topCountsCard

/-- THE SECOND FORM's CARD OF 'flyleaftop.TopSame'. -/
def topSameUptoCard : Claim7 := { stood := { row := topSameUptoRow, standIns := [], harness := (true, "06c809cf3dd6a07f4563166201490ca0eb765c932b78d3ffd1eecd1398c2f928"), looks := false }, kinds := [], alts := [], laidByText := true, laidKinds := [.data], laidTests := true, laidLooks := .later }
def TopSameUptoCardSaid : Prop := Claim7.holds Tryz.pinned (.plain (OpenSpec.upto topSameSpec)) topSameUptoCard

/-- THE SECOND FORM's CARD OF 'flyleaflaw19.SpaceFiles'. -/
def spaceFilesUptoCard : Claim7 := { stood := { row := spaceFilesUptoRow, standIns := [], harness := (true, "06c809cf3dd6a07f4563166201490ca0eb765c932b78d3ffd1eecd1398c2f928"), looks := false }, kinds := [], alts := [], laidByText := true, laidKinds := [.data], laidTests := true, laidLooks := .later }
def SpaceFilesUptoCardSaid : Prop := Claim7.holds Tryz.pinned (.plain (OpenSpec.upto spaceFilesSpec)) spaceFilesUptoCard

/-- THE SECOND FORM's CARD OF 'flyleaflaw19.SpaceFaults'. -/
def spaceFaultsUptoCard : Claim7 := { stood := { row := spaceFaultsUptoRow, standIns := [], harness := (true, "06c809cf3dd6a07f4563166201490ca0eb765c932b78d3ffd1eecd1398c2f928"), looks := false }, kinds := [], alts := [], laidByText := true, laidKinds := [.data], laidTests := true, laidLooks := .later }
def SpaceFaultsUptoCardSaid : Prop := Claim7.holds Tryz.pinned (.plain (OpenSpec.upto spaceFaultsSpec)) spaceFaultsUptoCard

/-- THE SECOND FORM's CARD OF 'flyleaftop.TopApart'. -/
def topApartUptoCard : Claim7 := { stood := { row := topApartUptoRow, standIns := [], harness := (true, "06c809cf3dd6a07f4563166201490ca0eb765c932b78d3ffd1eecd1398c2f928"), looks := false }, kinds := [], alts := [], laidByText := true, laidKinds := [.data], laidTests := true, laidLooks := .later }
def TopApartUptoCardSaid : Prop := Claim7.holds Tryz.pinned (.plain (OpenSpec.upto topApartSpec)) topApartUptoCard

/-- THE SECOND FORM's CARD OF 'flyleaflaw19.SpaceSwaps'. -/
def spaceSwapsUptoCard : Claim7 := { stood := { row := spaceSwapsUptoRow, standIns := [], harness := (true, "06c809cf3dd6a07f4563166201490ca0eb765c932b78d3ffd1eecd1398c2f928"), looks := false }, kinds := [], alts := [], laidByText := true, laidKinds := [.data], laidTests := true, laidLooks := .later }
def SpaceSwapsUptoCardSaid : Prop := Claim7.holds Tryz.pinned (.plain (OpenSpec.upto spaceSwapsSpec)) spaceSwapsUptoCard

/-- THE SECOND FORM's CARD OF 'flyleaflaw19.SpaceShares'. -/
def spaceSharesUptoCard : Claim7 := { stood := { row := spaceSharesUptoRow, standIns := [], harness := (true, "06c809cf3dd6a07f4563166201490ca0eb765c932b78d3ffd1eecd1398c2f928"), looks := false }, kinds := [], alts := [], laidByText := true, laidKinds := [.data], laidTests := true, laidLooks := .later }
def SpaceSharesUptoCardSaid : Prop := Claim7.holds Tryz.pinned (.plain (OpenSpec.upto spaceSharesSpec)) spaceSharesUptoCard

/-- THE SECOND FORM's CARD OF 'flyleaftop.TopRoom'. -/
def topRoomUptoCard : Claim7 := { stood := { row := topRoomUptoRow, standIns := [], harness := (true, "06c809cf3dd6a07f4563166201490ca0eb765c932b78d3ffd1eecd1398c2f928"), looks := false }, kinds := [], alts := [], laidByText := true, laidKinds := [.data], laidTests := true, laidLooks := .later }
def TopRoomUptoCardSaid : Prop := Claim7.holds Tryz.pinned (.plain (OpenSpec.upto topRoomSpec)) topRoomUptoCard

/-- THE SECOND FORM's CARD OF 'flyleaflaw19.SpaceMakes'. -/
def spaceMakesUptoCard : Claim7 := { stood := { row := spaceMakesUptoRow, standIns := [], harness := (true, "06c809cf3dd6a07f4563166201490ca0eb765c932b78d3ffd1eecd1398c2f928"), looks := false }, kinds := [], alts := [], laidByText := true, laidKinds := [.data], laidTests := true, laidLooks := .later }
def SpaceMakesUptoCardSaid : Prop := Claim7.holds Tryz.pinned (.plain (OpenSpec.upto spaceMakesSpec)) spaceMakesUptoCard

/-- THE SECOND FORM's CARD OF 'flyleaflaw19.SpaceTight'. -/
def spaceTightUptoCard : Claim7 := { stood := { row := spaceTightUptoRow, standIns := [], harness := (true, "06c809cf3dd6a07f4563166201490ca0eb765c932b78d3ffd1eecd1398c2f928"), looks := false }, kinds := [], alts := [], laidByText := true, laidKinds := [.data], laidTests := true, laidLooks := .later }
def SpaceTightUptoCardSaid : Prop := Claim7.holds Tryz.pinned (.plain (OpenSpec.upto spaceTightSpec)) spaceTightUptoCard

/-- THE SECOND FORM's CARD OF 'flyleaflaw22.RunsPlay'. -/
def runsPlayUptoCard : Claim7 := { stood := { row := runsPlayUptoRow, standIns := [], harness := (true, "06c809cf3dd6a07f4563166201490ca0eb765c932b78d3ffd1eecd1398c2f928"), looks := false }, kinds := [], alts := [], laidByText := true, laidKinds := [.data], laidTests := true, laidLooks := .later }
def RunsPlayUptoCardSaid : Prop := Claim7.holds Tryz.pinned (.plain (OpenSpec.upto runsPlaySpec)) runsPlayUptoCard

/-- THE SECOND FORM's CARD OF 'flyleaflaw21.KernelTells'. -/
def kernelTellsUptoCard : Claim7 := { stood := { row := kernelTellsUptoRow, standIns := [], harness := (true, "06c809cf3dd6a07f4563166201490ca0eb765c932b78d3ffd1eecd1398c2f928"), looks := false }, kinds := [], alts := [], laidByText := true, laidKinds := [.data], laidTests := true, laidLooks := .later }
def KernelTellsUptoCardSaid : Prop := Claim7.holds Tryz.pinned (.plain (OpenSpec.upto kernelTellsSpec)) kernelTellsUptoCard

/-- THE SECOND FORM's CARD OF 'flyleaflaw21.KernelStacks'. -/
def kernelStacksUptoCard : Claim7 := { stood := { row := kernelStacksUptoRow, standIns := [], harness := (true, "06c809cf3dd6a07f4563166201490ca0eb765c932b78d3ffd1eecd1398c2f928"), looks := false }, kinds := [], alts := [], laidByText := true, laidKinds := [.data], laidTests := true, laidLooks := .later }
def KernelStacksUptoCardSaid : Prop := Claim7.holds Tryz.pinned (.plain (OpenSpec.upto kernelStacksSpec)) kernelStacksUptoCard

/-- THE SECOND FORM's CARD OF 'flyleaflaw21.KernelApart'. -/
def kernelApartUptoCard : Claim7 := { stood := { row := kernelApartUptoRow, standIns := [], harness := (true, "06c809cf3dd6a07f4563166201490ca0eb765c932b78d3ffd1eecd1398c2f928"), looks := false }, kinds := [], alts := [], laidByText := true, laidKinds := [.data], laidTests := true, laidLooks := .later }
def KernelApartUptoCardSaid : Prop := Claim7.holds Tryz.pinned (.plain (OpenSpec.upto kernelApartSpec)) kernelApartUptoCard

/-- THE SECOND FORM's CARD OF 'flyleaflaw21.KernelHeaps'. -/
def kernelHeapsUptoCard : Claim7 := { stood := { row := kernelHeapsUptoRow, standIns := [], harness := (true, "06c809cf3dd6a07f4563166201490ca0eb765c932b78d3ffd1eecd1398c2f928"), looks := false }, kinds := [], alts := [], laidByText := true, laidKinds := [.data], laidTests := true, laidLooks := .later }
def KernelHeapsUptoCardSaid : Prop := Claim7.holds Tryz.pinned (.plain (OpenSpec.upto kernelHeapsSpec)) kernelHeapsUptoCard

/-- THE SECOND FORM's CARD OF 'flyleaflaw21.KernelPlays'. -/
def kernelPlaysUptoCard : Claim7 := { stood := { row := kernelPlaysUptoRow, standIns := [], harness := (true, "06c809cf3dd6a07f4563166201490ca0eb765c932b78d3ffd1eecd1398c2f928"), looks := false }, kinds := [], alts := [], laidByText := true, laidKinds := [.data], laidTests := true, laidLooks := .later }
def KernelPlaysUptoCardSaid : Prop := Claim7.holds Tryz.pinned (.plain (OpenSpec.upto kernelPlaysSpec)) kernelPlaysUptoCard

/-- THE SECOND FORM's CARD OF 'flyleaflaw21.KernelTight'. -/
def kernelTightUptoCard : Claim7 := { stood := { row := kernelTightUptoRow, standIns := [], harness := (true, "06c809cf3dd6a07f4563166201490ca0eb765c932b78d3ffd1eecd1398c2f928"), looks := false }, kinds := [], alts := [], laidByText := true, laidKinds := [.data], laidTests := true, laidLooks := .later }
def KernelTightUptoCardSaid : Prop := Claim7.holds Tryz.pinned (.plain (OpenSpec.upto kernelTightSpec)) kernelTightUptoCard

/-- THE SECOND FORM's CARD OF 'flyleaflaw21.KernelNil'. -/
def kernelNilUptoCard : Claim7 := { stood := { row := kernelNilUptoRow, standIns := [], harness := (true, "06c809cf3dd6a07f4563166201490ca0eb765c932b78d3ffd1eecd1398c2f928"), looks := false }, kinds := [], alts := [], laidByText := true, laidKinds := [.data], laidTests := true, laidLooks := .later }
def KernelNilUptoCardSaid : Prop := Claim7.holds Tryz.pinned (.plain (OpenSpec.upto kernelNilSpec)) kernelNilUptoCard

/-- THE SECOND FORM's CARD OF 'flyleaftop.TopCounts'. -/
def topCountsUptoCard : Claim7 := { stood := { row := topCountsUptoRow, standIns := [], harness := (true, "06c809cf3dd6a07f4563166201490ca0eb765c932b78d3ffd1eecd1398c2f928"), looks := false }, kinds := [], alts := [], laidByText := true, laidKinds := [.data], laidTests := true, laidLooks := .later }
def TopCountsUptoCardSaid : Prop := Claim7.holds Tryz.pinned (.plain (OpenSpec.upto topCountsSpec)) topCountsUptoCard
end Rows
end Go.Proofs.YtkdjcmpgnkecfaaGreatDoor
