/-
  DERIVED. GIVEN WITH THE SEED: THE CARDS: each row of YtjclbapcmepnpaaGreatDoorRows.lean that lists a variable, with what it lists TIED to the program's text (the seventh form; the later family's looks); each row that meets fmt, with fmt's text TOLD by the authors' own Lean function (tested against real Go, not proved from fmt's source: count such statements apart). THE CARD IS WHAT COUNTS. Prove the row's statement (the work); the ties are given (YtjclbapcmepnpaaGreatDoorTie.lean); close each card by the builder's one call (the guide's Derived/Test/ToyasCard.lean, 'card_holds'). Laid BY PROGRAM, IN A SANDBOX (cutbox-door.mjs). By AI agents, Wed Nov 11 2026. No macro, syntax, notation, axiom, sorry.
-/
import Derived.Test.YtjclbapcmepnpaaGreatDoorRows
import GoSem.ClaimSeven
namespace Go.Proofs.YtjclbapcmepnpaaGreatDoor
namespace Rows

/-- THE TIED CARD OF 'mastheadlaw20.TreePlays'. -/
def treePlaysCard : Claim7 := { stood := { row := treePlaysRow, standIns := [], harness := (true, "15ac158f6cf1a1d9ace253b48ed8666401a3e9c8d6b5b4d5cd51c3f11a1d3e71"), looks := false }, kinds := [], alts := [], laidByText := true, laidKinds := [.data], laidTests := true, laidLooks := .later }
def TreePlaysCardSaid : Prop := Claim7.holds Tryz.pinned (.plain (OpenSpec.ofChange treePlaysSpec)) treePlaysCard

/-- THE TIED CARD OF 'mastheadlaw20.TreeFull'. -/
def treeFullCard : Claim7 := { stood := { row := treeFullRow, standIns := [], harness := (true, "15ac158f6cf1a1d9ace253b48ed8666401a3e9c8d6b5b4d5cd51c3f11a1d3e71"), looks := false }, kinds := [], alts := [], laidByText := true, laidKinds := [.data], laidTests := true, laidLooks := .later }
def TreeFullCardSaid : Prop := Claim7.holds Tryz.pinned (.plain (OpenSpec.ofChange treeFullSpec)) treeFullCard

/-- THE TIED CARD OF 'mastheadlaw20.TreeTwice'. -/
def treeTwiceCard : Claim7 := { stood := { row := treeTwiceRow, standIns := [], harness := (true, "15ac158f6cf1a1d9ace253b48ed8666401a3e9c8d6b5b4d5cd51c3f11a1d3e71"), looks := false }, kinds := [], alts := [], laidByText := true, laidKinds := [.data], laidTests := true, laidLooks := .later }
def TreeTwiceCardSaid : Prop := Claim7.holds Tryz.pinned (.plain (OpenSpec.ofChange treeTwiceSpec)) treeTwiceCard

/-- THE TIED CARD OF 'mastheadlaw20.TreeTells'. -/
def treeTellsCard : Claim7 := { stood := { row := treeTellsRow, standIns := [], harness := (true, "15ac158f6cf1a1d9ace253b48ed8666401a3e9c8d6b5b4d5cd51c3f11a1d3e71"), looks := false }, kinds := [], alts := [], laidByText := true, laidKinds := [.data], laidTests := true, laidLooks := .later }
def TreeTellsCardSaid : Prop := Claim7.holds Tryz.pinned (.plain (OpenSpec.ofChange treeTellsSpec)) treeTellsCard

/-- THE TIED CARD OF 'mastheadlaw20.TreeRight'. -/
def treeRightCard : Claim7 := { stood := { row := treeRightRow, standIns := [], harness := (true, "15ac158f6cf1a1d9ace253b48ed8666401a3e9c8d6b5b4d5cd51c3f11a1d3e71"), looks := false }, kinds := [], alts := [], laidByText := true, laidKinds := [.data], laidTests := true, laidLooks := .later }
def TreeRightCardSaid : Prop := Claim7.holds Tryz.pinned (.plain (OpenSpec.ofChange treeRightSpec)) treeRightCard

/-- THE TIED CARD OF 'mastheadlaw20.TreeMost'. -/
def treeMostCard : Claim7 := { stood := { row := treeMostRow, standIns := [], harness := (true, "15ac158f6cf1a1d9ace253b48ed8666401a3e9c8d6b5b4d5cd51c3f11a1d3e71"), looks := false }, kinds := [], alts := [], laidByText := true, laidKinds := [.data], laidTests := true, laidLooks := .later }
def TreeMostCardSaid : Prop := Claim7.holds Tryz.pinned (.plain (OpenSpec.ofChange treeMostSpec)) treeMostCard

/-- THE SECOND FORM's CARD OF 'mastheadlaw20.TreePlays'. -/
def treePlaysUptoCard : Claim7 := { stood := { row := treePlaysUptoRow, standIns := [], harness := (true, "15ac158f6cf1a1d9ace253b48ed8666401a3e9c8d6b5b4d5cd51c3f11a1d3e71"), looks := false }, kinds := [], alts := [], laidByText := true, laidKinds := [.data], laidTests := true, laidLooks := .later }
def TreePlaysUptoCardSaid : Prop := Claim7.holds Tryz.pinned (.plain (OpenSpec.upto treePlaysSpec)) treePlaysUptoCard

/-- THE SECOND FORM's CARD OF 'mastheadlaw20.TreeFull'. -/
def treeFullUptoCard : Claim7 := { stood := { row := treeFullUptoRow, standIns := [], harness := (true, "15ac158f6cf1a1d9ace253b48ed8666401a3e9c8d6b5b4d5cd51c3f11a1d3e71"), looks := false }, kinds := [], alts := [], laidByText := true, laidKinds := [.data], laidTests := true, laidLooks := .later }
def TreeFullUptoCardSaid : Prop := Claim7.holds Tryz.pinned (.plain (OpenSpec.upto treeFullSpec)) treeFullUptoCard

/-- THE SECOND FORM's CARD OF 'mastheadlaw20.TreeTwice'. -/
def treeTwiceUptoCard : Claim7 := { stood := { row := treeTwiceUptoRow, standIns := [], harness := (true, "15ac158f6cf1a1d9ace253b48ed8666401a3e9c8d6b5b4d5cd51c3f11a1d3e71"), looks := false }, kinds := [], alts := [], laidByText := true, laidKinds := [.data], laidTests := true, laidLooks := .later }
def TreeTwiceUptoCardSaid : Prop := Claim7.holds Tryz.pinned (.plain (OpenSpec.upto treeTwiceSpec)) treeTwiceUptoCard

/-- THE SECOND FORM's CARD OF 'mastheadlaw20.TreeTells'. -/
def treeTellsUptoCard : Claim7 := { stood := { row := treeTellsUptoRow, standIns := [], harness := (true, "15ac158f6cf1a1d9ace253b48ed8666401a3e9c8d6b5b4d5cd51c3f11a1d3e71"), looks := false }, kinds := [], alts := [], laidByText := true, laidKinds := [.data], laidTests := true, laidLooks := .later }
def TreeTellsUptoCardSaid : Prop := Claim7.holds Tryz.pinned (.plain (OpenSpec.upto treeTellsSpec)) treeTellsUptoCard

/-- THE SECOND FORM's CARD OF 'mastheadlaw20.TreeRight'. -/
def treeRightUptoCard : Claim7 := { stood := { row := treeRightUptoRow, standIns := [], harness := (true, "15ac158f6cf1a1d9ace253b48ed8666401a3e9c8d6b5b4d5cd51c3f11a1d3e71"), looks := false }, kinds := [], alts := [], laidByText := true, laidKinds := [.data], laidTests := true, laidLooks := .later }
def TreeRightUptoCardSaid : Prop := Claim7.holds Tryz.pinned (.plain (OpenSpec.upto treeRightSpec)) treeRightUptoCard

/-- THE SECOND FORM's CARD OF 'mastheadlaw20.TreeMost'. -/
def treeMostUptoCard : Claim7 := { stood := { row := treeMostUptoRow, standIns := [], harness := (true, "15ac158f6cf1a1d9ace253b48ed8666401a3e9c8d6b5b4d5cd51c3f11a1d3e71"), looks := false }, kinds := [], alts := [], laidByText := true, laidKinds := [.data], laidTests := true, laidLooks := .later }
def TreeMostUptoCardSaid : Prop := Claim7.holds Tryz.pinned (.plain (OpenSpec.upto treeMostSpec)) treeMostUptoCard
end Rows
end Go.Proofs.YtjclbapcmepnpaaGreatDoor
