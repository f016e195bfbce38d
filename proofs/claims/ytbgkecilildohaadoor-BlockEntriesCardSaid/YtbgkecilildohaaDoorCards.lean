/-
  DERIVED. GIVEN WITH THE SEED: THE CARDS: each row of YtbgkecilildohaaDoorRows.lean that lists a variable, with what it lists TIED to the program's text (the seventh form; the later family's looks); each row that meets fmt, with fmt's text TOLD by the authors' own Lean function (tested against real Go, not proved from fmt's source: count such statements apart). THE CARD IS WHAT COUNTS. Prove the row's statement (the work); the ties are given (YtbgkecilildohaaDoorTie.lean); close each card by the builder's one call (the guide's Derived/Test/ToyasCard.lean, 'card_holds'). Laid BY PROGRAM, IN A SANDBOX (cutbox-door.mjs). By AI agents, Wed Nov 11 2026. No macro, syntax, notation, axiom, sorry.
-/
import Derived.Test.YtbgkecilildohaaDoorRows
import GoSem.ClaimSeven
namespace Go.Proofs.YtbgkecilildohaaDoor
namespace Rows

/-- THE TIED CARD OF 'mastheadlaw15.BlockChecks'. -/
def blockChecksCard : Claim7 := { stood := { row := blockChecksRow, standIns := [], harness := (true, "81aa3baaf27c2597ce7a9c00b5efbc96187295597018eae5e054168477d93152"), looks := false }, kinds := [], alts := [], laidByText := true, laidKinds := [.data], laidTests := true, laidLooks := .later }
def BlockChecksCardSaid : Prop := Claim7.holds Tryd.pinned (.plain (OpenSpec.ofChange blockChecksSpec)) blockChecksCard

/-- THE TIED CARD OF 'mastheadlaw15.BlockMakes'. -/
def blockMakesCard : Claim7 := { stood := { row := blockMakesRow, standIns := [], harness := (true, "81aa3baaf27c2597ce7a9c00b5efbc96187295597018eae5e054168477d93152"), looks := false }, kinds := [], alts := [], laidByText := true, laidKinds := [.data], laidTests := true, laidLooks := .later }
def BlockMakesCardSaid : Prop := Claim7.holds Tryd.pinned (.plain (OpenSpec.ofChange blockMakesSpec)) blockMakesCard

/-- THE TIED CARD OF 'mastheadlaw15.BlockProves'. -/
def blockProvesCard : Claim7 := { stood := { row := blockProvesRow, standIns := [], harness := (true, "81aa3baaf27c2597ce7a9c00b5efbc96187295597018eae5e054168477d93152"), looks := false }, kinds := [], alts := [], laidByText := true, laidKinds := [.data], laidTests := true, laidLooks := .later }
def BlockProvesCardSaid : Prop := Claim7.holds Tryd.pinned (.plain (OpenSpec.ofChange blockProvesSpec)) blockProvesCard

/-- THE TIED CARD OF 'mastheadlaw15.BlockEntries'. -/
def blockEntriesCard : Claim7 := { stood := { row := blockEntriesRow, standIns := [], harness := (true, "81aa3baaf27c2597ce7a9c00b5efbc96187295597018eae5e054168477d93152"), looks := false }, kinds := [], alts := [], laidByText := true, laidKinds := [.data], laidTests := true, laidLooks := .later }
def BlockEntriesCardSaid : Prop := Claim7.holds Tryd.pinned (.plain (OpenSpec.ofChange blockEntriesSpec)) blockEntriesCard

/-- THE SECOND FORM's CARD OF 'mastheadlaw15.BlockChecks'. -/
def blockChecksUptoCard : Claim7 := { stood := { row := blockChecksUptoRow, standIns := [], harness := (true, "81aa3baaf27c2597ce7a9c00b5efbc96187295597018eae5e054168477d93152"), looks := false }, kinds := [], alts := [], laidByText := true, laidKinds := [.data], laidTests := true, laidLooks := .later }
def BlockChecksUptoCardSaid : Prop := Claim7.holds Tryd.pinned (.plain (OpenSpec.upto blockChecksSpec)) blockChecksUptoCard

/-- THE SECOND FORM's CARD OF 'mastheadlaw15.BlockMakes'. -/
def blockMakesUptoCard : Claim7 := { stood := { row := blockMakesUptoRow, standIns := [], harness := (true, "81aa3baaf27c2597ce7a9c00b5efbc96187295597018eae5e054168477d93152"), looks := false }, kinds := [], alts := [], laidByText := true, laidKinds := [.data], laidTests := true, laidLooks := .later }
def BlockMakesUptoCardSaid : Prop := Claim7.holds Tryd.pinned (.plain (OpenSpec.upto blockMakesSpec)) blockMakesUptoCard

/-- THE SECOND FORM's CARD OF 'mastheadlaw15.BlockProves'. -/
def blockProvesUptoCard : Claim7 := { stood := { row := blockProvesUptoRow, standIns := [], harness := (true, "81aa3baaf27c2597ce7a9c00b5efbc96187295597018eae5e054168477d93152"), looks := false }, kinds := [], alts := [], laidByText := true, laidKinds := [.data], laidTests := true, laidLooks := .later }
def BlockProvesUptoCardSaid : Prop := Claim7.holds Tryd.pinned (.plain (OpenSpec.upto blockProvesSpec)) blockProvesUptoCard

/-- THE SECOND FORM's CARD OF 'mastheadlaw15.BlockEntries'. -/
def blockEntriesUptoCard : Claim7 := { stood := { row := blockEntriesUptoRow, standIns := [], harness := (true, "81aa3baaf27c2597ce7a9c00b5efbc96187295597018eae5e054168477d93152"), looks := false }, kinds := [], alts := [], laidByText := true, laidKinds := [.data], laidTests := true, laidLooks := .later }
def BlockEntriesUptoCardSaid : Prop := Claim7.holds Tryd.pinned (.plain (OpenSpec.upto blockEntriesSpec)) blockEntriesUptoCard
end Rows
end Go.Proofs.YtbgkecilildohaaDoor
