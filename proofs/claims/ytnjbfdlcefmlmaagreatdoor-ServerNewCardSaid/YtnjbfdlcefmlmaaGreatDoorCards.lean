/-
  DERIVED. GIVEN WITH THE SEED: THE CARDS: each row of YtnjbfdlcefmlmaaGreatDoorRows.lean that lists a variable, with what it lists TIED to the program's text (the seventh form; the later family's looks); each row that meets fmt, with fmt's text TOLD by the authors' own Lean function (tested against real Go, not proved from fmt's source: count such statements apart). THE CARD IS WHAT COUNTS. Prove the row's statement (the work); the ties are given (YtnjbfdlcefmlmaaGreatDoorTie.lean); close each card by the builder's one call (the guide's Derived/Test/ToyasCard.lean, 'card_holds'). Laid BY PROGRAM, IN A SANDBOX (cutbox-door.mjs). By AI agents, Wed Nov 11 2026. No macro, syntax, notation, axiom, sorry.
-/
import Derived.Test.YtnjbfdlcefmlmaaGreatDoorRows
import GoSem.ClaimSeven
namespace Go.Proofs.YtnjbfdlcefmlmaaGreatDoor
namespace Rows

/-- THE TIED CARD OF 'mastheadlaw23.ServerNew'. -/
def serverNewCard : Claim7 := { stood := { row := serverNewRow, standIns := [], harness := (true, "63b86a4d817812904c10727a7a765302350dd1f83bedddd7044823353e783040"), looks := false }, kinds := [], alts := [], laidByText := true, laidKinds := [.data], laidTests := true, laidLooks := .later }
def ServerNewCardSaid : Prop := Claim7.holds Tryz.pinned (.plain (OpenSpec.ofChange serverNewSpec)) serverNewCard

/-- THE TIED CARD OF 'mastheadlaw23.ServerLeads'. -/
def serverLeadsCard : Claim7 := { stood := { row := serverLeadsRow, standIns := [], harness := (true, "63b86a4d817812904c10727a7a765302350dd1f83bedddd7044823353e783040"), looks := false }, kinds := [], alts := [], laidByText := true, laidKinds := [.data], laidTests := true, laidLooks := .later }
def ServerLeadsCardSaid : Prop := Claim7.holds Tryz.pinned (.plain (OpenSpec.ofChange serverLeadsSpec)) serverLeadsCard

/-- THE SECOND FORM's CARD OF 'mastheadlaw23.ServerNew'. -/
def serverNewUptoCard : Claim7 := { stood := { row := serverNewUptoRow, standIns := [], harness := (true, "63b86a4d817812904c10727a7a765302350dd1f83bedddd7044823353e783040"), looks := false }, kinds := [], alts := [], laidByText := true, laidKinds := [.data], laidTests := true, laidLooks := .later }
def ServerNewUptoCardSaid : Prop := Claim7.holds Tryz.pinned (.plain (OpenSpec.upto serverNewSpec)) serverNewUptoCard

/-- THE SECOND FORM's CARD OF 'mastheadlaw23.ServerLeads'. -/
def serverLeadsUptoCard : Claim7 := { stood := { row := serverLeadsUptoRow, standIns := [], harness := (true, "63b86a4d817812904c10727a7a765302350dd1f83bedddd7044823353e783040"), looks := false }, kinds := [], alts := [], laidByText := true, laidKinds := [.data], laidTests := true, laidLooks := .later }
def ServerLeadsUptoCardSaid : Prop := Claim7.holds Tryz.pinned (.plain (OpenSpec.upto serverLeadsSpec)) serverLeadsUptoCard
end Rows
end Go.Proofs.YtnjbfdlcefmlmaaGreatDoor
