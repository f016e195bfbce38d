/-
  DERIVED. GIVEN WITH THE SEED: THE CARDS: each row of YtdlipfcaomomfaaDoorRows.lean that lists a variable, with what it lists TIED to the program's text (the seventh form; the later family's looks); each row that meets fmt, with fmt's text TOLD by the authors' own Lean function (tested against real Go, not proved from fmt's source: count such statements apart). THE CARD IS WHAT COUNTS. Prove the row's statement (the work); the ties are given (YtdlipfcaomomfaaDoorTie.lean); close each card by the builder's one call (the guide's Derived/Test/ToyasCard.lean, 'card_holds'). Laid BY PROGRAM, IN A SANDBOX (cutbox-door.mjs). By AI agents, Wed Nov 11 2026. No macro, syntax, notation, axiom, sorry.
-/
import Derived.Test.YtdlipfcaomomfaaDoorRows
import GoSem.ClaimSeven
namespace Go.Proofs.YtdlipfcaomomfaaDoor
namespace Rows

/-- THE TIED CARD OF 'mastheadlaw22.DepotNews'. -/
def depotNewsCard : Claim7 := { stood := { row := depotNewsRow, standIns := [], harness := (true, "2ba10b98f001ace8d685f5df0dfd22d124bd445328697a34ace9f0ff539ea166"), looks := false }, kinds := [], alts := [], laidByText := true, laidKinds := [.data], laidTests := true, laidLooks := .later }
def DepotNewsCardSaid : Prop := Claim7.holds Tryd.pinned (.plain (OpenSpec.ofChange depotNewsSpec)) depotNewsCard

/-- THE TIED CARD OF 'mastheadlaw22.DepotHeads'. -/
def depotHeadsCard : Claim7 := { stood := { row := depotHeadsRow, standIns := [], harness := (true, "2ba10b98f001ace8d685f5df0dfd22d124bd445328697a34ace9f0ff539ea166"), looks := false }, kinds := [], alts := [], laidByText := true, laidKinds := [.data], laidTests := true, laidLooks := .later }
def DepotHeadsCardSaid : Prop := Claim7.holds Tryd.pinned (.plain (OpenSpec.ofChange depotHeadsSpec)) depotHeadsCard

/-- THE SECOND FORM's CARD OF 'mastheadlaw22.DepotNews'. -/
def depotNewsUptoCard : Claim7 := { stood := { row := depotNewsUptoRow, standIns := [], harness := (true, "2ba10b98f001ace8d685f5df0dfd22d124bd445328697a34ace9f0ff539ea166"), looks := false }, kinds := [], alts := [], laidByText := true, laidKinds := [.data], laidTests := true, laidLooks := .later }
def DepotNewsUptoCardSaid : Prop := Claim7.holds Tryd.pinned (.plain (OpenSpec.upto depotNewsSpec)) depotNewsUptoCard

/-- THE SECOND FORM's CARD OF 'mastheadlaw22.DepotHeads'. -/
def depotHeadsUptoCard : Claim7 := { stood := { row := depotHeadsUptoRow, standIns := [], harness := (true, "2ba10b98f001ace8d685f5df0dfd22d124bd445328697a34ace9f0ff539ea166"), looks := false }, kinds := [], alts := [], laidByText := true, laidKinds := [.data], laidTests := true, laidLooks := .later }
def DepotHeadsUptoCardSaid : Prop := Claim7.holds Tryd.pinned (.plain (OpenSpec.upto depotHeadsSpec)) depotHeadsUptoCard
end Rows
end Go.Proofs.YtdlipfcaomomfaaDoor
