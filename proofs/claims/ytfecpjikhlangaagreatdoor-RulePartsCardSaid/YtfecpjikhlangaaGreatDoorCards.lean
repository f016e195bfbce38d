/-
  DERIVED. GIVEN WITH THE SEED: THE CARDS: each row of YtfecpjikhlangaaGreatDoorRows.lean that lists a variable, with what it lists TIED to the program's text (the seventh form; the later family's looks); each row that meets fmt, with fmt's text TOLD by the authors' own Lean function (tested against real Go, not proved from fmt's source: count such statements apart). THE CARD IS WHAT COUNTS. Prove the row's statement (the work); the ties are given (YtfecpjikhlangaaGreatDoorTie.lean); close each card by the builder's one call (the guide's Derived/Test/ToyasCard.lean, 'card_holds'). Laid BY PROGRAM, IN A SANDBOX (cutbox-door.mjs). By AI agents, Wed Nov 11 2026. No macro, syntax, notation, axiom, sorry.
-/
import Derived.Test.YtfecpjikhlangaaGreatDoorRows
import GoSem.ClaimSeven
namespace Go.Proofs.YtfecpjikhlangaaGreatDoor
namespace Rows

/-- THE TIED CARD OF 'mastheadlaw19.RuleJudges'. -/
def ruleJudgesCard : Claim7 := { stood := { row := ruleJudgesRow, standIns := [], harness := (true, "294d020045df07d49d30bb3c2649688690bfc5dbc9a48f4c85d1db5601f63999"), looks := false }, kinds := [], alts := [], laidByText := true, laidKinds := [.data], laidTests := true, laidLooks := .later }
def RuleJudgesCardSaid : Prop := Claim7.holds Tryz.pinned (.plain (OpenSpec.ofChange ruleJudgesSpec)) ruleJudgesCard

/-- THE TIED CARD OF 'mastheadlaw19.RuleLines'. -/
def ruleLinesCard : Claim7 := { stood := { row := ruleLinesRow, standIns := [], harness := (true, "294d020045df07d49d30bb3c2649688690bfc5dbc9a48f4c85d1db5601f63999"), looks := false }, kinds := [], alts := [], laidByText := true, laidKinds := [.data], laidTests := true, laidLooks := .later }
def RuleLinesCardSaid : Prop := Claim7.holds Tryz.pinned (.plain (OpenSpec.ofChange ruleLinesSpec)) ruleLinesCard

/-- THE TIED CARD OF 'mastheadlaw19.RuleParts'. -/
def rulePartsCard : Claim7 := { stood := { row := rulePartsRow, standIns := [], harness := (true, "294d020045df07d49d30bb3c2649688690bfc5dbc9a48f4c85d1db5601f63999"), looks := false }, kinds := [], alts := [], laidByText := true, laidKinds := [.data], laidTests := true, laidLooks := .later }
def RulePartsCardSaid : Prop := Claim7.holds Tryz.pinned (.plain (OpenSpec.ofChange rulePartsSpec)) rulePartsCard

/-- THE SECOND FORM's CARD OF 'mastheadlaw19.RuleJudges'. -/
def ruleJudgesUptoCard : Claim7 := { stood := { row := ruleJudgesUptoRow, standIns := [], harness := (true, "294d020045df07d49d30bb3c2649688690bfc5dbc9a48f4c85d1db5601f63999"), looks := false }, kinds := [], alts := [], laidByText := true, laidKinds := [.data], laidTests := true, laidLooks := .later }
def RuleJudgesUptoCardSaid : Prop := Claim7.holds Tryz.pinned (.plain (OpenSpec.upto ruleJudgesSpec)) ruleJudgesUptoCard

/-- THE SECOND FORM's CARD OF 'mastheadlaw19.RuleLines'. -/
def ruleLinesUptoCard : Claim7 := { stood := { row := ruleLinesUptoRow, standIns := [], harness := (true, "294d020045df07d49d30bb3c2649688690bfc5dbc9a48f4c85d1db5601f63999"), looks := false }, kinds := [], alts := [], laidByText := true, laidKinds := [.data], laidTests := true, laidLooks := .later }
def RuleLinesUptoCardSaid : Prop := Claim7.holds Tryz.pinned (.plain (OpenSpec.upto ruleLinesSpec)) ruleLinesUptoCard

/-- THE SECOND FORM's CARD OF 'mastheadlaw19.RuleParts'. -/
def rulePartsUptoCard : Claim7 := { stood := { row := rulePartsUptoRow, standIns := [], harness := (true, "294d020045df07d49d30bb3c2649688690bfc5dbc9a48f4c85d1db5601f63999"), looks := false }, kinds := [], alts := [], laidByText := true, laidKinds := [.data], laidTests := true, laidLooks := .later }
def RulePartsUptoCardSaid : Prop := Claim7.holds Tryz.pinned (.plain (OpenSpec.upto rulePartsSpec)) rulePartsUptoCard
end Rows
end Go.Proofs.YtfecpjikhlangaaGreatDoor
