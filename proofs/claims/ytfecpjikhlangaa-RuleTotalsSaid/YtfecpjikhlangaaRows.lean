/-
  No cell of these rows narrows 'for every input' (looked for: loops, veiled, ifaces, maps, wideKeys, modest, calm, conditions, laid).
  DERIVED. THE GIVEN ROWS OF THIS SEAT. 7 by the template 'for every input the law returns true; each argument reads behind the call as it read before'; 0 by the template 'total and deterministic' (their statements: YtfecpjikhlangaaTotals.lean).
  GIVEN WITH THE SEED: the statements are not yours to turn. If you find one false, say at which input.
  Laid BY PROGRAM, IN A SANDBOX (cutbox-rows.mjs): the forced cells as the released guide's own fill.sh prints them over the translation 1a8dd9f29f9ef4af… (all of the seat's roots in one cut). By AI agents, Wed Nov 11 2026. No macro, syntax, notation, axiom, sorry.
-/
import Derived.Test.YtfecpjikhlangaaChecked
import GoSem.Claim
import GoSem.ClaimJoined
import GoSem.ClaimMapViews
import Derived.JoinedTies
import Derived.KernelRfl
namespace Go.Proofs.Ytfecpjikhlangaa
/- THE CELL 'sum', in the pinned program and in every row, IS THE sha256 OF THE DUMP (.gsa) THAT YtfecpjikhlangaaProg.lean LOADS. Nothing in Lean hashes anything: it is a label: what it is worth is what the hold of that sum in a sandbox is worth. -/
noncomputable def Try.pinned : Pinned := { name := "ytfecpjikhlangaa", sum := "1a8dd9f29f9ef4af9564d600f781bc58f84ead71ef7340d6e19efc4979f00cf3", checked := Try.checked }
namespace Rows
def none {H : Type} : Left H := { results := [], args := [] }

/-- 'mastheadlaw17.PastMedians': WHATEVER THE INPUT: true; the input reads as it did. -/
def pastMediansSpec : ChangeSpec := { name := "pastMedians", fn := fun _ => fun
  | [d1, d2] => { results := [.lit (.bool true)], args := [d1, d2] }
  | _ => none }
def pastMediansRow : OpenClaim := { program := "ytfecpjikhlangaa", sum := "1a8dd9f29f9ef4af9564d600f781bc58f84ead71ef7340d6e19efc4979f00cf3", func := "masthead/mastheadlaw17.PastMedians", spec := "pastMedians", recurses := true, apart := false }
def PastMediansSaid : Prop := pastMediansRow.holds Try.pinned (OpenSpec.ofChange pastMediansSpec)

/-- ITS FALSE NEIGHBOUR: 'it returns false'. Refute it at one input. -/
def pastMediansWrong : ChangeSpec := { name := "pastMedians", fn := fun _ => fun
  | [d1, d2] => { results := [.lit (.bool false)], args := [d1, d2] }
  | _ => none }
def PastMediansWrongFalsely : Prop := pastMediansRow.holds Try.pinned (OpenSpec.ofChange pastMediansWrong)

/-- 'mastheadlaw17.PastOrder': WHATEVER THE INPUT: true; the input reads as it did. -/
def pastOrderSpec : ChangeSpec := { name := "pastOrder", fn := fun _ => fun
  | [d1, d2, d3] => { results := [.lit (.bool true)], args := [d1, d2, d3] }
  | _ => none }
def pastOrderRow : OpenClaim := { program := "ytfecpjikhlangaa", sum := "1a8dd9f29f9ef4af9564d600f781bc58f84ead71ef7340d6e19efc4979f00cf3", func := "masthead/mastheadlaw17.PastOrder", spec := "pastOrder", recurses := true, apart := false }
def PastOrderSaid : Prop := pastOrderRow.holds Try.pinned (OpenSpec.ofChange pastOrderSpec)

/-- ITS FALSE NEIGHBOUR: 'it returns false'. Refute it at one input. -/
def pastOrderWrong : ChangeSpec := { name := "pastOrder", fn := fun _ => fun
  | [d1, d2, d3] => { results := [.lit (.bool false)], args := [d1, d2, d3] }
  | _ => none }
def PastOrderWrongFalsely : Prop := pastOrderRow.holds Try.pinned (OpenSpec.ofChange pastOrderWrong)

/-- 'mastheadlaw17.PastRises': WHATEVER THE INPUT: true; the input reads as it did. -/
def pastRisesSpec : ChangeSpec := { name := "pastRises", fn := fun _ => fun
  | [d] => { results := [.lit (.bool true)], args := [d] }
  | _ => none }
def pastRisesRow : OpenClaim := { program := "ytfecpjikhlangaa", sum := "1a8dd9f29f9ef4af9564d600f781bc58f84ead71ef7340d6e19efc4979f00cf3", func := "masthead/mastheadlaw17.PastRises", spec := "pastRises", recurses := true, apart := false }
def PastRisesSaid : Prop := pastRisesRow.holds Try.pinned (OpenSpec.ofChange pastRisesSpec)

/-- ITS FALSE NEIGHBOUR: 'it returns false'. Refute it at one input. -/
def pastRisesWrong : ChangeSpec := { name := "pastRises", fn := fun _ => fun
  | [d] => { results := [.lit (.bool false)], args := [d] }
  | _ => none }
def PastRisesWrongFalsely : Prop := pastRisesRow.holds Try.pinned (OpenSpec.ofChange pastRisesWrong)

/-- 'mastheadlaw17.PastNear': WHATEVER THE INPUT: true; the input reads as it did. -/
def pastNearSpec : ChangeSpec := { name := "pastNear", fn := fun _ => fun
  | [d1, d2, d3] => { results := [.lit (.bool true)], args := [d1, d2, d3] }
  | _ => none }
def pastNearRow : OpenClaim := { program := "ytfecpjikhlangaa", sum := "1a8dd9f29f9ef4af9564d600f781bc58f84ead71ef7340d6e19efc4979f00cf3", func := "masthead/mastheadlaw17.PastNear", spec := "pastNear", recurses := true, apart := false }
def PastNearSaid : Prop := pastNearRow.holds Try.pinned (OpenSpec.ofChange pastNearSpec)

/-- ITS FALSE NEIGHBOUR: 'it returns false'. Refute it at one input. -/
def pastNearWrong : ChangeSpec := { name := "pastNear", fn := fun _ => fun
  | [d1, d2, d3] => { results := [.lit (.bool false)], args := [d1, d2, d3] }
  | _ => none }
def PastNearWrongFalsely : Prop := pastNearRow.holds Try.pinned (OpenSpec.ofChange pastNearWrong)

/-- 'mastheadlaw19.RuleChecks': WHATEVER THE INPUT: true; the input reads as it did. -/
def ruleChecksSpec : ChangeSpec := { name := "ruleChecks", fn := fun _ => fun
  | [d] => { results := [.lit (.bool true)], args := [d] }
  | _ => none }
def ruleChecksRow : OpenClaim := { program := "ytfecpjikhlangaa", sum := "1a8dd9f29f9ef4af9564d600f781bc58f84ead71ef7340d6e19efc4979f00cf3", func := "masthead/mastheadlaw19.RuleChecks", spec := "ruleChecks", inPlace := ["math/bits.Add64"], named := ["math/bits.divideError", "math/bits.overflowError"], apart := false }
def RuleChecksSaid : Prop := ruleChecksRow.holds Try.pinned (OpenSpec.ofChange ruleChecksSpec)

/-- ITS FALSE NEIGHBOUR: 'it returns false'. Refute it at one input. -/
def ruleChecksWrong : ChangeSpec := { name := "ruleChecks", fn := fun _ => fun
  | [d] => { results := [.lit (.bool false)], args := [d] }
  | _ => none }
def RuleChecksWrongFalsely : Prop := ruleChecksRow.holds Try.pinned (OpenSpec.ofChange ruleChecksWrong)

/-- 'mastheadlaw19.RuleBits': WHATEVER THE INPUT: true; the input reads as it did. -/
def ruleBitsSpec : ChangeSpec := { name := "ruleBits", fn := fun _ => fun
  | [d1, d2] => { results := [.lit (.bool true)], args := [d1, d2] }
  | _ => none }
def ruleBitsRow : OpenClaim := { program := "ytfecpjikhlangaa", sum := "1a8dd9f29f9ef4af9564d600f781bc58f84ead71ef7340d6e19efc4979f00cf3", func := "masthead/mastheadlaw19.RuleBits", spec := "ruleBits", inPlace := ["math/bits.Add64"], named := ["math/bits.divideError", "math/bits.overflowError"], apart := false }
def RuleBitsSaid : Prop := ruleBitsRow.holds Try.pinned (OpenSpec.ofChange ruleBitsSpec)

/-- ITS FALSE NEIGHBOUR: 'it returns false'. Refute it at one input. -/
def ruleBitsWrong : ChangeSpec := { name := "ruleBits", fn := fun _ => fun
  | [d1, d2] => { results := [.lit (.bool false)], args := [d1, d2] }
  | _ => none }
def RuleBitsWrongFalsely : Prop := ruleBitsRow.holds Try.pinned (OpenSpec.ofChange ruleBitsWrong)

/-- 'mastheadlaw19.RuleTotals': WHATEVER THE INPUT: true; the input reads as it did. -/
def ruleTotalsSpec : ChangeSpec := { name := "ruleTotals", fn := fun _ => fun
  | [d1, d2] => { results := [.lit (.bool true)], args := [d1, d2] }
  | _ => none }
def ruleTotalsRow : OpenClaim := { program := "ytfecpjikhlangaa", sum := "1a8dd9f29f9ef4af9564d600f781bc58f84ead71ef7340d6e19efc4979f00cf3", func := "masthead/mastheadlaw19.RuleTotals", spec := "ruleTotals", inPlace := ["math/bits.Add64", "math/bits.Sub64"], named := ["math/bits.divideError", "math/bits.overflowError"], apart := false }
def RuleTotalsSaid : Prop := ruleTotalsRow.holds Try.pinned (OpenSpec.ofChange ruleTotalsSpec)

/-- ITS FALSE NEIGHBOUR: 'it returns false'. Refute it at one input. -/
def ruleTotalsWrong : ChangeSpec := { name := "ruleTotals", fn := fun _ => fun
  | [d1, d2] => { results := [.lit (.bool false)], args := [d1, d2] }
  | _ => none }
def RuleTotalsWrongFalsely : Prop := ruleTotalsRow.holds Try.pinned (OpenSpec.ofChange ruleTotalsWrong)

/- THE SECOND FORM. 'bulk': how many values and letters a reading holds, each counted each time it is reached (what is shared counts as often as it is met; a slice's spare places count too). A statement '..UptoSaid' is the law's where the arguments, and the package variables that the reading takes, are together of bulk at most 1048576: NARROWER than '..Said'. Prove '..Said' where nothing that the law and all that it calls make is longer than what came in: it says more and counts as full. Else prove '..UptoSaid'. A law counts once. -/
mutual
def uptoBulk {H : Type} : DataW H → Nat
  | .lit (.string bytes) => bytes.length + 1
  | .lit _ => 1
  | .nil => 1
  | .ptr d => uptoBulk d + 1
  | .slice elems spare => uptoBulkAll elems + uptoBulkAll spare + 1
  | .agg parts => uptoBulkAll parts + 1
  | .iface _ d => uptoBulk d + 1
  | .map entries => uptoBulkEntries entries + 1
  | .held _ => 1
def uptoBulkAll {H : Type} : List (DataW H) → Nat
  | [] => 0
  | d :: r => uptoBulk d + uptoBulkAll r
def uptoBulkEntries {H : Type} : List (Lit × DataW H) → Nat
  | [] => 0
  | x :: r => uptoBulkEntry x + uptoBulkEntries r
def uptoBulkEntry {H : Type} : Lit × DataW H → Nat
  | (.string bytes, d) => bytes.length + uptoBulk d + 1
  | (_, d) => uptoBulk d + 1
 end
def uptoSmall : (H : Type) → List (DataW H) → Bool := fun _ ds => decide (uptoBulkAll ds ≤ 1048576)
def OpenSpec.upto (s : _root_.Go.ChangeSpec) : _root_.Go.OpenSpec := { _root_.Go.OpenSpec.ofChange s with cond := some uptoSmall }

/-- 'mastheadlaw17.PastMedians', WHERE WHAT IT READS IS OF BULK AT MOST 1048576: true; the input reads as it did. -/
def pastMediansUptoRow : OpenClaim := { program := "ytfecpjikhlangaa", sum := "1a8dd9f29f9ef4af9564d600f781bc58f84ead71ef7340d6e19efc4979f00cf3", func := "masthead/mastheadlaw17.PastMedians", spec := "pastMedians", recurses := true, apart := false, narrowed := true }
def PastMediansUptoSaid : Prop := pastMediansUptoRow.holds Try.pinned (OpenSpec.upto pastMediansSpec)

/-- 'mastheadlaw17.PastOrder', WHERE WHAT IT READS IS OF BULK AT MOST 1048576: true; the input reads as it did. -/
def pastOrderUptoRow : OpenClaim := { program := "ytfecpjikhlangaa", sum := "1a8dd9f29f9ef4af9564d600f781bc58f84ead71ef7340d6e19efc4979f00cf3", func := "masthead/mastheadlaw17.PastOrder", spec := "pastOrder", recurses := true, apart := false, narrowed := true }
def PastOrderUptoSaid : Prop := pastOrderUptoRow.holds Try.pinned (OpenSpec.upto pastOrderSpec)

/-- 'mastheadlaw17.PastRises', WHERE WHAT IT READS IS OF BULK AT MOST 1048576: true; the input reads as it did. -/
def pastRisesUptoRow : OpenClaim := { program := "ytfecpjikhlangaa", sum := "1a8dd9f29f9ef4af9564d600f781bc58f84ead71ef7340d6e19efc4979f00cf3", func := "masthead/mastheadlaw17.PastRises", spec := "pastRises", recurses := true, apart := false, narrowed := true }
def PastRisesUptoSaid : Prop := pastRisesUptoRow.holds Try.pinned (OpenSpec.upto pastRisesSpec)

/-- 'mastheadlaw17.PastNear', WHERE WHAT IT READS IS OF BULK AT MOST 1048576: true; the input reads as it did. -/
def pastNearUptoRow : OpenClaim := { program := "ytfecpjikhlangaa", sum := "1a8dd9f29f9ef4af9564d600f781bc58f84ead71ef7340d6e19efc4979f00cf3", func := "masthead/mastheadlaw17.PastNear", spec := "pastNear", recurses := true, apart := false, narrowed := true }
def PastNearUptoSaid : Prop := pastNearUptoRow.holds Try.pinned (OpenSpec.upto pastNearSpec)

/-- 'mastheadlaw19.RuleChecks', WHERE WHAT IT READS IS OF BULK AT MOST 1048576: true; the input reads as it did. -/
def ruleChecksUptoRow : OpenClaim := { program := "ytfecpjikhlangaa", sum := "1a8dd9f29f9ef4af9564d600f781bc58f84ead71ef7340d6e19efc4979f00cf3", func := "masthead/mastheadlaw19.RuleChecks", spec := "ruleChecks", inPlace := ["math/bits.Add64"], named := ["math/bits.divideError", "math/bits.overflowError"], apart := false, narrowed := true }
def RuleChecksUptoSaid : Prop := ruleChecksUptoRow.holds Try.pinned (OpenSpec.upto ruleChecksSpec)

/-- 'mastheadlaw19.RuleBits', WHERE WHAT IT READS IS OF BULK AT MOST 1048576: true; the input reads as it did. -/
def ruleBitsUptoRow : OpenClaim := { program := "ytfecpjikhlangaa", sum := "1a8dd9f29f9ef4af9564d600f781bc58f84ead71ef7340d6e19efc4979f00cf3", func := "masthead/mastheadlaw19.RuleBits", spec := "ruleBits", inPlace := ["math/bits.Add64"], named := ["math/bits.divideError", "math/bits.overflowError"], apart := false, narrowed := true }
def RuleBitsUptoSaid : Prop := ruleBitsUptoRow.holds Try.pinned (OpenSpec.upto ruleBitsSpec)

/-- 'mastheadlaw19.RuleTotals', WHERE WHAT IT READS IS OF BULK AT MOST 1048576: true; the input reads as it did. -/
def ruleTotalsUptoRow : OpenClaim := { program := "ytfecpjikhlangaa", sum := "1a8dd9f29f9ef4af9564d600f781bc58f84ead71ef7340d6e19efc4979f00cf3", func := "masthead/mastheadlaw19.RuleTotals", spec := "ruleTotals", inPlace := ["math/bits.Add64", "math/bits.Sub64"], named := ["math/bits.divideError", "math/bits.overflowError"], apart := false, narrowed := true }
def RuleTotalsUptoSaid : Prop := ruleTotalsUptoRow.holds Try.pinned (OpenSpec.upto ruleTotalsSpec)

end Rows
end Go.Proofs.Ytfecpjikhlangaa
