/-
  No cell of these rows narrows 'for every input' (looked for: loops, veiled, ifaces, maps, wideKeys, modest, calm, conditions, laid).
  DERIVED. THE GIVEN ROWS OF THIS SEAT. 6 by the template 'for every input the law returns true; each argument reads behind the call as it read before'; 0 by the template 'total and deterministic' (their statements: YtnabpdadlgofoaaTotals.lean).
  GIVEN WITH THE SEED: the statements are not yours to turn. If you find one false, say at which input.
  Laid BY PROGRAM, IN A SANDBOX (cutbox-rows.mjs): the forced cells as the released guide's own fill.sh prints them over the translation 5a6603d2f77759ec… (all of the seat's roots in one cut). By AI agents, Wed Nov 11 2026. No macro, syntax, notation, axiom, sorry.
-/
import Derived.Test.YtnabpdadlgofoaaChecked
import GoSem.Claim
import GoSem.ClaimJoined
import GoSem.ClaimMapViews
import Derived.JoinedTies
import Derived.KernelRfl
namespace Go.Proofs.Ytnabpdadlgofoaa
/- THE CELL 'sum', in the pinned program and in every row, IS THE sha256 OF THE DUMP (.gsa) THAT YtnabpdadlgofoaaProg.lean LOADS. Nothing in Lean hashes anything: it is a label: what it is worth is what the hold of that sum in a sandbox is worth. -/
noncomputable def Try.pinned : Pinned := { name := "ytnabpdadlgofoaa", sum := "5a6603d2f77759ec9191c8a7fce8c8541556dd1ff1e3dd1d826502ee49d6f6b7", checked := Try.checked }
namespace Rows
def none {H : Type} : Left H := { results := [], args := [] }

/-- 'mastheadlaw13.GcsBuilds': WHATEVER THE INPUT: true; the input reads as it did. -/
def gcsBuildsSpec : ChangeSpec := { name := "gcsBuilds", fn := fun _ => fun
  | [d1, d2] => { results := [.lit (.bool true)], args := [d1, d2] }
  | _ => none }
def gcsBuildsRow : OpenClaim := { program := "ytnabpdadlgofoaa", sum := "5a6603d2f77759ec9191c8a7fce8c8541556dd1ff1e3dd1d826502ee49d6f6b7", func := "masthead/mastheadlaw13.GcsBuilds", spec := "gcsBuilds", recurses := true, apart := false }
def GcsBuildsSaid : Prop := gcsBuildsRow.holds Try.pinned (OpenSpec.ofChange gcsBuildsSpec)

/-- ITS FALSE NEIGHBOUR: 'it returns false'. Refute it at one input. -/
def gcsBuildsWrong : ChangeSpec := { name := "gcsBuilds", fn := fun _ => fun
  | [d1, d2] => { results := [.lit (.bool false)], args := [d1, d2] }
  | _ => none }
def GcsBuildsWrongFalsely : Prop := gcsBuildsRow.holds Try.pinned (OpenSpec.ofChange gcsBuildsWrong)

/-- 'mastheadlaw13.GcsReads': WHATEVER THE INPUT: true; the input reads as it did. -/
def gcsReadsSpec : ChangeSpec := { name := "gcsReads", fn := fun _ => fun
  | [d] => { results := [.lit (.bool true)], args := [d] }
  | _ => none }
def gcsReadsRow : OpenClaim := { program := "ytnabpdadlgofoaa", sum := "5a6603d2f77759ec9191c8a7fce8c8541556dd1ff1e3dd1d826502ee49d6f6b7", func := "masthead/mastheadlaw13.GcsReads", spec := "gcsReads", recurses := true, apart := false }
def GcsReadsSaid : Prop := gcsReadsRow.holds Try.pinned (OpenSpec.ofChange gcsReadsSpec)

/-- ITS FALSE NEIGHBOUR: 'it returns false'. Refute it at one input. -/
def gcsReadsWrong : ChangeSpec := { name := "gcsReads", fn := fun _ => fun
  | [d] => { results := [.lit (.bool false)], args := [d] }
  | _ => none }
def GcsReadsWrongFalsely : Prop := gcsReadsRow.holds Try.pinned (OpenSpec.ofChange gcsReadsWrong)

/-- 'mastheadlaw13.GcsMatches': WHATEVER THE INPUT: true; the input reads as it did. -/
def gcsMatchesSpec : ChangeSpec := { name := "gcsMatches", fn := fun _ => fun
  | [d1, d2] => { results := [.lit (.bool true)], args := [d1, d2] }
  | _ => none }
def gcsMatchesRow : OpenClaim := { program := "ytnabpdadlgofoaa", sum := "5a6603d2f77759ec9191c8a7fce8c8541556dd1ff1e3dd1d826502ee49d6f6b7", func := "masthead/mastheadlaw13.GcsMatches", spec := "gcsMatches", recurses := true, apart := false }
def GcsMatchesSaid : Prop := gcsMatchesRow.holds Try.pinned (OpenSpec.ofChange gcsMatchesSpec)

/-- ITS FALSE NEIGHBOUR: 'it returns false'. Refute it at one input. -/
def gcsMatchesWrong : ChangeSpec := { name := "gcsMatches", fn := fun _ => fun
  | [d1, d2] => { results := [.lit (.bool false)], args := [d1, d2] }
  | _ => none }
def GcsMatchesWrongFalsely : Prop := gcsMatchesRow.holds Try.pinned (OpenSpec.ofChange gcsMatchesWrong)

/-- 'mastheadlaw13.GcsAny': WHATEVER THE INPUT: true; the input reads as it did. -/
def gcsAnySpec : ChangeSpec := { name := "gcsAny", fn := fun _ => fun
  | [d1, d2, d3] => { results := [.lit (.bool true)], args := [d1, d2, d3] }
  | _ => none }
def gcsAnyRow : OpenClaim := { program := "ytnabpdadlgofoaa", sum := "5a6603d2f77759ec9191c8a7fce8c8541556dd1ff1e3dd1d826502ee49d6f6b7", func := "masthead/mastheadlaw13.GcsAny", spec := "gcsAny", recurses := true, apart := false }
def GcsAnySaid : Prop := gcsAnyRow.holds Try.pinned (OpenSpec.ofChange gcsAnySpec)

/-- ITS FALSE NEIGHBOUR: 'it returns false'. Refute it at one input. -/
def gcsAnyWrong : ChangeSpec := { name := "gcsAny", fn := fun _ => fun
  | [d1, d2, d3] => { results := [.lit (.bool false)], args := [d1, d2, d3] }
  | _ => none }
def GcsAnyWrongFalsely : Prop := gcsAnyRow.holds Try.pinned (OpenSpec.ofChange gcsAnyWrong)

/-- 'mastheadlaw13.GcsOrder': WHATEVER THE INPUT: true; the input reads as it did. -/
def gcsOrderSpec : ChangeSpec := { name := "gcsOrder", fn := fun _ => fun
  | [d1, d2] => { results := [.lit (.bool true)], args := [d1, d2] }
  | _ => none }
def gcsOrderRow : OpenClaim := { program := "ytnabpdadlgofoaa", sum := "5a6603d2f77759ec9191c8a7fce8c8541556dd1ff1e3dd1d826502ee49d6f6b7", func := "masthead/mastheadlaw13.GcsOrder", spec := "gcsOrder", recurses := true, apart := false }
def GcsOrderSaid : Prop := gcsOrderRow.holds Try.pinned (OpenSpec.ofChange gcsOrderSpec)

/-- ITS FALSE NEIGHBOUR: 'it returns false'. Refute it at one input. -/
def gcsOrderWrong : ChangeSpec := { name := "gcsOrder", fn := fun _ => fun
  | [d1, d2] => { results := [.lit (.bool false)], args := [d1, d2] }
  | _ => none }
def GcsOrderWrongFalsely : Prop := gcsOrderRow.holds Try.pinned (OpenSpec.ofChange gcsOrderWrong)

/-- 'mastheadlaw13.GcsFull': WHATEVER THE INPUT: true; the input reads as it did. -/
def gcsFullSpec : ChangeSpec := { name := "gcsFull", fn := fun _ => fun
  | [d1, d2] => { results := [.lit (.bool true)], args := [d1, d2] }
  | _ => none }
def gcsFullRow : OpenClaim := { program := "ytnabpdadlgofoaa", sum := "5a6603d2f77759ec9191c8a7fce8c8541556dd1ff1e3dd1d826502ee49d6f6b7", func := "masthead/mastheadlaw13.GcsFull", spec := "gcsFull", recurses := true, apart := false }
def GcsFullSaid : Prop := gcsFullRow.holds Try.pinned (OpenSpec.ofChange gcsFullSpec)

/-- ITS FALSE NEIGHBOUR: 'it returns false'. Refute it at one input. -/
def gcsFullWrong : ChangeSpec := { name := "gcsFull", fn := fun _ => fun
  | [d1, d2] => { results := [.lit (.bool false)], args := [d1, d2] }
  | _ => none }
def GcsFullWrongFalsely : Prop := gcsFullRow.holds Try.pinned (OpenSpec.ofChange gcsFullWrong)

/- THE SECOND FORM. 'bulk': how many values and letters a reading holds, each counted each time it is reached (what is shared counts as often as it is met; a slice's spare places count too). A statement '..UptoSaid' is the law's where the arguments, and the package variables that the reading takes, are together of bulk at most 1048576: NARROWER than '..Said'. Prove '..Said' where nothing that the law and all that it calls make is longer than what came in: it says more and counts as full. Else prove '..UptoSaid'. A law counts once. -/
mutual
def uptoBulk {H : Type} : DataW H → Nat
  | .lit (.string bytes) => bytes.length + 1
  | .lit _ => 1
  | .nil => 1
  | .ptr d => uptoBulk d + 1
  | .slice elems spare => uptoBulkAll elems + uptoBulkAll spare + 1
  | .agg parts => uptoBulkAll parts + 1
  | .iface _ d => uptoBulk d + 1
  | .map entries => uptoBulkEntries entries + 1
  | .held _ => 1
def uptoBulkAll {H : Type} : List (DataW H) → Nat
  | [] => 0
  | d :: r => uptoBulk d + uptoBulkAll r
def uptoBulkEntries {H : Type} : List (Lit × DataW H) → Nat
  | [] => 0
  | x :: r => uptoBulkEntry x + uptoBulkEntries r
def uptoBulkEntry {H : Type} : Lit × DataW H → Nat
  | (.string bytes, d) => bytes.length + uptoBulk d + 1
  | (_, d) => uptoBulk d + 1
 end
def uptoSmall : (H : Type) → List (DataW H) → Bool := fun _ ds => decide (uptoBulkAll ds ≤ 1048576)
def OpenSpec.upto (s : _root_.Go.ChangeSpec) : _root_.Go.OpenSpec := { _root_.Go.OpenSpec.ofChange s with cond := some uptoSmall }

/-- 'mastheadlaw13.GcsBuilds', WHERE WHAT IT READS IS OF BULK AT MOST 1048576: true; the input reads as it did. -/
def gcsBuildsUptoRow : OpenClaim := { program := "ytnabpdadlgofoaa", sum := "5a6603d2f77759ec9191c8a7fce8c8541556dd1ff1e3dd1d826502ee49d6f6b7", func := "masthead/mastheadlaw13.GcsBuilds", spec := "gcsBuilds", recurses := true, apart := false, narrowed := true }
def GcsBuildsUptoSaid : Prop := gcsBuildsUptoRow.holds Try.pinned (OpenSpec.upto gcsBuildsSpec)

/-- 'mastheadlaw13.GcsReads', WHERE WHAT IT READS IS OF BULK AT MOST 1048576: true; the input reads as it did. -/
def gcsReadsUptoRow : OpenClaim := { program := "ytnabpdadlgofoaa", sum := "5a6603d2f77759ec9191c8a7fce8c8541556dd1ff1e3dd1d826502ee49d6f6b7", func := "masthead/mastheadlaw13.GcsReads", spec := "gcsReads", recurses := true, apart := false, narrowed := true }
def GcsReadsUptoSaid : Prop := gcsReadsUptoRow.holds Try.pinned (OpenSpec.upto gcsReadsSpec)

/-- 'mastheadlaw13.GcsMatches', WHERE WHAT IT READS IS OF BULK AT MOST 1048576: true; the input reads as it did. -/
def gcsMatchesUptoRow : OpenClaim := { program := "ytnabpdadlgofoaa", sum := "5a6603d2f77759ec9191c8a7fce8c8541556dd1ff1e3dd1d826502ee49d6f6b7", func := "masthead/mastheadlaw13.GcsMatches", spec := "gcsMatches", recurses := true, apart := false, narrowed := true }
def GcsMatchesUptoSaid : Prop := gcsMatchesUptoRow.holds Try.pinned (OpenSpec.upto gcsMatchesSpec)

/-- 'mastheadlaw13.GcsAny', WHERE WHAT IT READS IS OF BULK AT MOST 1048576: true; the input reads as it did. -/
def gcsAnyUptoRow : OpenClaim := { program := "ytnabpdadlgofoaa", sum := "5a6603d2f77759ec9191c8a7fce8c8541556dd1ff1e3dd1d826502ee49d6f6b7", func := "masthead/mastheadlaw13.GcsAny", spec := "gcsAny", recurses := true, apart := false, narrowed := true }
def GcsAnyUptoSaid : Prop := gcsAnyUptoRow.holds Try.pinned (OpenSpec.upto gcsAnySpec)

/-- 'mastheadlaw13.GcsOrder', WHERE WHAT IT READS IS OF BULK AT MOST 1048576: true; the input reads as it did. -/
def gcsOrderUptoRow : OpenClaim := { program := "ytnabpdadlgofoaa", sum := "5a6603d2f77759ec9191c8a7fce8c8541556dd1ff1e3dd1d826502ee49d6f6b7", func := "masthead/mastheadlaw13.GcsOrder", spec := "gcsOrder", recurses := true, apart := false, narrowed := true }
def GcsOrderUptoSaid : Prop := gcsOrderUptoRow.holds Try.pinned (OpenSpec.upto gcsOrderSpec)

/-- 'mastheadlaw13.GcsFull', WHERE WHAT IT READS IS OF BULK AT MOST 1048576: true; the input reads as it did. -/
def gcsFullUptoRow : OpenClaim := { program := "ytnabpdadlgofoaa", sum := "5a6603d2f77759ec9191c8a7fce8c8541556dd1ff1e3dd1d826502ee49d6f6b7", func := "masthead/mastheadlaw13.GcsFull", spec := "gcsFull", recurses := true, apart := false, narrowed := true }
def GcsFullUptoSaid : Prop := gcsFullUptoRow.holds Try.pinned (OpenSpec.upto gcsFullSpec)

end Rows
end Go.Proofs.Ytnabpdadlgofoaa
