/- There may be a thousand unlike items, and no more. No condition. -/
import Derived.Test.YtnabpdadlgofoaaQ5
import Derived.Test.YtnabpdadlgofoaaRows
namespace Go.Proofs
open Go Go.Pe Go.Pm
set_option maxRecDepth 100000
theorem ins_gcsFull {ps : List PV} (h : Ins Try.prog Try.f8.params.toList ps) : PC Try.prog (fun _ => none) 8 [] ps [] (.bool true) := by
  have hc := h.conf
  have hs : Try.f8.params.toList.map (BS Try.prog 9) = [.int .i64, .bool] := by kernel_rfl
  rw [hs] at hc
  obtain ⟨n, tw, rfl⟩ : ∃ n tw, ps = [.int .i64 n, .bool tw] := ⟨_, _, (GY _ _ hc).symm⟩
  exact pc_gcsFull
end Go.Proofs
namespace Go.Proofs.Ytnabpdadlgofoaa.gcsFull
open Go.ChangeShapes Go.WideShapes Go.ChangeAt Go.RowKit Go.Pe
theorem own : ownKnob Try.prog.godebug = none := by kernel_rfl
set_option maxRecDepth 100000 in
theorem lifted (os : Os) (started : os.Started) (H : Type) (enc : TypeId × Value → H) :
    ReturnsInHanded {} Try.checked os 8 .any (Rows.gcsFullSpec.pre6 enc Try.prog Try.f8 Rows.gcsFullRow.domain false) (Rows.gcsFullSpec.post enc Try.prog Try.f8 false true false false) := by
  refine returnsInHanded_of_change (C := Try.checked) own started (by kernel_rfl) Try.func8
    (ChangeSpec.witness6 (enc := enc) (C := Try.checked) false ⟨#[], #[.int .i64 0, .bool false], []⟩ 8 (by kernel_rfl) (by kernel_rfl) (by kernel_rfl) (by kernel_rfl)) ?_
  intro W base args ds gs before hval hW _ _
  exact law_calls (tb := _) (by kernel_rfl) rfl rfl (by kernel_rfl) ⟨Try.f8, Try.func8, by kernel_rfl, by kernel_rfl⟩ (fun ds h => match ds, h with | [_, _], _ => rfl) (by kernel_rfl) (fun ps hp => ins_gcsFull hp) hval hW
theorem proved : Rows.GcsFullSaid :=
  OpenClaim.holds_of_wide 8 Try.f8 rfl rfl rfl rfl rfl rfl rfl ⟨rfl, rfl, rfl, rfl, rfl⟩ rfl rfl rfl rfl rfl (by kernel_rfl) Try.func8 (by kernel_rfl)
    (of_decide_eq_true (by kernel_rfl)) (by unfold Func.isWrapper; first | (rw [if_pos (by decide +kernel)]; kernel_rfl) | (rw [if_neg (by decide +kernel)]; exact ⟨rfl, rfl⟩))
    (fun os started H enc _ => lifted os started H enc)
#print axioms proved
end Go.Proofs.Ytnabpdadlgofoaa.gcsFull
