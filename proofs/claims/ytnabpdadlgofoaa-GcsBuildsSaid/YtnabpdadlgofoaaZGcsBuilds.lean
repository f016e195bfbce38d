/- Any items have, by any key, the filter that the document says; up to 20 items of up to 100 bytes. No condition. -/
import Derived.Test.YtnabpdadlgofoaaQ5
import Derived.Test.YtnabpdadlgofoaaRows
namespace Go.Proofs
open Go Go.Pe Go.Pm
set_option maxRecDepth 100000
theorem ins_gcsBuilds {ps : List PV} (h : Ins Try.prog Try.f3.params.toList ps) : PC Try.prog (fun _ => none) 3 [] ps [] (.bool true) := by
  have hc := h.conf
  have hs : Try.f3.params.toList.map (Ca Try.prog 9) = [.iarr .u64 2, .vec 1 (.vec 1 (.int .u8))] := by kernel_rfl
  rw [hs] at hc
  have hw := h.wf
  obtain ⟨a, b, rfl, hc1, hc2⟩ : ∃ a b, ps = [a, b] ∧ conf (.iarr .u64 2) a = true ∧ conf (.vec 1 (.vec 1 (.int .u8))) b = true := by
    match ps, hc with
    | [], h => simp [Fs] at h
    | [a], h => simp [Fs] at h
    | [a, b], h => simp only [Fs, Bool.and_true, Bool.and_eq_true] at h; exact ⟨a, b, rfl, h.1, h.2⟩
    | a :: b :: c :: t, h => simp [Fs] at h
  simp only [WFL] at hw
  obtain ⟨k0, k1, rfl, hk⟩ := key_of hc1 hw.1
  obtain ⟨nl, I, rfl, hI⟩ := itsv_of hc2 hw.2.1
  exact Ug hk hI
end Go.Proofs
namespace Go.Proofs.Ytnabpdadlgofoaa.gcsBuilds
open Go.ChangeShapes Go.WideShapes Go.ChangeAt Go.RowKit Go.Pe
theorem own : ownKnob Try.prog.godebug = none := by kernel_rfl
set_option maxRecDepth 100000 in
theorem lifted (os : Os) (started : os.Started) (H : Type) (enc : TypeId × Value → H) :
    ReturnsInHanded {} Try.checked os 3 .any (Rows.gcsBuildsSpec.pre6 enc Try.prog Try.f3 Rows.gcsBuildsRow.domain false) (Rows.gcsBuildsSpec.post enc Try.prog Try.f3 false true false false) := by
  refine returnsInHanded_of_change (C := Try.checked) own started (by kernel_rfl) Try.func3
    (ChangeSpec.witness6 (enc := enc) (C := Try.checked) false ⟨#[], #[.agg #[.int .u64 0, .int .u64 0], .slice none 0 0], []⟩ 8 (by kernel_rfl) (by kernel_rfl) (by kernel_rfl) (by kernel_rfl)) ?_
  intro W base args ds gs before hval hW _ _
  exact law_calls (tb := _) (by kernel_rfl) rfl rfl (by kernel_rfl) ⟨Try.f3, Try.func3, by kernel_rfl, by kernel_rfl⟩ (fun ds h => match ds, h with | [_, _], _ => rfl) (by kernel_rfl) (fun ps hp => ins_gcsBuilds hp) hval hW
theorem proved : Rows.GcsBuildsSaid :=
  OpenClaim.holds_of_wide 3 Try.f3 rfl rfl rfl rfl rfl rfl rfl ⟨rfl, rfl, rfl, rfl, rfl⟩ rfl rfl rfl rfl rfl (by kernel_rfl) Try.func3 (by kernel_rfl)
    (of_decide_eq_true (by kernel_rfl)) (by unfold Func.isWrapper; first | (rw [if_pos (by decide +kernel)]; kernel_rfl) | (rw [if_neg (by decide +kernel)]; exact ⟨rfl, rfl⟩))
    (fun os started H enc _ => lifted os started H enc)
#print axioms proved
end Go.Proofs.Ytnabpdadlgofoaa.gcsBuilds
