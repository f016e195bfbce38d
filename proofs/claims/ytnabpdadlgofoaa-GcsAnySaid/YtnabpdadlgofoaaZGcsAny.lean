/- Which of any items are matched by any bytes is what the document says, each by itself, too; up to 100 bytes, 20 items of up to 100 bytes. No condition. -/
import Derived.Test.YtnabpdadlgofoaaQ6
import Derived.Test.YtnabpdadlgofoaaRows
namespace Go.Proofs
open Go Go.Pe Go.Pm
set_option maxRecDepth 100000
theorem ins_gcsAny {ps : List PV} (h : Ins Try.prog Try.f6.params.toList ps) : PC Try.prog (fun _ => none) 6 [] ps [] (.bool true) := by
  have hc := h.conf
  have hs : Try.f6.params.toList.map (Cr Try.prog 9) = [.iarr .u64 2, .vec 1 (.int .u8), .vec 1 (.vec 1 (.int .u8))] := by kernel_rfl
  rw [hs] at hc
  have hw := h.wf
  obtain ⟨a, b, c, rfl, hc1, hc2, hc3⟩ : ∃ a b c, ps = [a, b, c] ∧ conf (.iarr .u64 2) a = true ∧ conf (.vec 1 (.int .u8)) b = true ∧ conf (.vec 1 (.vec 1 (.int .u8))) c = true := by
    match ps, hc with
    | [], h => simp [FH] at h
    | [a], h => simp [FH] at h
    | [a, b], h => simp [FH] at h
    | [a, b, c], h => simp only [FH, Bool.and_true, Bool.and_eq_true] at h; exact ⟨a, b, c, rfl, h.1, h.2.1, h.2.2⟩
    | a :: b :: c :: d :: t, h => simp [FH] at h
  simp only [WFL] at hw
  obtain ⟨k0, k1, rfl, hk⟩ := key_of hc1 hw.1
  obtain ⟨⟨nl, l⟩, rfl, hx⟩ := it_of hc2 hw.2.1
  obtain ⟨nl', I, rfl, hI⟩ := itsv_of hc3 hw.2.2.1
  exact pc_gcsAny hk hI rfl hx.1 (fun e => by rw [hx.2 e]; rfl)
end Go.Proofs
namespace Go.Proofs.Ytnabpdadlgofoaa.gcsAny
open Go.ChangeShapes Go.WideShapes Go.ChangeAt Go.RowKit Go.Pe
theorem own : ownKnob Try.prog.godebug = none := by kernel_rfl
set_option maxRecDepth 100000 in
theorem lifted (os : Os) (started : os.Started) (H : Type) (enc : TypeId × Value → H) :
    ReturnsInHanded {} Try.checked os 6 .any (Rows.gcsAnySpec.pre6 enc Try.prog Try.f6 Rows.gcsAnyRow.domain false) (Rows.gcsAnySpec.post enc Try.prog Try.f6 false true false false) := by
  refine returnsInHanded_of_change (C := Try.checked) own started (by kernel_rfl) Try.func6
    (ChangeSpec.witness6 (enc := enc) (C := Try.checked) false ⟨#[], #[.agg #[.int .u64 0, .int .u64 0], .slice none 0 0, .slice none 0 0], []⟩ 8 (by kernel_rfl) (by kernel_rfl) (by kernel_rfl) (by kernel_rfl)) ?_
  intro W base args ds gs before hval hW _ _
  exact law_calls (tb := _) (by kernel_rfl) rfl rfl (by kernel_rfl) ⟨Try.f6, Try.func6, by kernel_rfl, by kernel_rfl⟩ (fun ds h => match ds, h with | [_, _, _], _ => rfl) (by kernel_rfl) (fun ps hp => ins_gcsAny hp) hval hW
theorem proved : Rows.GcsAnySaid :=
  OpenClaim.holds_of_wide 6 Try.f6 rfl rfl rfl rfl rfl rfl rfl ⟨rfl, rfl, rfl, rfl, rfl⟩ rfl rfl rfl rfl rfl (by kernel_rfl) Try.func6 (by kernel_rfl)
    (of_decide_eq_true (by kernel_rfl)) (by unfold Func.isWrapper; first | (rw [if_pos (by decide +kernel)]; kernel_rfl) | (rw [if_neg (by decide +kernel)]; exact ⟨rfl, rfl⟩))
    (fun os started H enc _ => lifted os started H enc)
#print axioms proved
end Go.Proofs.Ytnabpdadlgofoaa.gcsAny
