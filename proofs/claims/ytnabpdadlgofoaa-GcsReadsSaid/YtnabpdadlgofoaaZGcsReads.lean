/- Any bytes have the numbers that the document says, or its error; up to 100 bytes. No condition. -/
import Derived.Test.YtnabpdadlgofoaaQ5
import Derived.Test.YtnabpdadlgofoaaRows
namespace Go.Proofs
open Go Go.Pe Go.Pm
set_option maxRecDepth 100000
theorem ins_gcsReads {ps : List PV} (h : Ins Try.prog Try.f4.params.toList ps) : PC Try.prog (fun _ => none) 4 [] ps [] (.bool true) := by
  have hc := h.conf
  have hs : Try.f4.params.toList.map (Ci Try.prog 9) = [.vec 1 (.int .u8)] := by kernel_rfl
  rw [hs] at hc
  have hw := h.wf
  obtain ⟨a, rfl, hc1⟩ : ∃ a, ps = [a] ∧ conf (.vec 1 (.int .u8)) a = true := by
    match ps, hc with
    | [], h => simp [Fe] at h
    | [a], h => simp only [Fe, Bool.and_true] at h; exact ⟨a, rfl, h⟩
    | a :: b :: t, h => simp [Fe] at h
  simp only [WFL] at hw
  obtain ⟨⟨nl, l⟩, rfl, hx⟩ := it_of hc1 hw.1
  exact pc_gcsReads rfl hx.1 (fun e => by rw [hx.2 e]; rfl)
end Go.Proofs
namespace Go.Proofs.Ytnabpdadlgofoaa.gcsReads
open Go.ChangeShapes Go.WideShapes Go.ChangeAt Go.RowKit Go.Pe
theorem own : ownKnob Try.prog.godebug = none := by kernel_rfl
set_option maxRecDepth 100000 in
theorem lifted (os : Os) (started : os.Started) (H : Type) (enc : TypeId × Value → H) :
    ReturnsInHanded {} Try.checked os 4 .any (Rows.gcsReadsSpec.pre6 enc Try.prog Try.f4 Rows.gcsReadsRow.domain false) (Rows.gcsReadsSpec.post enc Try.prog Try.f4 false true false false) := by
  refine returnsInHanded_of_change (C := Try.checked) own started (by kernel_rfl) Try.func4
    (ChangeSpec.witness6 (enc := enc) (C := Try.checked) false ⟨#[], #[.slice none 0 0], []⟩ 8 (by kernel_rfl) (by kernel_rfl) (by kernel_rfl) (by kernel_rfl)) ?_
  intro W base args ds gs before hval hW _ _
  exact law_calls (tb := _) (by kernel_rfl) rfl rfl (by kernel_rfl) ⟨Try.f4, Try.func4, by kernel_rfl, by kernel_rfl⟩ (fun ds h => match ds, h with | [_], _ => rfl) (by kernel_rfl) (fun ps hp => ins_gcsReads hp) hval hW
theorem proved : Rows.GcsReadsSaid :=
  OpenClaim.holds_of_wide 4 Try.f4 rfl rfl rfl rfl rfl rfl rfl ⟨rfl, rfl, rfl, rfl, rfl⟩ rfl rfl rfl rfl rfl (by kernel_rfl) Try.func4 (by kernel_rfl)
    (of_decide_eq_true (by kernel_rfl)) (by unfold Func.isWrapper; first | (rw [if_pos (by decide +kernel)]; kernel_rfl) | (rw [if_neg (by decide +kernel)]; exact ⟨rfl, rfl⟩))
    (fun os started H enc _ => lifted os started H enc)
#print axioms proved
end Go.Proofs.Ytnabpdadlgofoaa.gcsReads
