/- Whether any params may be is what the document says. No condition. -/
import Derived.Test.YtfecpjikhlangaaQ5
import Derived.Test.YtfecpjikhlangaaRows
namespace Go.Proofs
open Go Go.Pe Go.Pm
set_option maxRecDepth 100000
theorem one_of {sh : Sh} {ps : List PV} (h : confL [sh] ps = true) : ∃ a, ps = [a] ∧ conf sh a = true := by
  cases ps with
  | nil => simp [confL] at h
  | cons a t => cases t with
    | nil => simp only [confL, Bool.and_true] at h; exact ⟨a, rfl, h⟩
    | cons b t => simp [confL] at h
theorem ins_ruleChecks {ps : List PV} (h : Ins Try.prog Try.f7.params.toList ps) : PC Try.prog (fun _ => none) 7 [] ps [] (.bool true) := by
  have hc := h.conf
  have hs : Try.f7.params.toList.map (shOf Try.prog 9) = [psh] := by kernel_rfl
  rw [hs] at hc
  have hw := h.wf
  obtain ⟨a, rfl, hc1⟩ := one_of hc
  simp only [WFL] at hw
  obtain ⟨p, rfl, ho⟩ := prm_of hc1 hw.1
  exact pc_ruleChecks ho
end Go.Proofs
namespace Go.Proofs.Ytfecpjikhlangaa.ruleChecks
open Go.ChangeShapes Go.WideShapes Go.ChangeAt Go.RowKit Go.Pe
theorem own : ownKnob Try.prog.godebug = none := by kernel_rfl
set_option maxRecDepth 100000 in
theorem lifted (os : Os) (started : os.Started) (H : Type) (enc : TypeId × Value → H) :
    ReturnsInHanded {} Try.checked os 7 .any (Rows.ruleChecksSpec.pre6 enc Try.prog Try.f7 Rows.ruleChecksRow.domain false) (Rows.ruleChecksSpec.post enc Try.prog Try.f7 false true false false) := by
  refine returnsInHanded_of_change (C := Try.checked) own started (by kernel_rfl) Try.func7
    (ChangeSpec.witness6 (enc := enc) (C := Try.checked) false ⟨#[], #[.agg (#[.int .u32 0, .int .i64 0, .int .i64 0, .int .i64 0, .int .i64 0, .int .u32 0] ++ Array.replicate 64 (.int .u8 0) ++ #[.int .u32 0, .int .u32 0, .int .u32 0, .int .u64 0, .int .u64 0, .int .u64 0, .int .u64 0])], []⟩ 8 (by kernel_rfl) (by kernel_rfl) (by kernel_rfl) (by kernel_rfl)) ?_
  intro W base args ds gs before hval hW _ _
  exact law_calls (tb := _) (by kernel_rfl) rfl rfl (by kernel_rfl) ⟨Try.f7, Try.func7, by kernel_rfl, by kernel_rfl⟩ (fun ds h => match ds, h with | [_], _ => rfl) (by kernel_rfl) (fun ps hp => ins_ruleChecks hp) hval hW
theorem proved : Rows.RuleChecksSaid :=
  OpenClaim.holds_of_wide 7 Try.f7 rfl rfl rfl rfl rfl rfl rfl ⟨rfl, rfl, rfl, rfl, rfl⟩ rfl rfl rfl rfl rfl (by kernel_rfl) Try.func7 (by kernel_rfl)
    (of_decide_eq_true (by kernel_rfl)) (by unfold Func.isWrapper; first | (rw [if_pos (by decide +kernel)]; kernel_rfl) | (rw [if_neg (by decide +kernel)]; exact ⟨rfl, rfl⟩))
    (fun os started H enc _ => lifted os started H enc)
#print axioms proved
end Go.Proofs.Ytfecpjikhlangaa.ruleChecks
