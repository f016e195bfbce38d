/- The median of any times, and whether any time is After them, is what the document says. No condition. -/
import Derived.Test.YtfecpjikhlangaaKpas4
import Derived.Test.YtfecpjikhlangaaPeLaw
import Derived.Test.YtfecpjikhlangaaRows
namespace Go.Proofs
open Go Go.Pe
theorem ins_pastMedians {ps : List PV} (h : Ins Try.prog Try.f3.params.toList ps) : PC Try.prog (fun _ => none) 3 [] ps [] (.bool true) := by
  have hc := h.conf
  have hs : Try.f3.params.toList.map (shOf Try.prog 9) = [.vec 1 (.int .u32), .int .u32] := by kernel_rfl
  rw [hs] at hc
  obtain ⟨nl, n, l, t, rfl⟩ : ∃ nl n l t, ps = [.vec nl (.iarr .u32 n l), .int .u32 t] := ⟨_, _, _, _, (exposeL_conf _ _ hc).symm⟩
  have hw := h.wf
  simp only [WFL, WF, arrLen] at hw
  exact pc_pastMedians hw.1.1.1.symm (fun e => List.eq_nil_of_length_eq_zero (hw.1.1.1.trans (hw.1.2.2 e)))
end Go.Proofs
namespace Go.Proofs.Ytfecpjikhlangaa.pastMedians
open Go.ChangeShapes Go.WideShapes Go.ChangeAt Go.RowKit Go.Pe
theorem own : ownKnob Try.prog.godebug = none := by kernel_rfl
set_option maxRecDepth 100000 in
theorem lifted (os : Os) (started : os.Started) (H : Type) (enc : TypeId × Value → H) :
    ReturnsInHanded {} Try.checked os 3 .any (Rows.pastMediansSpec.pre6 enc Try.prog Try.f3 Rows.pastMediansRow.domain false) (Rows.pastMediansSpec.post enc Try.prog Try.f3 false true false false) := by
  refine returnsInHanded_of_change (C := Try.checked) own started (by kernel_rfl) Try.func3
    (ChangeSpec.witness6 (enc := enc) (C := Try.checked) false ⟨#[], #[.slice none 0 0, .int .u32 0], []⟩ 8 (by kernel_rfl) (by kernel_rfl) (by kernel_rfl) (by kernel_rfl)) ?_
  intro W base args ds gs before hval hW _ _
  exact law_calls (tb := _) (by kernel_rfl) rfl rfl (by kernel_rfl) ⟨Try.f3, Try.func3, by kernel_rfl, by kernel_rfl⟩ (fun ds h => match ds, h with | [_, _], _ => rfl) (by kernel_rfl) (fun ps hp => ins_pastMedians hp) hval hW
theorem proved : Rows.PastMediansSaid :=
  OpenClaim.holds_of_wide 3 Try.f3 rfl rfl rfl rfl rfl rfl rfl ⟨rfl, rfl, rfl, rfl, rfl⟩ rfl rfl rfl rfl rfl (by kernel_rfl) Try.func3 (by kernel_rfl)
    (of_decide_eq_true (by kernel_rfl)) (by unfold Func.isWrapper; first | (rw [if_pos (by decide +kernel)]; kernel_rfl) | (rw [if_neg (by decide +kernel)]; exact ⟨rfl, rfl⟩))
    (fun os started H enc _ => lifted os started H enc)
#print axioms proved
end Go.Proofs.Ytfecpjikhlangaa.pastMedians
