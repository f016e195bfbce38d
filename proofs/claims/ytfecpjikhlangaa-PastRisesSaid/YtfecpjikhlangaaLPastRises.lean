/- Times that are taken only if they are After those ahead have medians that never fall. No condition. -/
import Derived.Test.YtfecpjikhlangaaKpas4
import Derived.Test.YtfecpjikhlangaaPeLaw
import Derived.Test.YtfecpjikhlangaaRows
namespace Go.Proofs
open Go Go.Pe
theorem ins_pastRises {ps : List PV} (h : Ins Try.prog Try.f5.params.toList ps) : PC Try.prog (fun _ => none) 5 [] ps [] (.bool true) := by
  have hc := h.conf
  have hs : Try.f5.params.toList.map (shOf Try.prog 9) = [.vec 1 (.int .u32)] := by kernel_rfl
  rw [hs] at hc
  obtain ⟨nl, n, l, rfl⟩ : ∃ nl n l, ps = [.vec nl (.iarr .u32 n l)] := ⟨_, _, _, (exposeL_conf _ _ hc).symm⟩
  have hw := h.wf
  simp only [WFL, WF, arrLen] at hw
  exact pc_pastRises hw.1.1.1.symm (fun x hx => (u32_le (hw.1.1.2 x hx)).1)
end Go.Proofs
namespace Go.Proofs.Ytfecpjikhlangaa.pastRises
open Go.ChangeShapes Go.WideShapes Go.ChangeAt Go.RowKit Go.Pe
theorem own : ownKnob Try.prog.godebug = none := by kernel_rfl
set_option maxRecDepth 100000 in
theorem lifted (os : Os) (started : os.Started) (H : Type) (enc : TypeId × Value → H) :
    ReturnsInHanded {} Try.checked os 5 .any (Rows.pastRisesSpec.pre6 enc Try.prog Try.f5 Rows.pastRisesRow.domain false) (Rows.pastRisesSpec.post enc Try.prog Try.f5 false true false false) := by
  refine returnsInHanded_of_change (C := Try.checked) own started (by kernel_rfl) Try.func5
    (ChangeSpec.witness6 (enc := enc) (C := Try.checked) false ⟨#[], #[.slice none 0 0], []⟩ 8 (by kernel_rfl) (by kernel_rfl) (by kernel_rfl) (by kernel_rfl)) ?_
  intro W base args ds gs before hval hW _ _
  exact law_calls (tb := _) (by kernel_rfl) rfl rfl (by kernel_rfl) ⟨Try.f5, Try.func5, by kernel_rfl, by kernel_rfl⟩ (fun ds h => match ds, h with | [_], _ => rfl) (by kernel_rfl) (fun ps hp => ins_pastRises hp) hval hW
theorem proved : Rows.PastRisesSaid :=
  OpenClaim.holds_of_wide 5 Try.f5 rfl rfl rfl rfl rfl rfl rfl ⟨rfl, rfl, rfl, rfl, rfl⟩ rfl rfl rfl rfl rfl (by kernel_rfl) Try.func5 (by kernel_rfl)
    (of_decide_eq_true (by kernel_rfl)) (by unfold Func.isWrapper; first | (rw [if_pos (by decide +kernel)]; kernel_rfl) | (rw [if_neg (by decide +kernel)]; exact ⟨rfl, rfl⟩))
    (fun os started H enc _ => lifted os started H enc)
#print axioms proved
end Go.Proofs.Ytfecpjikhlangaa.pastRises
