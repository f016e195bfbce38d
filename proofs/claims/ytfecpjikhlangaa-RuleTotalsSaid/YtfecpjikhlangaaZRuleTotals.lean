/- Any line's sum is what the document says, exactly, or its error; up to 30 headers. No condition. -/
import Derived.Test.YtfecpjikhlangaaQ5
import Derived.Test.YtfecpjikhlangaaRows
namespace Go.Proofs
open Go Go.Pe Go.Pm
set_option maxRecDepth 100000
theorem two_of {sh sh2 : Sh} {ps : List PV} (h : confL [sh, sh2] ps = true) : ∃ a b, ps = [a, b] ∧ conf sh a = true ∧ conf sh2 b = true := by
  match ps, h with
  | [], h => simp [confL] at h
  | [a], h => simp [confL] at h
  | [a, b], h => simp only [confL, Bool.and_true, Bool.and_eq_true] at h; exact ⟨a, b, rfl, h.1, h.2⟩
  | a :: b :: c :: t, h => simp [confL] at h
theorem ins_ruleTotals {ps : List PV} (h : Ins Try.prog Try.f9.params.toList ps) : PC Try.prog (fun _ => none) 9 [] ps [] (.bool true) := by
  have hc := h.conf
  have hs : Try.f9.params.toList.map (shOf Try.prog 9) = [psh, .vec 68 hsh] := by kernel_rfl
  rw [hs] at hc
  have hw := h.wf
  obtain ⟨a, b, rfl, hc1, hc2⟩ := two_of hc
  simp only [WFL] at hw
  obtain ⟨p, rfl, ho⟩ := prm_of hc1 hw.1
  obtain ⟨nl, n, m, rfl⟩ : ∃ nl n m, b = .vec nl (.parr 68 n hsh m) := ⟨_, _, _, (expose_conf _ _ hc2).symm⟩
  have hb := hw.2.1
  simp only [WF] at hb
  obtain ⟨⟨h1, h2, h3⟩, _, _⟩ := hb
  obtain ⟨l, rfl, hl⟩ := line_of h2 h3
  have e : PV.vec nl (.parr 68 n hsh (l.map Hd.pv)) = lpv nl l := by unfold lpv; rw [← h1, List.length_map]
  rw [e]
  exact pc_ruleTotals ho hl
end Go.Proofs
namespace Go.Proofs.Ytfecpjikhlangaa.ruleTotals
open Go.ChangeShapes Go.WideShapes Go.ChangeAt Go.RowKit Go.Pe
theorem own : ownKnob Try.prog.godebug = none := by kernel_rfl
set_option maxRecDepth 100000 in
theorem lifted (os : Os) (started : os.Started) (H : Type) (enc : TypeId × Value → H) :
    ReturnsInHanded {} Try.checked os 9 .any (Rows.ruleTotalsSpec.pre6 enc Try.prog Try.f9 Rows.ruleTotalsRow.domain false) (Rows.ruleTotalsSpec.post enc Try.prog Try.f9 false true false false) := by
  refine returnsInHanded_of_change (C := Try.checked) own started (by kernel_rfl) Try.func9
    (ChangeSpec.witness6 (enc := enc) (C := Try.checked) false ⟨#[], #[.agg (#[.int .u32 0, .int .i64 0, .int .i64 0, .int .i64 0, .int .i64 0, .int .u32 0] ++ Array.replicate 64 (.int .u8 0) ++ #[.int .u32 0, .int .u32 0, .int .u32 0, .int .u64 0, .int .u64 0, .int .u64 0, .int .u64 0]), .slice none 0 0], []⟩ 8 (by kernel_rfl) (by kernel_rfl) (by kernel_rfl) (by kernel_rfl)) ?_
  intro W base args ds gs before hval hW _ _
  exact law_calls (tb := _) (by kernel_rfl) rfl rfl (by kernel_rfl) ⟨Try.f9, Try.func9, by kernel_rfl, by kernel_rfl⟩ (fun ds h => match ds, h with | [_, _], _ => rfl) (by kernel_rfl) (fun ps hp => ins_ruleTotals hp) hval hW
theorem proved : Rows.RuleTotalsSaid :=
  OpenClaim.holds_of_wide 9 Try.f9 rfl rfl rfl rfl rfl rfl rfl ⟨rfl, rfl, rfl, rfl, rfl⟩ rfl rfl rfl rfl rfl (by kernel_rfl) Try.func9 (by kernel_rfl)
    (of_decide_eq_true (by kernel_rfl)) (by unfold Func.isWrapper; first | (rw [if_pos (by decide +kernel)]; kernel_rfl) | (rw [if_neg (by decide +kernel)]; exact ⟨rfl, rfl⟩))
    (fun os started H enc _ => lifted os started H enc)
#print axioms proved
end Go.Proofs.Ytfecpjikhlangaa.ruleTotals
