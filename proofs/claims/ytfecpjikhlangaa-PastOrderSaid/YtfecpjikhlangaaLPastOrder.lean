/- The last eleven times in another order, and others ahead of them, have the same median. No condition. -/
import Derived.Test.YtfecpjikhlangaaKpas4
import Derived.Test.YtfecpjikhlangaaPeLaw
import Derived.Test.YtfecpjikhlangaaRows
namespace Go.Proofs
open Go Go.Pe
theorem ins_pastOrder {ps : List PV} (h : Ins Try.prog Try.f4.params.toList ps) : PC Try.prog (fun _ => none) 4 [] ps [] (.bool true) := by
  have hc := h.conf
  have hs : Try.f4.params.toList.map (shOf Try.prog 9) = [.vec 1 (.int .u32), .vec 1 (.int .u32), .int .u8] := by kernel_rfl
  rw [hs] at hc
  obtain ⟨na, m, a, nl, n, l, t, rfl⟩ : ∃ na m a nl n l t, ps = [.vec na (.iarr .u32 m a), .vec nl (.iarr .u32 n l), .int .u8 t] := ⟨_, _, _, _, _, _, _, (exposeL_conf _ _ hc).symm⟩
  have hw := h.wf
  simp only [WFL, WF, arrLen] at hw
  have ht := (wrap_bounds _ _).1 hw.2.2.1
  have h1 : (0 : Int) ≤ t := ht.1
  have h2 : t ≤ 255 := ht.2
  obtain ⟨k, rfl⟩ : ∃ k : Nat, t = k := ⟨t.toNat, by omega⟩
  exact pc_pastOrder hw.1.1.1.symm hw.2.1.1.1.symm (by omega) (fun e => List.eq_nil_of_length_eq_zero (hw.2.1.1.1.trans (hw.2.1.2.2 e)))
end Go.Proofs
namespace Go.Proofs.Ytfecpjikhlangaa.pastOrder
open Go.ChangeShapes Go.WideShapes Go.ChangeAt Go.RowKit Go.Pe
theorem own : ownKnob Try.prog.godebug = none := by kernel_rfl
set_option maxRecDepth 100000 in
theorem lifted (os : Os) (started : os.Started) (H : Type) (enc : TypeId × Value → H) :
    ReturnsInHanded {} Try.checked os 4 .any (Rows.pastOrderSpec.pre6 enc Try.prog Try.f4 Rows.pastOrderRow.domain false) (Rows.pastOrderSpec.post enc Try.prog Try.f4 false true false false) := by
  refine returnsInHanded_of_change (C := Try.checked) own started (by kernel_rfl) Try.func4
    (ChangeSpec.witness6 (enc := enc) (C := Try.checked) false ⟨#[], #[.slice none 0 0, .slice none 0 0, .int .u8 0], []⟩ 8 (by kernel_rfl) (by kernel_rfl) (by kernel_rfl) (by kernel_rfl)) ?_
  intro W base args ds gs before hval hW _ _
  exact law_calls (tb := _) (by kernel_rfl) rfl rfl (by kernel_rfl) ⟨Try.f4, Try.func4, by kernel_rfl, by kernel_rfl⟩ (fun ds h => match ds, h with | [_, _, _], _ => rfl) (by kernel_rfl) (fun ps hp => ins_pastOrder hp) hval hW
theorem proved : Rows.PastOrderSaid :=
  OpenClaim.holds_of_wide 4 Try.f4 rfl rfl rfl rfl rfl rfl rfl ⟨rfl, rfl, rfl, rfl, rfl⟩ rfl rfl rfl rfl rfl (by kernel_rfl) Try.func4 (by kernel_rfl)
    (of_decide_eq_true (by kernel_rfl)) (by unfold Func.isWrapper; first | (rw [if_pos (by decide +kernel)]; kernel_rfl) | (rw [if_neg (by decide +kernel)]; exact ⟨rfl, rfl⟩))
    (fun os started H enc _ => lifted os started H enc)
#print axioms proved
end Go.Proofs.Ytfecpjikhlangaa.pastOrder
