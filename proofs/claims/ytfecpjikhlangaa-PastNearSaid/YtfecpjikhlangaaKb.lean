/- Whether a time is too far ahead is what the document says. No condition. -/
import Derived.Test.YtfecpjikhlangaaKa
import Derived.Test.YtfecpjikhlangaaPeLaw
import Derived.Test.YtfecpjikhlangaaRows
namespace Go.Proofs
open Go Go.Pe
set_option maxRecDepth 100000
def held (n : Int) : Int := mn (mx n 0) 1099511627776
theorem held_le (n : Int) : 0 ≤ held n ∧ held n ≤ 1099511627776 := by
  unfold held mn mx
  split <;> split <;> omega
theorem u32_le {t : Int} (ht : IntKind.u32.wrap t = t) : 0 ≤ t ∧ t ≤ 4294967295 := (wrap_bounds _ _).1 ht
theorem pc_near {t now future : Int} (ht : IntKind.u32.wrap t = t) : PC Try.prog G0 15 [] [.int .u32 t, .int .i64 now, .int .i64 future] [] (.bool (decide (t ≤ held now + held future))) := by
  refine PC.of (fn := Try.f15) (c := bodyOf Try.f15) Try.func15 (by kernel_rfl) (by kernel_rfl) (by kernel_rfl) (by kernel_rfl) ?_
  have h1 := u32_le ht
  have h2 := held_le now
  have h3 := held_le future
  have h4 : IntKind.i64.wrap t = t := wrap64 (by omega) (by omega)
  have h5 : IntKind.i64.wrap (held now + held future) = held now + held future := wrap64 (by omega) (by omega)
  refine W.ret [] [] [PV.bool (decide (IntKind.wrap IntKind.i64 t ≤ IntKind.wrap IntKind.i64 (mn (mx now (0 : Int)) (1099511627776 : Int) + mn (mx future (0 : Int)) (1099511627776 : Int)))) = PV.bool (decide (t ≤ held now + held future))] (by kernel_rfl) ?_
  show PV.bool (decide (IntKind.i64.wrap t ≤ IntKind.i64.wrap (held now + held future))) = _
  rw [h4, h5]
theorem pc_held (n : Int) : PC Try.prog G0 16 [] [.int .i64 n] [] (.int .i64 (held n)) := by
  refine PC.of (fn := Try.f16) (c := bodyOf Try.f16) Try.func16 (by kernel_rfl) (by kernel_rfl) (by kernel_rfl) (by kernel_rfl) ?_
  by_cases h1 : n < 0
  · refine W.ret [(2, .dec true)] [] [decide (n < (0 : Int)) = true, PV.int IntKind.i64 (0 : Int) = PV.int IntKind.i64 (held n)] (by kernel_rfl) ?_
    simp [AllC, held, mx, mn, h1]
  · by_cases h2 : n > 1099511627776
    · refine W.ret [(2, .dec false), (4, .dec true)] [] [decide (n < (0 : Int)) = false, decide (n > (1099511627776 : Int)) = true, PV.int IntKind.i64 (1099511627776 : Int) = PV.int IntKind.i64 (held n)] (by kernel_rfl) ?_
      simp [AllC, held, mx, mn, h1, h2]
    · refine W.ret [(2, .dec false), (4, .dec false)] [] [decide (n < (0 : Int)) = false, decide (n > (1099511627776 : Int)) = false, PV.int IntKind.i64 n = PV.int IntKind.i64 (held n)] (by kernel_rfl) ?_
      simp [AllC, held, mx, mn, h1, h2]
theorem pc_awake : PC Try.prog G0 10 [] [] [] (.bool true) := by
  refine PC.of (fn := Try.f10) (c := bodyOf Try.f10) Try.func10 (by kernel_rfl) (by kernel_rfl) (by kernel_rfl) (by kernel_rfl) ?_
  have h1 := pc_median (nl := false) (l := [5, 1, 9]) (by decide) (by simp)
  have h2 := pc_median (nl := false) (l := [5, 1, 9, 7]) (by decide) (by simp)
  have h3 := pc_after (nl := true) (l := []) (t := 0) (by decide) (by simp)
  have e1 : medianM [5, 1, 9] = 5 := by decide
  have e2 : medianM [5, 1, 9, 7] = 7 := by decide
  rw [e1] at h1
  rw [e2] at h2
  refine W.ret [(2, .call true [] [] (.int .u32 5)), (6, .call true [] [] (.int .u32 7)), (10, .call true [] [] (.bool true))] [] [(3 : Nat) ≤ (3 : Nat), PC Try.prog G0 (11 : Nat) [] [PV.vec false (PV.iarr IntKind.u32 (3 : Nat) [(5 : Int), (1 : Int), (9 : Int)])] [] (PV.int IntKind.u32 (5 : Int)), (4 : Nat) ≤ (4 : Nat), PC Try.prog G0 (11 : Nat) [] [PV.vec false (PV.iarr IntKind.u32 (4 : Nat) [(5 : Int), (1 : Int), (9 : Int), (7 : Int)])] [] (PV.int IntKind.u32 (7 : Int)), PC Try.prog G0 (14 : Nat) [] [PV.vec true (PV.iarr IntKind.u32 (0 : Nat) []), PV.int IntKind.u32 (0 : Int)] [] (PV.bool true), PV.bool true = PV.bool true] (by kernel_rfl) ?_
  simp [AllC] at h1 h2 h3 ⊢
  exact ⟨h1, h2, h3⟩
theorem pc_pastNear {t now future : Int} (ht : IntKind.u32.wrap t = t) : PC Try.prog G0 6 [] [.int .u32 t, .int .i64 now, .int .i64 future] [] (.bool true) := by
  refine PC.of (fn := Try.f6) (c := bodyOf Try.f6) Try.func6 (by kernel_rfl) (by kernel_rfl) (by kernel_rfl) (by kernel_rfl) ?_
  have h1 := u32_le ht
  have h2 := held_le now
  have h3 := held_le future
  have h4 : IntKind.i64.wrap t = t := wrap64 (by omega) (by omega)
  have h5 : IntKind.i64.wrap (held now + held future) = held now + held future := wrap64 (by omega) (by omega)
  refine W.ret [(4, .call true [] [] (.bool (decide (t ≤ held now + held future)))), (8, .call true [] [] (.int .i64 (held now))), (10, .call true [] [] (.int .i64 (held future))), (14, .dec true), (15, .call true [] [] (.bool true))] [] [PC Try.prog G0 (15 : Nat) [] [PV.int IntKind.u32 t, PV.int IntKind.i64 now, PV.int IntKind.i64 future] [] (PV.bool (decide (t ≤ held now + held future))), PC Try.prog G0 (16 : Nat) [] [PV.int IntKind.i64 now] [] (PV.int IntKind.i64 (held now)), PC Try.prog G0 (16 : Nat) [] [PV.int IntKind.i64 future] [] (PV.int IntKind.i64 (held future)), (decide (t ≤ held now + held future) == decide (IntKind.wrap IntKind.i64 t ≤ IntKind.wrap IntKind.i64 (held now + held future))) = true, PC Try.prog G0 (10 : Nat) [] [] [] (PV.bool true), PV.bool true = PV.bool true] (by kernel_rfl) ?_
  simp [AllC, pc_near ht, pc_held, pc_awake, h4, h5]
theorem near_ins {ps : List PV} (h : Ins Try.prog Try.f6.params.toList ps) : PC Try.prog (fun _ => none) 6 [] ps [] (.bool true) := by
  have hc := h.conf
  have hs : Try.f6.params.toList.map (shOf Try.prog 9) = [.int .u32, .int .i64, .int .i64] := by kernel_rfl
  rw [hs] at hc
  obtain ⟨x, y, z, rfl⟩ : ∃ x y z, ps = [.int .u32 x, .int .i64 y, .int .i64 z] := ⟨_, _, _, (exposeL_conf _ _ hc).symm⟩
  have hw := h.wf
  simp only [WFL, WF] at hw
  exact pc_pastNear hw.1
end Go.Proofs
namespace Go.Proofs.Ytfecpjikhlangaa.pastNear
open Go.ChangeShapes Go.WideShapes Go.ChangeAt Go.RowKit Go.Pe
theorem own : ownKnob Try.prog.godebug = none := by kernel_rfl
set_option maxRecDepth 100000 in
theorem lifted (os : Os) (started : os.Started) (H : Type) (enc : TypeId × Value → H) :
    ReturnsInHanded {} Try.checked os 6 .any (Rows.pastNearSpec.pre6 enc Try.prog Try.f6 Rows.pastNearRow.domain false) (Rows.pastNearSpec.post enc Try.prog Try.f6 false true false false) := by
  refine returnsInHanded_of_change (C := Try.checked) own started (by kernel_rfl) Try.func6
    (ChangeSpec.witness6 (enc := enc) (C := Try.checked) false ⟨#[], #[.int .u32 0, .int .i64 0, .int .i64 0], []⟩ 8 (by kernel_rfl) (by kernel_rfl) (by kernel_rfl) (by kernel_rfl)) ?_
  intro W base args ds gs before hval hW _ _
  exact law_calls (tb := 4) (by kernel_rfl) rfl (by kernel_rfl) (by kernel_rfl) (fun ds h => match ds, h with | [_, _, _], _ => rfl) (by kernel_rfl) (fun ps hp => near_ins hp) hval hW
theorem proved : Rows.PastNearSaid :=
  OpenClaim.holds_of_wide 6 Try.f6 rfl rfl rfl rfl rfl rfl rfl ⟨rfl, rfl, rfl, rfl, rfl⟩ rfl rfl rfl rfl rfl (by kernel_rfl) Try.func6 (by kernel_rfl)
    (of_decide_eq_true (by kernel_rfl)) (by unfold Func.isWrapper; first | (rw [if_pos (by decide +kernel)]; kernel_rfl) | (rw [if_neg (by decide +kernel)]; exact ⟨rfl, rfl⟩))
    (fun os started H enc _ => lifted os started H enc)
#print axioms proved
end Go.Proofs.Ytfecpjikhlangaa.pastNear
