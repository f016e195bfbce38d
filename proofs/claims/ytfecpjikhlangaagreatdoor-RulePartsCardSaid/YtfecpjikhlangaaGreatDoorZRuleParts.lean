/- Parts of a line that stands stand later too, their sums rise, their bits are canonical; for lines up to 16 headers. No condition but what the card lists and ties. -/
import Derived.Test.YtfecpjikhlangaaGreatDoorQ6
import Derived.Test.YtfecpjikhlangaaGreatDoorCards
import Derived.Test.YtfecpjikhlangaaGreatDoorTie
namespace Go.Proofs
open Go Go.Pe Go.Pm
set_option maxRecDepth 100000
theorem one_of' {sh : Sh} {ps : List PV} (h : confL [sh] ps = true) : ∃ a, ps = [a] ∧ conf sh a = true := by
  match ps, h with
  | [], h => simp [confL] at h
  | [a], h => simp only [confL, Bool.and_true] at h; exact ⟨a, rfl, h⟩
  | a :: b :: t, h => simp [confL] at h
theorem lpv_of {b : PV} (hc : conf (.vec 68 hsh) b = true) (hw : WF b) : ∃ nl l, b = lpv nl l ∧ ∀ h ∈ l, h.Ok := by
  obtain ⟨nl, n, m, rfl⟩ : ∃ nl n m, b = .vec nl (.parr 68 n hsh m) := ⟨_, _, _, (expose_conf _ _ hc).symm⟩
  simp only [WF] at hw
  obtain ⟨⟨h1, h2, h3⟩, _, _⟩ := hw
  obtain ⟨l, rfl, hl⟩ := line_of h2 h3
  exact ⟨nl, l, by unfold lpv; rw [← h1, List.length_map], hl⟩
def ptsh : Sh := .st 80 [psh, .vec 68 hsh, .int .i64, .int .i64]
theorem ins_ruleParts {ps : List PV} (h : Ins Tryz.prog Tryz.f5.params.toList ps) : PC Tryz.prog G0 5 [] ps [] (.bool true) := by
  have hc := h.conf
  have hs : Tryz.f5.params.toList.map (shOf Tryz.prog 9) = [ptsh] := by kernel_rfl
  rw [hs] at hc
  have hw := h.wf
  obtain ⟨b, rfl, hc2⟩ := one_of' hc
  simp only [WFL] at hw
  obtain ⟨x, y, z, u, rfl, hx, hy⟩ : ∃ x y z u, b = .st 80 [x, y, .int .i64 z, .int .i64 u] ∧ conf psh x = true ∧ conf (.vec 68 hsh) y = true := by
    have e := expose_conf _ _ hc2
    obtain ⟨x, y, z, u, rfl⟩ : ∃ x y z u, b = .st 80 [x, y, .int .i64 z, .int .i64 u] := ⟨_, _, _, _, e.symm⟩
    have h2 : (Nat.beq 80 80 && (conf psh x && (conf (.vec 68 hsh) y && (conf (.int .i64) (.int .i64 z) && (conf (.int .i64) (.int .i64 u) && true))))) = true := hc2
    simp only [Bool.and_eq_true] at h2
    exact ⟨x, y, z, u, rfl, h2.2.1, h2.2.2.1⟩
  have hb := hw.1
  simp only [WF, WFL] at hb
  obtain ⟨p, rfl, ho⟩ := prm_of hx hb.2.1
  obtain ⟨nl, l, rfl, hl⟩ := lpv_of hy hb.2.2.1
  exact pc_ruleParts ho hl
end Go.Proofs
namespace Go.Proofs.YtfecpjikhlangaaGreatDoor.ruleParts
open Go Go.ChangeShapes Go.WideShapes Go.ChangeAt Go.RowKit Go.Pe
theorem own : ownKnob Tryz.prog.godebug = none := by kernel_rfl
theorem datum : (Rows.laid_masthead_sha2_k : DataW Unit) = .agg (Go.Pm.kS.map fun v => .lit (.int .u32 v)) := by kernel_rfl
set_option maxRecDepth 100000 in
theorem glob {W : World} (h : laidMetH Tryz.prog Rows.rulePartsRow.laid W) : ∀ g c, G0 g = some c → WF c ∧ noref c = true ∧ RC W (fun b _ => b < W.heap.size) (.pointer (some ⟨g, 0, none⟩)) (.cptr c []) := by
  intro g c hg
  have hl : laidMet Tryz.prog [("masthead/sha2.k", Rows.laid_masthead_sha2_k)] W := h
  unfold G0 at hg
  split at hg
  · rename_i hb
    obtain rfl := Nat.eq_of_beq_eq_true hb
    obtain rfl := Option.some.inj hg
    refine ⟨⟨rfl, by decide⟩, rfl, ?_⟩
    exact glob_ints hl (name := "masthead/sha2.k") (t := 167) (e := 22) (by rw [datum]; exact List.mem_singleton.2 rfl) (by kernel_rfl) (by kernel_rfl) (by kernel_rfl) (by kernel_rfl) (by kernel_rfl) (by kernel_rfl) rfl
  · cases hg
noncomputable def world (os : Os) : World := laidW Tryz.prog os 2 (Go.Pm.kS.map (Value.int .u32)).toArray
set_option maxRecDepth 100000 in
theorem world_met (os : Os) (args : Array Value) : laidMetH Tryz.prog Rows.rulePartsRow.laid ((world os).forCall (fun _ _ => 0) ⟨#[], args, []⟩).memory :=
  show laidMet Tryz.prog Rows.rulePartsRow.laid _ from laidMet_of_run' 8 (by kernel_rfl) (by kernel_rfl)
set_option maxRecDepth 100000 in
theorem lifted (os : Os) (started : os.Started) (H : Type) (enc : TypeId × Value → H) :
    ReturnsInHanded {} Tryz.checked os 5 .any (fun w args => (Rows.rulePartsSpec.pre enc Tryz.prog Tryz.f5 [] false w args ∧ laidMetH Tryz.prog Rows.rulePartsRow.laid w) ∧ sizedMet enc Tryz.prog Tryz.f5 (OpenSpec.ofChange Rows.rulePartsSpec) false w args)
      (Rows.rulePartsSpec.post enc Tryz.prog Tryz.f5 false true false false) := by
  refine returnsInHanded_of_change_and (C := Tryz.checked) (X := fun w _ => laidMetH Tryz.prog Rows.rulePartsRow.laid w) (fun _ _ _ hh h => h.of_heap hh) own started (by kernel_rfl) Tryz.func5
    (ChangeSpec.witness_at (enc := enc) (C := Tryz.checked) (os := os) (X := fun w _ => laidMetH Tryz.prog Rows.rulePartsRow.laid w) false (world os) #[.agg (#[.int .u32 0, .int .i64 0, .int .i64 0, .int .i64 0, .int .i64 0, .int .u32 0] ++ Array.replicate 64 (.int .u8 0) ++ #[.int .u32 0, .int .u32 0, .int .u32 0, .int .u64 0, .int .u64 0, .int .u64 0, .int .u64 0, .slice none 0 0, .int .i64 0, .int .i64 0])] 8 rfl (by kernel_rfl) (by kernel_rfl) (by kernel_rfl) (by kernel_rfl) (by kernel_rfl) (world_met os _)) ?_
  intro W base args ds gs before hval hW _ _ hL _
  exact law_callsG (G := G0) (tb := _) (by kernel_rfl) rfl rfl (by kernel_rfl) ⟨Tryz.f5, Tryz.func5, by kernel_rfl, by kernel_rfl⟩ (fun ds h => match ds, h with | [_], _ => rfl) (by kernel_rfl) (fun ps hp => ins_ruleParts hp) (glob hL) hval hW
theorem row_holds : Rows.RulePartsSaid :=
  OpenClaim.holds_of_wide 5 Tryz.f5 rfl rfl rfl rfl rfl rfl rfl ⟨rfl, rfl, rfl, rfl, rfl⟩ rfl rfl rfl rfl rfl (by kernel_rfl) Tryz.func5 (by kernel_rfl)
    (of_decide_eq_true (by kernel_rfl)) (by unfold Func.isWrapper; first | (rw [if_pos (by decide +kernel)]; kernel_rfl) | (rw [if_neg (by decide +kernel)]; exact ⟨rfl, rfl⟩))
    (fun os started H enc _ => lifted os started H enc)
theorem proved : Rows.RulePartsCardSaid :=
  Claim7.holds_tied_plain_at .later [] [.data] true (true, "294d020045df07d49d30bb3c2649688690bfc5dbc9a48f4c85d1db5601f63999") false
    row_holds (fun _ h => by cases h) (by kernel_rfl) (fun _ h => by cases h) ruleParts_row_tie rfl ⟨rfl, rfl⟩ (by kernel_rfl) rfl
    (fun f fn hf hfn => by
      obtain rfl : f = 5 := Option.some.inj ((show Tryz.prog.funcNamed "masthead/mastheadlaw19.RuleParts" = some 5 by kernel_rfl).symm.trans hf) |>.symm
      obtain rfl : fn = Tryz.f5 := (Option.some.inj (Tryz.func5.symm.trans hfn)).symm
      exact ⟨by kernel_rfl, wants_of (by kernel_rfl)⟩)
    (by kernel_rfl)
#print axioms proved
end Go.Proofs.YtfecpjikhlangaaGreatDoor.ruleParts
