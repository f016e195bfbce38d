/- Each header that is there ends a line of right headers, at the latest clock that was told; up to 16 headers. No condition but what the card lists and ties. -/
import Derived.Test.YtjclbapcmepnpaaGreatDoorQ6
import Derived.Test.YtjclbapcmepnpaaGreatDoorCards
import Derived.Test.YtjclbapcmepnpaaGreatDoorTie
namespace Go.Proofs
open Go Go.Pe Go.Pm
set_option maxRecDepth 100000
theorem ins_treeRight {ps : Lpz} (h : Ins Tryz.prog Tryz.f7.params.toList ps) : Pt 7 [] ps [] (.bool true) := by
  have hc := h.conf
  have hs : Tryz.f7.params.toList.map (CL Tryz.prog 9) = [tcsh] := by kernel_rfl
  rw [hs] at hc
  have hw := h.wf
  obtain ⟨a, rfl, hc1⟩ := one_ofT hc
  simp only [WFL] at hw
  obtain ⟨q, nl, I, rfl, hq, hI⟩ := tc_of hc1 hw.1
  exact Ya hq fun x hx => (hI x hx).1
end Go.Proofs
namespace Go.Proofs.YtjclbapcmepnpaaGreatDoor.treeRight
open Go Go.ChangeShapes Go.WideShapes Go.ChangeAt Go.RowKit Go.Pe
theorem own : ownKnob Tryz.prog.godebug = none := by kernel_rfl
theorem datum : (Rows.laid_masthead_sha2_k : DataW Unit) = .agg (Go.Pm.kS.map fun v => .lit (.int .u32 v)) := by kernel_rfl
set_option maxRecDepth 100000 in
theorem glob {W : World} (h : laidMetH Tryz.prog Rows.treeRightRow.laid W) : ∀ g c, G0 g = some c → WF c ∧ noref c = true ∧ RC W (fun b _ => b < W.heap.size) (.pointer (some ⟨g, 0, none⟩)) (.cptr c []) := by
  intro g c hg
  have hl : laidMet Tryz.prog [("masthead/sha2.k", Rows.laid_masthead_sha2_k)] W := h
  unfold G0 at hg
  split at hg
  · rename_i hb
    obtain rfl := Nat.eq_of_beq_eq_true hb
    obtain rfl := Option.some.inj hg
    refine ⟨⟨rfl, by decide⟩, rfl, ?_⟩
    exact glob_ints hl (name := "masthead/sha2.k") (t := 199) (e := 22) (by rw [datum]; exact List.mem_singleton.2 rfl) (by kernel_rfl) (by kernel_rfl) (by kernel_rfl) (by kernel_rfl) (by kernel_rfl) (by kernel_rfl) rfl
  · cases hg
noncomputable def world (os : Os) : World := laidW Tryz.prog os 0 (Go.Pm.kS.map (Value.int .u32)).toArray
set_option maxRecDepth 100000 in
theorem world_met (os : Os) (args : Array Value) : laidMetH Tryz.prog Rows.treeRightRow.laid ((world os).forCall (fun _ _ => 0) ⟨#[], args, []⟩).memory :=
  show laidMet Tryz.prog Rows.treeRightRow.laid _ from laidMet_of_run' 8 (by kernel_rfl) (by kernel_rfl)
set_option maxRecDepth 100000 in
theorem lifted (os : Os) (started : os.Started) (H : Type) (enc : TypeId × Value → H) :
    ReturnsInHanded {} Tryz.checked os 7 .any (fun w args => (Rows.treeRightSpec.pre enc Tryz.prog Tryz.f7 [] false w args ∧ laidMetH Tryz.prog Rows.treeRightRow.laid w) ∧ sizedMet enc Tryz.prog Tryz.f7 (OpenSpec.ofChange Rows.treeRightSpec) false w args)
      (Rows.treeRightSpec.post enc Tryz.prog Tryz.f7 false true false false) := by
  refine returnsInHanded_of_change_and (C := Tryz.checked) (X := fun w _ => laidMetH Tryz.prog Rows.treeRightRow.laid w) (fun _ _ _ hh h => h.of_heap hh) own started (by kernel_rfl) Tryz.func7
    (ChangeSpec.witness_at (enc := enc) (C := Tryz.checked) (os := os) (X := fun w _ => laidMetH Tryz.prog Rows.treeRightRow.laid w) false (world os) #[.agg (#[.int .u32 0, .int .i64 0, .int .i64 0, .int .i64 0, .int .i64 0, .int .u32 0] ++ Array.replicate 64 (.int .u8 0) ++ #[.int .u32 0, .int .u32 0, .int .u32 0, .int .u64 0, .int .u64 0, .int .u64 0, .int .u64 0, .slice none 0 0])] 8 rfl (by kernel_rfl) (by kernel_rfl) (by kernel_rfl) (by kernel_rfl) (by kernel_rfl) (world_met os _)) ?_
  intro W base args ds gs before hval hW _ _ hL _
  exact law_callsG (G := G0) (tb := _) (by kernel_rfl) rfl rfl (by kernel_rfl) ⟨Tryz.f7, Tryz.func7, by kernel_rfl, by kernel_rfl⟩ (fun ds h => match ds, h with | [_], _ => rfl) (by kernel_rfl) (fun ps hp => ins_treeRight hp) (glob hL) hval hW
theorem row_holds : Rows.TreeRightSaid :=
  OpenClaim.holds_of_wide 7 Tryz.f7 rfl rfl rfl rfl rfl rfl rfl ⟨rfl, rfl, rfl, rfl, rfl⟩ rfl rfl rfl rfl rfl (by kernel_rfl) Tryz.func7 (by kernel_rfl)
    (of_decide_eq_true (by kernel_rfl)) (by unfold Func.isWrapper; first | (rw [if_pos (by decide +kernel)]; kernel_rfl) | (rw [if_neg (by decide +kernel)]; exact ⟨rfl, rfl⟩))
    (fun os started H enc _ => lifted os started H enc)
theorem proved : Rows.TreeRightCardSaid :=
  Claim7.holds_tied_plain_at .later [] [.data] true (true, "15ac158f6cf1a1d9ace253b48ed8666401a3e9c8d6b5b4d5cd51c3f11a1d3e71") false
    row_holds (fun _ h => by cases h) (by kernel_rfl) (fun _ h => by cases h) treeRight_row_tie rfl ⟨rfl, rfl⟩ (by kernel_rfl) rfl
    (fun f fn hf hfn => by
      obtain rfl : f = 7 := Option.some.inj ((show Tryz.prog.funcNamed "masthead/mastheadlaw20.TreeRight" = some 7 by kernel_rfl).symm.trans hf) |>.symm
      obtain rfl : fn = Tryz.f7 := (Option.some.inj (Tryz.func7.symm.trans hfn)).symm
      exact ⟨by kernel_rfl, wants_of (by kernel_rfl)⟩)
    (by kernel_rfl)
#print axioms proved
end Go.Proofs.YtjclbapcmepnpaaGreatDoor.treeRight
