/- There are servers of just the numbers that the document allows. No condition but what the card lists and ties. -/
import Derived.Test.YtnjbfdlcefmlmaaGreatDoorQ4
import Derived.Test.YtnjbfdlcefmlmaaGreatDoorCards
import Derived.Test.YtnjbfdlcefmlmaaGreatDoorTie
namespace Go.Proofs
open Go Go.Pe Go.Pm
set_option maxRecDepth 100000
theorem ins_serverNew {ps : Lpz} (h : Ins Tryz.prog Tryz.f3.params.toList ps) : Pt 3 [] ps [] (.bool true) := by
  have hc := h.conf
  have hs : Tryz.f3.params.toList.map (BF Tryz.prog 9) = [.int .i64, .int .i64] := by kernel_rfl
  rw [hs] at hc
  obtain ⟨b, q, rfl⟩ : ∃ b q, ps = [.int .i64 b, .int .i64 q] := ⟨_, _, (GG _ _ hc).symm⟩
  exact Q8
end Go.Proofs
namespace Go.Proofs.YtnjbfdlcefmlmaaGreatDoor.serverNew
open Go Go.ChangeShapes Go.WideShapes Go.ChangeAt Go.RowKit Go.Pe
theorem own : ownKnob Tryz.prog.godebug = none := by kernel_rfl
theorem datum : (Rows.laid_masthead_sha2_k : DataW Unit) = .agg (Go.Pm.kS.map fun v => .lit (.int .u32 v)) := by kernel_rfl
set_option maxRecDepth 100000 in
theorem glob {W : World} (h : laidMetH Tryz.prog Rows.serverNewRow.laid W) : ∀ g c, G0 g = some c → WF c ∧ noref c = true ∧ RC W (fun b _ => b < W.heap.size) (.pointer (some ⟨g, 0, none⟩)) (.cptr c []) := by
  intro g c hg
  have hl : laidMet Tryz.prog [("masthead/sha2.k", Rows.laid_masthead_sha2_k)] W := h
  unfold G0 at hg
  split at hg
  · rename_i hb
    obtain rfl := Nat.eq_of_beq_eq_true hb
    obtain rfl := Option.some.inj hg
    refine ⟨⟨rfl, by decide⟩, rfl, ?_⟩
    exact glob_ints hl (name := "masthead/sha2.k") (t := 182) (e := 58) (by rw [datum]; exact List.mem_singleton.2 rfl) (by kernel_rfl) (by kernel_rfl) (by kernel_rfl) (by kernel_rfl) (by kernel_rfl) (by kernel_rfl) rfl
  · cases hg
noncomputable def world (os : Os) : World := laidW Tryz.prog os 0 (Go.Pm.kS.map (Value.int .u32)).toArray
set_option maxRecDepth 100000 in
theorem world_met (os : Os) (args : Array Value) : laidMetH Tryz.prog Rows.serverNewRow.laid ((world os).forCall (fun _ _ => 0) ⟨#[], args, []⟩).memory :=
  show laidMet Tryz.prog Rows.serverNewRow.laid _ from laidMet_of_run' 8 (by kernel_rfl) (by kernel_rfl)
set_option maxRecDepth 100000 in
theorem lifted (os : Os) (started : os.Started) (H : Type) (enc : TypeId × Value → H) :
    ReturnsInHanded {} Tryz.checked os 3 .any (fun w args => (Rows.serverNewSpec.pre enc Tryz.prog Tryz.f3 [] false w args ∧ laidMetH Tryz.prog Rows.serverNewRow.laid w) ∧ sizedMet enc Tryz.prog Tryz.f3 (OpenSpec.ofChange Rows.serverNewSpec) false w args)
      (Rows.serverNewSpec.post enc Tryz.prog Tryz.f3 false true false false) := by
  refine returnsInHanded_of_change_and (C := Tryz.checked) (X := fun w _ => laidMetH Tryz.prog Rows.serverNewRow.laid w) (fun _ _ _ hh h => h.of_heap hh) own started (by kernel_rfl) Tryz.func3
    (ChangeSpec.witness_at (enc := enc) (C := Tryz.checked) (os := os) (X := fun w _ => laidMetH Tryz.prog Rows.serverNewRow.laid w) false (world os) #[.int .i64 0, .int .i64 0] 8 rfl (by kernel_rfl) (by kernel_rfl) (by kernel_rfl) (by kernel_rfl) (by kernel_rfl) (world_met os _)) ?_
  intro W base args ds gs before hval hW _ _ hL _
  exact law_callsG (G := G0) (tb := _) (by kernel_rfl) rfl rfl (by kernel_rfl) ⟨Tryz.f3, Tryz.func3, by kernel_rfl, by kernel_rfl⟩ (fun ds h => match ds, h with | [_, _], _ => rfl) (by kernel_rfl) (fun ps hp => ins_serverNew hp) (glob hL) hval hW
theorem row_holds : Rows.ServerNewSaid :=
  OpenClaim.holds_of_wide 3 Tryz.f3 rfl rfl rfl rfl rfl rfl rfl ⟨rfl, rfl, rfl, rfl, rfl⟩ rfl rfl rfl rfl rfl (by kernel_rfl) Tryz.func3 (by kernel_rfl)
    (of_decide_eq_true (by kernel_rfl)) (by unfold Func.isWrapper; first | (rw [if_pos (by decide +kernel)]; kernel_rfl) | (rw [if_neg (by decide +kernel)]; exact ⟨rfl, rfl⟩))
    (fun os started H enc _ => lifted os started H enc)
theorem proved : Rows.ServerNewCardSaid :=
  Claim7.holds_tied_plain_at .later [] [.data] true (true, "63b86a4d817812904c10727a7a765302350dd1f83bedddd7044823353e783040") false
    row_holds (fun _ h => by cases h) (by kernel_rfl) (fun _ h => by cases h) serverNew_row_tie rfl ⟨rfl, rfl⟩ (by kernel_rfl) rfl
    (fun f fn hf hfn => by
      obtain rfl : f = 3 := Option.some.inj ((show Tryz.prog.funcNamed "masthead/mastheadlaw23.ServerNew" = some 3 by kernel_rfl).symm.trans hf) |>.symm
      obtain rfl : fn = Tryz.f3 := (Option.some.inj (Tryz.func3.symm.trans hfn)).symm
      exact ⟨by kernel_rfl, wants_of (by kernel_rfl)⟩)
    (by kernel_rfl)
#print axioms proved
end Go.Proofs.YtnjbfdlcefmlmaaGreatDoor.serverNew
