/- The headers of any heights are what the document says; up to 10 blocks. No condition but what the card lists and ties. -/
import Derived.Test.YtdlipfcaomomfaaDoorQ4
import Derived.Test.YtdlipfcaomomfaaDoorCards
import Derived.Test.YtdlipfcaomomfaaDoorTie
namespace Go.Proofs
open Go Go.Pe Go.Pm
set_option maxRecDepth 100000
theorem ins_depotHeads {ps : List PV} (h : Ins Tryd.prog Tryd.f4.params.toList ps) : PC Tryd.prog G0 4 [] ps [] (.bool true) := by
  have hc := h.conf
  have hs : Tryd.f4.params.toList.map (shOf Tryd.prog 9) = [cassh, .int .i64, .int .i64] := by kernel_rfl
  rw [hs] at hc
  have hw := h.wf
  obtain ⟨a, b, c, rfl, hc1, hc2, hc3⟩ := three_of' hc
  simp only [WFL] at hw
  obtain ⟨f, bn, n, Bs, rfl, hf, hB, hW⟩ := case_of hc1 hw.1
  obtain ⟨x, rfl, _⟩ := int_of' hc2 hw.2.1
  obtain ⟨y, rfl, _⟩ := int_of' hc3 hw.2.2.1
  exact pc_depotHeads hB hW hf
end Go.Proofs
namespace Go.Proofs.YtdlipfcaomomfaaDoor.depotHeads
open Go Go.ChangeShapes Go.WideShapes Go.ChangeAt Go.RowKit Go.Pe
theorem own : ownKnob Tryd.prog.godebug = none := by kernel_rfl
theorem datum : (Rows.laid_masthead_sha2_k : DataW Unit) = .agg (Go.Pm.kS.map fun v => .lit (.int .u32 v)) := by kernel_rfl
set_option maxRecDepth 100000 in
theorem glob {W : World} (h : laidMetH Tryd.prog Rows.depotHeadsRow.laid W) : ∀ g c, G0 g = some c → WF c ∧ noref c = true ∧ RC W (fun b _ => b < W.heap.size) (.pointer (some ⟨g, 0, none⟩)) (.cptr c []) := by
  intro g c hg
  have hl : laidMet Tryd.prog [("masthead/sha2.k", Rows.laid_masthead_sha2_k)] W := h
  unfold G0 at hg
  split at hg
  · rename_i hb
    obtain rfl := Nat.eq_of_beq_eq_true hb
    obtain rfl := Option.some.inj hg
    refine ⟨⟨rfl, by decide⟩, rfl, ?_⟩
    exact glob_ints hl (name := "masthead/sha2.k") (t := 143) (e := 44) (by rw [datum]; exact List.mem_singleton.2 rfl) (by kernel_rfl) (by kernel_rfl) (by kernel_rfl) (by kernel_rfl) (by kernel_rfl) (by kernel_rfl) rfl
  · cases hg
noncomputable def world (os : Os) : World := laidW Tryd.prog os 0 (Go.Pm.kS.map (Value.int .u32)).toArray
set_option maxRecDepth 100000 in
theorem world_met (os : Os) (args : Array Value) : laidMetH Tryd.prog Rows.depotHeadsRow.laid ((world os).forCall (fun _ _ => 0) ⟨#[], args, []⟩).memory :=
  show laidMet Tryd.prog Rows.depotHeadsRow.laid _ from laidMet_of_run' 8 (by kernel_rfl) (by kernel_rfl)
set_option maxRecDepth 100000 in
theorem lifted (os : Os) (started : os.Started) (H : Type) (enc : TypeId × Value → H) :
    ReturnsInHanded {} Tryd.checked os 4 .any (fun w args => (Rows.depotHeadsSpec.pre enc Tryd.prog Tryd.f4 [] false w args ∧ laidMetH Tryd.prog Rows.depotHeadsRow.laid w) ∧ sizedMet enc Tryd.prog Tryd.f4 (OpenSpec.ofChange Rows.depotHeadsSpec) false w args)
      (Rows.depotHeadsSpec.post enc Tryd.prog Tryd.f4 false true false false) := by
  refine returnsInHanded_of_change_and (C := Tryd.checked) (X := fun w _ => laidMetH Tryd.prog Rows.depotHeadsRow.laid w) (fun _ _ _ hh h => h.of_heap hh) own started (by kernel_rfl) Tryd.func4
    (ChangeSpec.witness_at (enc := enc) (C := Tryd.checked) (os := os) (X := fun w _ => laidMetH Tryd.prog Rows.depotHeadsRow.laid w) false (world os) #[.agg (Array.replicate 32 (.int .u8 0) ++ #[.slice none 0 0]), .int .i64 0, .int .i64 0] 8 rfl (by kernel_rfl) (by kernel_rfl) (by kernel_rfl) (by kernel_rfl) (by kernel_rfl) (world_met os _)) ?_
  intro W base args ds gs before hval hW _ _ hL _
  exact law_callsG (G := G0) (tb := _) (by kernel_rfl) rfl rfl (by kernel_rfl) ⟨Tryd.f4, Tryd.func4, by kernel_rfl, by kernel_rfl⟩ (fun ds h => match ds, h with | [_, _, _], _ => rfl) (by kernel_rfl) (fun ps hp => ins_depotHeads hp) (glob hL) hval hW
theorem row_holds : Rows.DepotHeadsSaid :=
  OpenClaim.holds_of_wide 4 Tryd.f4 rfl rfl rfl rfl rfl rfl rfl ⟨rfl, rfl, rfl, rfl, rfl⟩ rfl rfl rfl rfl rfl (by kernel_rfl) Tryd.func4 (by kernel_rfl)
    (of_decide_eq_true (by kernel_rfl)) (by unfold Func.isWrapper; first | (rw [if_pos (by decide +kernel)]; kernel_rfl) | (rw [if_neg (by decide +kernel)]; exact ⟨rfl, rfl⟩))
    (fun os started H enc _ => lifted os started H enc)
theorem proved : Rows.DepotHeadsCardSaid :=
  Claim7.holds_tied_plain_at .later [] [.data] true (true, "2ba10b98f001ace8d685f5df0dfd22d124bd445328697a34ace9f0ff539ea166") false
    row_holds (fun _ h => by cases h) (by kernel_rfl) (fun _ h => by cases h) depotHeads_row_tie rfl ⟨rfl, rfl⟩ (by kernel_rfl) rfl
    (fun f fn hf hfn => by
      obtain rfl : f = 4 := Option.some.inj ((show Tryd.prog.funcNamed "masthead/mastheadlaw22.DepotHeads" = some 4 by kernel_rfl).symm.trans hf) |>.symm
      obtain rfl : fn = Tryd.f4 := (Option.some.inj (Tryd.func4.symm.trans hfn)).symm
      exact ⟨by kernel_rfl, wants_of (by kernel_rfl)⟩)
    (by kernel_rfl)
#print axioms proved
end Go.Proofs.YtdlipfcaomomfaaDoor.depotHeads
