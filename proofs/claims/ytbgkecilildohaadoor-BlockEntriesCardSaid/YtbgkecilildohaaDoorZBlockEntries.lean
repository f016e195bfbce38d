/- The entries of any item in any block are what the document says; if the block is right, each proves it; up to 18 transactions of up to 700 bytes. No condition but what the card lists and ties. -/
import Derived.Test.YtbgkecilildohaaDoorQ5
import Derived.Test.YtbgkecilildohaaDoorCards
import Derived.Test.YtbgkecilildohaaDoorTie
namespace Go.Proofs
open Go Go.Pe Go.Pm
set_option maxRecDepth 100000
theorem two_of' {sh sh2 : Sh} {ps : List PV} (h : confL [sh, sh2] ps = true) : ∃ a b, ps = [a, b] ∧ conf sh a = true ∧ conf sh2 b = true := by
  match ps, h with
  | [], h => simp [confL] at h
  | [a], h => simp [confL] at h
  | [a, b], h => simp only [confL, Bool.and_eq_true, Bool.and_true] at h; exact ⟨a, b, rfl, h.1, h.2⟩
  | a :: b :: c :: l, h => simp [confL] at h
theorem ins_blockEntries {ps : List PV} (h : Ins Tryd.prog Tryd.f6.params.toList ps) : PC Tryd.prog G0 6 [] ps [] (.bool true) := by
  have hc := h.conf
  have hs : Tryd.f6.params.toList.map (shOf Tryd.prog 9) = [bksh, .vec 1 (.int .u8)] := by kernel_rfl
  rw [hs] at hc
  have hw := h.wf
  obtain ⟨a, b, rfl, hc1, hc2⟩ := two_of' hc
  simp only [WFL] at hw
  obtain ⟨h, nl, n, L, rfl, hh, hL⟩ := blk_of hc1 hw.1
  obtain ⟨⟨il, m, it⟩, rfl, hi, _⟩ := tx_of hc2 hw.2.1
  exact pc_blockEntries hh hL hi.1 hi.2
end Go.Proofs
namespace Go.Proofs.YtbgkecilildohaaDoor.blockEntries
open Go Go.ChangeShapes Go.WideShapes Go.ChangeAt Go.RowKit Go.Pe
theorem own : ownKnob Tryd.prog.godebug = none := by kernel_rfl
theorem datum : (Rows.laid_masthead_sha2_k : DataW Unit) = .agg (Go.Pm.kS.map fun v => .lit (.int .u32 v)) := by kernel_rfl
set_option maxRecDepth 100000 in
theorem glob {W : World} (h : laidMetH Tryd.prog Rows.blockEntriesRow.laid W) : ∀ g c, G0 g = some c → WF c ∧ noref c = true ∧ RC W (fun b _ => b < W.heap.size) (.pointer (some ⟨g, 0, none⟩)) (.cptr c []) := by
  intro g c hg
  have hl : laidMet Tryd.prog [("masthead/sha2.k", Rows.laid_masthead_sha2_k)] W := h
  unfold G0 at hg
  split at hg
  · rename_i hb
    obtain rfl := Nat.eq_of_beq_eq_true hb
    obtain rfl := Option.some.inj hg
    refine ⟨⟨rfl, by decide⟩, rfl, ?_⟩
    exact glob_ints hl (name := "masthead/sha2.k") (t := 152) (e := 22) (by rw [datum]; exact List.mem_singleton.2 rfl) (by kernel_rfl) (by kernel_rfl) (by kernel_rfl) (by kernel_rfl) (by kernel_rfl) (by kernel_rfl) rfl
  · cases hg
noncomputable def world (os : Os) : World := laidW Tryd.prog os 0 (Go.Pm.kS.map (Value.int .u32)).toArray
set_option maxRecDepth 100000 in
theorem world_met (os : Os) (args : Array Value) : laidMetH Tryd.prog Rows.blockEntriesRow.laid ((world os).forCall (fun _ _ => 0) ⟨#[], args, []⟩).memory :=
  show laidMet Tryd.prog Rows.blockEntriesRow.laid _ from laidMet_of_run' 8 (by kernel_rfl) (by kernel_rfl)
set_option maxRecDepth 100000 in
theorem lifted (os : Os) (started : os.Started) (H : Type) (enc : TypeId × Value → H) :
    ReturnsInHanded {} Tryd.checked os 6 .any (fun w args => (Rows.blockEntriesSpec.pre enc Tryd.prog Tryd.f6 [] false w args ∧ laidMetH Tryd.prog Rows.blockEntriesRow.laid w) ∧ sizedMet enc Tryd.prog Tryd.f6 (OpenSpec.ofChange Rows.blockEntriesSpec) false w args)
      (Rows.blockEntriesSpec.post enc Tryd.prog Tryd.f6 false true false false) := by
  refine returnsInHanded_of_change_and (C := Tryd.checked) (X := fun w _ => laidMetH Tryd.prog Rows.blockEntriesRow.laid w) (fun _ _ _ hh h => h.of_heap hh) own started (by kernel_rfl) Tryd.func6
    (ChangeSpec.witness_at (enc := enc) (C := Tryd.checked) (os := os) (X := fun w _ => laidMetH Tryd.prog Rows.blockEntriesRow.laid w) false (world os) #[.agg (#[.int .u32 0] ++ Array.replicate 64 (.int .u8 0) ++ #[.int .u32 0, .int .u32 0, .int .u32 0, .slice none 0 0]), .slice none 0 0] 8 rfl (by kernel_rfl) (by kernel_rfl) (by kernel_rfl) (by kernel_rfl) (by kernel_rfl) (world_met os _)) ?_
  intro W base args ds gs before hval hW _ _ hL _
  exact law_callsG (G := G0) (tb := _) (by kernel_rfl) rfl rfl (by kernel_rfl) ⟨Tryd.f6, Tryd.func6, by kernel_rfl, by kernel_rfl⟩ (fun ds h => match ds, h with | [_, _], _ => rfl) (by kernel_rfl) (fun ps hp => ins_blockEntries hp) (glob hL) hval hW
theorem row_holds : Rows.BlockEntriesSaid :=
  OpenClaim.holds_of_wide 6 Tryd.f6 rfl rfl rfl rfl rfl rfl rfl ⟨rfl, rfl, rfl, rfl, rfl⟩ rfl rfl rfl rfl rfl (by kernel_rfl) Tryd.func6 (by kernel_rfl)
    (of_decide_eq_true (by kernel_rfl)) (by unfold Func.isWrapper; first | (rw [if_pos (by decide +kernel)]; kernel_rfl) | (rw [if_neg (by decide +kernel)]; exact ⟨rfl, rfl⟩))
    (fun os started H enc _ => lifted os started H enc)
theorem proved : Rows.BlockEntriesCardSaid :=
  Claim7.holds_tied_plain_at .later [] [.data] true (true, "81aa3baaf27c2597ce7a9c00b5efbc96187295597018eae5e054168477d93152") false
    row_holds (fun _ h => by cases h) (by kernel_rfl) (fun _ h => by cases h) blockEntries_row_tie rfl ⟨rfl, rfl⟩ (by kernel_rfl) rfl
    (fun f fn hf hfn => by
      obtain rfl : f = 6 := Option.some.inj ((show Tryd.prog.funcNamed "masthead/mastheadlaw15.BlockEntries" = some 6 by kernel_rfl).symm.trans hf) |>.symm
      obtain rfl : fn = Tryd.f6 := (Option.some.inj (Tryd.func6.symm.trans hfn)).symm
      exact ⟨by kernel_rfl, wants_of (by kernel_rfl)⟩)
    (by kernel_rfl)
#print axioms proved
end Go.Proofs.YtbgkecilildohaaDoor.blockEntries
