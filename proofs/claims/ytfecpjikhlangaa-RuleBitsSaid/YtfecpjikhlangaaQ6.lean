/- Merged texts: the pure machine and what the walks show. Conditions: as each statement says. -/
import Derived.Carry
import Derived.ChangeArms
import Derived.ChangeSame
import Derived.ChangeCalls
import Derived.JoinedOf
import Derived.Handed
import Derived.OpenShut
import Derived.RowKit
import Derived.ProofKit
import Derived.Test.YtfecpjikhlangaaQ5
namespace Go.Proofs
open Go Go.Pe Go.Pm
set_option maxRecDepth 100000
set_option linter.unusedVariables false
/-- a header -/
structure Hd where
  ver : Nat
  prev : List Int
  root : List Int
  time : Nat
  bits : Nat
  nonce : Nat
def Hd.pv (h : Hd) : PV := .st 68 [.int .u32 h.ver, .iarr .u8 32 h.prev, .iarr .u8 32 h.root, .int .u32 h.time, .int .u32 h.bits, .int .u32 h.nonce]
structure Hd.Ok (h : Hd) : Prop where
  ver : h.ver < 4294967296
  time : h.time < 4294967296
  bits : h.bits < 4294967296
  nonce : h.nonce < 4294967296
  prev : h.prev.length = 32
  root : h.root.length = 32
  prevB : ∀ x ∈ h.prev, 0 ≤ x ∧ x ≤ 255
  rootB : ∀ x ∈ h.root, 0 ≤ x ∧ x ≤ 255
/-- params -/
structure Prm where
  lim : Nat
  per : Int
  sp : Int
  fu : Int
  cap : Int
  gen : Hd
  sum : Nat
def Prm.pv (p : Prm) : PV := .st 77 [.int .u32 p.lim, .int .i64 p.per, .int .i64 p.sp, .int .i64 p.fu, .int .i64 p.cap, p.gen.pv, .iarr .u64 4 (uw p.sum)]
def Prm.rpv (p : Prm) : PV := .st 74 [.int .u32 p.lim, .int .i64 p.per, .int .i64 p.sp, .int .i64 p.fu, .int .i64 p.cap, p.gen.pv, bv false p.sum]
structure Prm.Ok (p : Prm) : Prop where
  lim : p.lim < 4294967296
  gen : p.gen.Ok
  sum : p.sum < W256
/-- may they be? -/
structure Prm.May (p : Prm) : Prop where
  c1 : canon p.lim = true
  c2 : canon p.gen.bits = true
  le : tgt p.gen.bits ≤ tgt p.lim
  per : 1 ≤ p.per ∧ p.per ≤ 65536
  sp : 1 ≤ p.sp ∧ p.sp ≤ 65536
  fu : 0 ≤ p.fu ∧ p.fu ≤ 4294967296
  cap : 1 ≤ p.cap ∧ p.cap ≤ 4096
theorem pc_withinT {x lo hi : Int} (h : lo ≤ x ∧ x ≤ hi) : PC Try.prog G0 33 [] [.int .i64 x, .int .i64 lo, .int .i64 hi] [] (.bool true) := by
  refine PC.of (fn := Try.f33) (c := bodyOf Try.f33) Try.func33 (by kernel_rfl) (by kernel_rfl) (by kernel_rfl) (by kernel_rfl) ?_
  refine W.ret [((3 : Nat), Ans.dec true), ((7 : Nat), Ans.dec true)] [] [decide (x ≥ lo) = true, decide (x ≤ hi) = true, PV.bool true = PV.bool true] (by kernel_rfl) (ac (by exact decide_eq_true (by omega)) (ac (by exact decide_eq_true (by omega)) (ao (by with_reducible rfl))))
theorem pc_withinF {x lo hi : Int} (h : ¬ (lo ≤ x ∧ x ≤ hi)) : PC Try.prog G0 33 [] [.int .i64 x, .int .i64 lo, .int .i64 hi] [] (.bool false) := by
  refine PC.of (fn := Try.f33) (c := bodyOf Try.f33) Try.func33 (by kernel_rfl) (by kernel_rfl) (by kernel_rfl) (by kernel_rfl) ?_
  by_cases h1 : lo ≤ x
  · refine W.ret [((3 : Nat), Ans.dec true), ((7 : Nat), Ans.dec false)] [] [decide (x ≥ lo) = true, decide (x ≤ hi) = false, PV.bool false = PV.bool false] (by kernel_rfl) (ac (by exact decide_eq_true (by omega)) (ac (by exact decide_eq_false (by omega)) (ao (by with_reducible rfl))))
  · refine W.ret [((3 : Nat), Ans.dec false)] [] [decide (x ≥ lo) = false, PV.bool false = PV.bool false] (by kernel_rfl) (ac (by exact decide_eq_false (by omega)) (ao (by with_reducible rfl)))
theorem pc_targetE {c : Nat} (hc : c < 4294967296) : ∃ e : Int, PC Try.prog G0 30 [] [.int .u32 c] [] (.tup [.iarr .u64 4 (uw (tgt c)), .int .i64 e]) := ⟨_, pc_target hc⟩
theorem cmpN_gt {a b : Nat} (h : b < a) : cmpN a b = 1 := by unfold cmpN; rw [if_neg (by omega), if_pos h]
theorem cmpN_le {a b : Nat} (h : a ≤ b) : ∃ z : Int, cmpN a b = z ∧ z ≤ 0 := ⟨_, rfl, by unfold cmpN; split <;> (try split) <;> omega⟩
set_option maxHeartbeats 4000000 in
theorem pc_checkY {p : Prm} (ho : p.Ok) (h : p.May) : PC Try.prog G0 17 [] [p.pv] [] (.int .i64 0) := by
  refine PC.of (fn := Try.f17) (c := bodyOf Try.f17) Try.func17 (by kernel_rfl) (by kernel_rfl) (by kernel_rfl) (by kernel_rfl) ?_
  obtain ⟨e1, g1⟩ := pc_targetE ho.lim
  obtain ⟨e2, g2⟩ := pc_targetE ho.gen.bits
  have g3 := pc_canon ho.lim
  have g4 := pc_canon ho.gen.bits
  rw [h.c1] at g3
  rw [h.c2] at g4
  have g5 := pc_wCmp (tgt_lt p.gen.bits) (tgt_lt p.lim)
  obtain ⟨z, hz, hz0⟩ := cmpN_le h.le
  rw [hz] at g5
  have g6 := pc_withinT h.per
  have g7 := pc_withinT h.sp
  have g8 := pc_withinT h.fu
  have g9 := pc_withinT h.cap
  refine W.ret [((4 : Nat), Ans.call true [] [] (PV.tup [PV.iarr IntKind.u64 (4 : Nat) (uw (tgt (Prm.lim p))), PV.int IntKind.i64 e1])), ((14 : Nat), Ans.call true [] [] (PV.tup [PV.iarr IntKind.u64 (4 : Nat) (uw (tgt (Hd.bits (Prm.gen p)))), PV.int IntKind.i64 e2])), ((23 : Nat), Ans.call true [] [] (PV.bool true)), ((29 : Nat), Ans.call true [] [] (PV.bool true)), ((34 : Nat), Ans.call true [] [] (PV.int IntKind.i64 z)), ((35 : Nat), Ans.dec false), ((39 : Nat), Ans.call true [] [] (PV.bool true)), ((44 : Nat), Ans.call true [] [] (PV.bool true)), ((49 : Nat), Ans.call true [] [] (PV.bool true)), ((54 : Nat), Ans.call true [] [] (PV.bool true))] [] [PC Try.prog G0 (30 : Nat) [] [PV.int IntKind.u32 (↑(Prm.lim p) : Int)] [] (PV.tup [PV.iarr IntKind.u64 (4 : Nat) (uw (tgt (Prm.lim p))), PV.int IntKind.i64 e1]), PC Try.prog G0 (30 : Nat) [] [PV.int IntKind.u32 (↑(Hd.bits (Prm.gen p)) : Int)] [] (PV.tup [PV.iarr IntKind.u64 (4 : Nat) (uw (tgt (Hd.bits (Prm.gen p)))), PV.int IntKind.i64 e2]), PC Try.prog G0 (31 : Nat) [] [PV.int IntKind.u32 (↑(Prm.lim p) : Int)] [] (PV.bool true), PC Try.prog G0 (31 : Nat) [] [PV.int IntKind.u32 (↑(Hd.bits (Prm.gen p)) : Int)] [] (PV.bool true), PC Try.prog G0 (32 : Nat) [] [PV.iarr IntKind.u64 (4 : Nat) (uw (tgt (Hd.bits (Prm.gen p)))), PV.iarr IntKind.u64 (4 : Nat) (uw (tgt (Prm.lim p)))] [] (PV.int IntKind.i64 z), decide (z > (0 : Int)) = false, PC Try.prog G0 (33 : Nat) [] [PV.int IntKind.i64 (Prm.per p), PV.int IntKind.i64 (1 : Int), PV.int IntKind.i64 (65536 : Int)] [] (PV.bool true), PC Try.prog G0 (33 : Nat) [] [PV.int IntKind.i64 (Prm.sp p), PV.int IntKind.i64 (1 : Int), PV.int IntKind.i64 (65536 : Int)] [] (PV.bool true), PC Try.prog G0 (33 : Nat) [] [PV.int IntKind.i64 (Prm.fu p), PV.int IntKind.i64 (0 : Int), PV.int IntKind.i64 (4294967296 : Int)] [] (PV.bool true), PC Try.prog G0 (33 : Nat) [] [PV.int IntKind.i64 (Prm.cap p), PV.int IntKind.i64 (1 : Int), PV.int IntKind.i64 (4096 : Int)] [] (PV.bool true), PV.int IntKind.i64 (0 : Int) = PV.int IntKind.i64 (0 : Int)] (by kernel_rfl) (ac (by exact g1) (ac (by exact g2) (ac (by exact g3) (ac (by exact g4) (ac (by exact g5) (ac (by exact decide_eq_false (by omega)) (ac (by exact g6) (ac (by exact g7) (ac (by exact g8) (ac (by exact g9) (ao (by with_reducible rfl))))))))))))
set_option maxHeartbeats 4000000 in
theorem pc_checkN {p : Prm} (ho : p.Ok) (h : ¬ p.May) : PC Try.prog G0 17 [] [p.pv] [] (.int .i64 1) := by
  refine PC.of (fn := Try.f17) (c := bodyOf Try.f17) Try.func17 (by kernel_rfl) (by kernel_rfl) (by kernel_rfl) (by kernel_rfl) ?_
  obtain ⟨e1, g1⟩ := pc_targetE ho.lim
  obtain ⟨e2, g2⟩ := pc_targetE ho.gen.bits
  have g3 := pc_canon ho.lim
  have g4 := pc_canon ho.gen.bits
  have g5 := pc_wCmp (tgt_lt p.gen.bits) (tgt_lt p.lim)
  by_cases c1 : canon p.lim = true
  · rw [c1] at g3
    by_cases c2 : canon p.gen.bits = true
    · rw [c2] at g4
      by_cases c3 : tgt p.gen.bits ≤ tgt p.lim
      · obtain ⟨z, hz, hz0⟩ := cmpN_le c3
        rw [hz] at g5
        by_cases c4 : 1 ≤ p.per ∧ p.per ≤ 65536
        · have g6 := pc_withinT c4
          by_cases c5 : 1 ≤ p.sp ∧ p.sp ≤ 65536
          · have g7 := pc_withinT c5
            by_cases c6 : 0 ≤ p.fu ∧ p.fu ≤ 4294967296
            · have g8 := pc_withinT c6
              by_cases c7 : 1 ≤ p.cap ∧ p.cap ≤ 4096
              · exact absurd ⟨c1, c2, c3, c4, c5, c6, c7⟩ h
              · have g9 := pc_withinF c7
                refine W.ret [((4 : Nat), Ans.call true [] [] (PV.tup [PV.iarr IntKind.u64 (4 : Nat) (uw (tgt (Prm.lim p))), PV.int IntKind.i64 e1])), ((14 : Nat), Ans.call true [] [] (PV.tup [PV.iarr IntKind.u64 (4 : Nat) (uw (tgt (Hd.bits (Prm.gen p)))), PV.int IntKind.i64 e2])), ((23 : Nat), Ans.call true [] [] (PV.bool true)), ((29 : Nat), Ans.call true [] [] (PV.bool true)), ((34 : Nat), Ans.call true [] [] (PV.int IntKind.i64 z)), ((35 : Nat), Ans.dec false), ((39 : Nat), Ans.call true [] [] (PV.bool true)), ((44 : Nat), Ans.call true [] [] (PV.bool true)), ((49 : Nat), Ans.call true [] [] (PV.bool true)), ((54 : Nat), Ans.call true [] [] (PV.bool false))] [] [PC Try.prog G0 (30 : Nat) [] [PV.int IntKind.u32 (↑(Prm.lim p) : Int)] [] (PV.tup [PV.iarr IntKind.u64 (4 : Nat) (uw (tgt (Prm.lim p))), PV.int IntKind.i64 e1]), PC Try.prog G0 (30 : Nat) [] [PV.int IntKind.u32 (↑(Hd.bits (Prm.gen p)) : Int)] [] (PV.tup [PV.iarr IntKind.u64 (4 : Nat) (uw (tgt (Hd.bits (Prm.gen p)))), PV.int IntKind.i64 e2]), PC Try.prog G0 (31 : Nat) [] [PV.int IntKind.u32 (↑(Prm.lim p) : Int)] [] (PV.bool true), PC Try.prog G0 (31 : Nat) [] [PV.int IntKind.u32 (↑(Hd.bits (Prm.gen p)) : Int)] [] (PV.bool true), PC Try.prog G0 (32 : Nat) [] [PV.iarr IntKind.u64 (4 : Nat) (uw (tgt (Hd.bits (Prm.gen p)))), PV.iarr IntKind.u64 (4 : Nat) (uw (tgt (Prm.lim p)))] [] (PV.int IntKind.i64 z), decide (z > (0 : Int)) = false, PC Try.prog G0 (33 : Nat) [] [PV.int IntKind.i64 (Prm.per p), PV.int IntKind.i64 (1 : Int), PV.int IntKind.i64 (65536 : Int)] [] (PV.bool true), PC Try.prog G0 (33 : Nat) [] [PV.int IntKind.i64 (Prm.sp p), PV.int IntKind.i64 (1 : Int), PV.int IntKind.i64 (65536 : Int)] [] (PV.bool true), PC Try.prog G0 (33 : Nat) [] [PV.int IntKind.i64 (Prm.fu p), PV.int IntKind.i64 (0 : Int), PV.int IntKind.i64 (4294967296 : Int)] [] (PV.bool true), PC Try.prog G0 (33 : Nat) [] [PV.int IntKind.i64 (Prm.cap p), PV.int IntKind.i64 (1 : Int), PV.int IntKind.i64 (4096 : Int)] [] (PV.bool false), PV.int IntKind.i64 (1 : Int) = PV.int IntKind.i64 (1 : Int)] (by kernel_rfl) (ac (by exact g1) (ac (by exact g2) (ac (by exact g3) (ac (by exact g4) (ac (by exact g5) (ac (by exact decide_eq_false (by omega)) (ac (by exact g6) (ac (by exact g7) (ac (by exact g8) (ac (by exact g9) (ao (by with_reducible rfl))))))))))))
            · have g8 := pc_withinF c6
              refine W.ret [((4 : Nat), Ans.call true [] [] (PV.tup [PV.iarr IntKind.u64 (4 : Nat) (uw (tgt (Prm.lim p))), PV.int IntKind.i64 e1])), ((14 : Nat), Ans.call true [] [] (PV.tup [PV.iarr IntKind.u64 (4 : Nat) (uw (tgt (Hd.bits (Prm.gen p)))), PV.int IntKind.i64 e2])), ((23 : Nat), Ans.call true [] [] (PV.bool true)), ((29 : Nat), Ans.call true [] [] (PV.bool true)), ((34 : Nat), Ans.call true [] [] (PV.int IntKind.i64 z)), ((35 : Nat), Ans.dec false), ((39 : Nat), Ans.call true [] [] (PV.bool true)), ((44 : Nat), Ans.call true [] [] (PV.bool true)), ((49 : Nat), Ans.call true [] [] (PV.bool false))] [] [PC Try.prog G0 (30 : Nat) [] [PV.int IntKind.u32 (↑(Prm.lim p) : Int)] [] (PV.tup [PV.iarr IntKind.u64 (4 : Nat) (uw (tgt (Prm.lim p))), PV.int IntKind.i64 e1]), PC Try.prog G0 (30 : Nat) [] [PV.int IntKind.u32 (↑(Hd.bits (Prm.gen p)) : Int)] [] (PV.tup [PV.iarr IntKind.u64 (4 : Nat) (uw (tgt (Hd.bits (Prm.gen p)))), PV.int IntKind.i64 e2]), PC Try.prog G0 (31 : Nat) [] [PV.int IntKind.u32 (↑(Prm.lim p) : Int)] [] (PV.bool true), PC Try.prog G0 (31 : Nat) [] [PV.int IntKind.u32 (↑(Hd.bits (Prm.gen p)) : Int)] [] (PV.bool true), PC Try.prog G0 (32 : Nat) [] [PV.iarr IntKind.u64 (4 : Nat) (uw (tgt (Hd.bits (Prm.gen p)))), PV.iarr IntKind.u64 (4 : Nat) (uw (tgt (Prm.lim p)))] [] (PV.int IntKind.i64 z), decide (z > (0 : Int)) = false, PC Try.prog G0 (33 : Nat) [] [PV.int IntKind.i64 (Prm.per p), PV.int IntKind.i64 (1 : Int), PV.int IntKind.i64 (65536 : Int)] [] (PV.bool true), PC Try.prog G0 (33 : Nat) [] [PV.int IntKind.i64 (Prm.sp p), PV.int IntKind.i64 (1 : Int), PV.int IntKind.i64 (65536 : Int)] [] (PV.bool true), PC Try.prog G0 (33 : Nat) [] [PV.int IntKind.i64 (Prm.fu p), PV.int IntKind.i64 (0 : Int), PV.int IntKind.i64 (4294967296 : Int)] [] (PV.bool false), PV.int IntKind.i64 (1 : Int) = PV.int IntKind.i64 (1 : Int)] (by kernel_rfl) (ac (by exact g1) (ac (by exact g2) (ac (by exact g3) (ac (by exact g4) (ac (by exact g5) (ac (by exact decide_eq_false (by omega)) (ac (by exact g6) (ac (by exact g7) (ac (by exact g8) (ao (by with_reducible rfl)))))))))))
          · have g7 := pc_withinF c5
            refine W.ret [((4 : Nat), Ans.call true [] [] (PV.tup [PV.iarr IntKind.u64 (4 : Nat) (uw (tgt (Prm.lim p))), PV.int IntKind.i64 e1])), ((14 : Nat), Ans.call true [] [] (PV.tup [PV.iarr IntKind.u64 (4 : Nat) (uw (tgt (Hd.bits (Prm.gen p)))), PV.int IntKind.i64 e2])), ((23 : Nat), Ans.call true [] [] (PV.bool true)), ((29 : Nat), Ans.call true [] [] (PV.bool true)), ((34 : Nat), Ans.call true [] [] (PV.int IntKind.i64 z)), ((35 : Nat), Ans.dec false), ((39 : Nat), Ans.call true [] [] (PV.bool true)), ((44 : Nat), Ans.call true [] [] (PV.bool false))] [] [PC Try.prog G0 (30 : Nat) [] [PV.int IntKind.u32 (↑(Prm.lim p) : Int)] [] (PV.tup [PV.iarr IntKind.u64 (4 : Nat) (uw (tgt (Prm.lim p))), PV.int IntKind.i64 e1]), PC Try.prog G0 (30 : Nat) [] [PV.int IntKind.u32 (↑(Hd.bits (Prm.gen p)) : Int)] [] (PV.tup [PV.iarr IntKind.u64 (4 : Nat) (uw (tgt (Hd.bits (Prm.gen p)))), PV.int IntKind.i64 e2]), PC Try.prog G0 (31 : Nat) [] [PV.int IntKind.u32 (↑(Prm.lim p) : Int)] [] (PV.bool true), PC Try.prog G0 (31 : Nat) [] [PV.int IntKind.u32 (↑(Hd.bits (Prm.gen p)) : Int)] [] (PV.bool true), PC Try.prog G0 (32 : Nat) [] [PV.iarr IntKind.u64 (4 : Nat) (uw (tgt (Hd.bits (Prm.gen p)))), PV.iarr IntKind.u64 (4 : Nat) (uw (tgt (Prm.lim p)))] [] (PV.int IntKind.i64 z), decide (z > (0 : Int)) = false, PC Try.prog G0 (33 : Nat) [] [PV.int IntKind.i64 (Prm.per p), PV.int IntKind.i64 (1 : Int), PV.int IntKind.i64 (65536 : Int)] [] (PV.bool true), PC Try.prog G0 (33 : Nat) [] [PV.int IntKind.i64 (Prm.sp p), PV.int IntKind.i64 (1 : Int), PV.int IntKind.i64 (65536 : Int)] [] (PV.bool false), PV.int IntKind.i64 (1 : Int) = PV.int IntKind.i64 (1 : Int)] (by kernel_rfl) (ac (by exact g1) (ac (by exact g2) (ac (by exact g3) (ac (by exact g4) (ac (by exact g5) (ac (by exact decide_eq_false (by omega)) (ac (by exact g6) (ac (by exact g7) (ao (by with_reducible rfl))))))))))
        · have g6 := pc_withinF c4
          refine W.ret [((4 : Nat), Ans.call true [] [] (PV.tup [PV.iarr IntKind.u64 (4 : Nat) (uw (tgt (Prm.lim p))), PV.int IntKind.i64 e1])), ((14 : Nat), Ans.call true [] [] (PV.tup [PV.iarr IntKind.u64 (4 : Nat) (uw (tgt (Hd.bits (Prm.gen p)))), PV.int IntKind.i64 e2])), ((23 : Nat), Ans.call true [] [] (PV.bool true)), ((29 : Nat), Ans.call true [] [] (PV.bool true)), ((34 : Nat), Ans.call true [] [] (PV.int IntKind.i64 z)), ((35 : Nat), Ans.dec false), ((39 : Nat), Ans.call true [] [] (PV.bool false))] [] [PC Try.prog G0 (30 : Nat) [] [PV.int IntKind.u32 (↑(Prm.lim p) : Int)] [] (PV.tup [PV.iarr IntKind.u64 (4 : Nat) (uw (tgt (Prm.lim p))), PV.int IntKind.i64 e1]), PC Try.prog G0 (30 : Nat) [] [PV.int IntKind.u32 (↑(Hd.bits (Prm.gen p)) : Int)] [] (PV.tup [PV.iarr IntKind.u64 (4 : Nat) (uw (tgt (Hd.bits (Prm.gen p)))), PV.int IntKind.i64 e2]), PC Try.prog G0 (31 : Nat) [] [PV.int IntKind.u32 (↑(Prm.lim p) : Int)] [] (PV.bool true), PC Try.prog G0 (31 : Nat) [] [PV.int IntKind.u32 (↑(Hd.bits (Prm.gen p)) : Int)] [] (PV.bool true), PC Try.prog G0 (32 : Nat) [] [PV.iarr IntKind.u64 (4 : Nat) (uw (tgt (Hd.bits (Prm.gen p)))), PV.iarr IntKind.u64 (4 : Nat) (uw (tgt (Prm.lim p)))] [] (PV.int IntKind.i64 z), decide (z > (0 : Int)) = false, PC Try.prog G0 (33 : Nat) [] [PV.int IntKind.i64 (Prm.per p), PV.int IntKind.i64 (1 : Int), PV.int IntKind.i64 (65536 : Int)] [] (PV.bool false), PV.int IntKind.i64 (1 : Int) = PV.int IntKind.i64 (1 : Int)] (by kernel_rfl) (ac (by exact g1) (ac (by exact g2) (ac (by exact g3) (ac (by exact g4) (ac (by exact g5) (ac (by exact decide_eq_false (by omega)) (ac (by exact g6) (ao (by with_reducible rfl)))))))))
      · rw [cmpN_gt (by omega)] at g5
        refine W.ret [((4 : Nat), Ans.call true [] [] (PV.tup [PV.iarr IntKind.u64 (4 : Nat) (uw (tgt (Prm.lim p))), PV.int IntKind.i64 e1])), ((14 : Nat), Ans.call true [] [] (PV.tup [PV.iarr IntKind.u64 (4 : Nat) (uw (tgt (Hd.bits (Prm.gen p)))), PV.int IntKind.i64 e2])), ((23 : Nat), Ans.call true [] [] (PV.bool true)), ((29 : Nat), Ans.call true [] [] (PV.bool true)), ((34 : Nat), Ans.call true [] [] (PV.int IntKind.i64 (1 : Int)))] [] [PC Try.prog G0 (30 : Nat) [] [PV.int IntKind.u32 (↑(Prm.lim p) : Int)] [] (PV.tup [PV.iarr IntKind.u64 (4 : Nat) (uw (tgt (Prm.lim p))), PV.int IntKind.i64 e1]), PC Try.prog G0 (30 : Nat) [] [PV.int IntKind.u32 (↑(Hd.bits (Prm.gen p)) : Int)] [] (PV.tup [PV.iarr IntKind.u64 (4 : Nat) (uw (tgt (Hd.bits (Prm.gen p)))), PV.int IntKind.i64 e2]), PC Try.prog G0 (31 : Nat) [] [PV.int IntKind.u32 (↑(Prm.lim p) : Int)] [] (PV.bool true), PC Try.prog G0 (31 : Nat) [] [PV.int IntKind.u32 (↑(Hd.bits (Prm.gen p)) : Int)] [] (PV.bool true), PC Try.prog G0 (32 : Nat) [] [PV.iarr IntKind.u64 (4 : Nat) (uw (tgt (Hd.bits (Prm.gen p)))), PV.iarr IntKind.u64 (4 : Nat) (uw (tgt (Prm.lim p)))] [] (PV.int IntKind.i64 (1 : Int)), PV.int IntKind.i64 (1 : Int) = PV.int IntKind.i64 (1 : Int)] (by kernel_rfl) (ac (by exact g1) (ac (by exact g2) (ac (by exact g3) (ac (by exact g4) (ac (by exact g5) (ao (by with_reducible rfl)))))))
    · rw [Bool.not_eq_true] at c2
      rw [c2] at g4
      refine W.ret [((4 : Nat), Ans.call true [] [] (PV.tup [PV.iarr IntKind.u64 (4 : Nat) (uw (tgt (Prm.lim p))), PV.int IntKind.i64 e1])), ((14 : Nat), Ans.call true [] [] (PV.tup [PV.iarr IntKind.u64 (4 : Nat) (uw (tgt (Hd.bits (Prm.gen p)))), PV.int IntKind.i64 e2])), ((23 : Nat), Ans.call true [] [] (PV.bool true)), ((29 : Nat), Ans.call true [] [] (PV.bool false))] [] [PC Try.prog G0 (30 : Nat) [] [PV.int IntKind.u32 (↑(Prm.lim p) : Int)] [] (PV.tup [PV.iarr IntKind.u64 (4 : Nat) (uw (tgt (Prm.lim p))), PV.int IntKind.i64 e1]), PC Try.prog G0 (30 : Nat) [] [PV.int IntKind.u32 (↑(Hd.bits (Prm.gen p)) : Int)] [] (PV.tup [PV.iarr IntKind.u64 (4 : Nat) (uw (tgt (Hd.bits (Prm.gen p)))), PV.int IntKind.i64 e2]), PC Try.prog G0 (31 : Nat) [] [PV.int IntKind.u32 (↑(Prm.lim p) : Int)] [] (PV.bool true), PC Try.prog G0 (31 : Nat) [] [PV.int IntKind.u32 (↑(Hd.bits (Prm.gen p)) : Int)] [] (PV.bool false), PV.int IntKind.i64 (1 : Int) = PV.int IntKind.i64 (1 : Int)] (by kernel_rfl) (ac (by exact g1) (ac (by exact g2) (ac (by exact g3) (ac (by exact g4) (ao (by with_reducible rfl))))))
  · rw [Bool.not_eq_true] at c1
    rw [c1] at g3
    refine W.ret [((4 : Nat), Ans.call true [] [] (PV.tup [PV.iarr IntKind.u64 (4 : Nat) (uw (tgt (Prm.lim p))), PV.int IntKind.i64 e1])), ((14 : Nat), Ans.call true [] [] (PV.tup [PV.iarr IntKind.u64 (4 : Nat) (uw (tgt (Hd.bits (Prm.gen p)))), PV.int IntKind.i64 e2])), ((23 : Nat), Ans.call true [] [] (PV.bool false))] [] [PC Try.prog G0 (30 : Nat) [] [PV.int IntKind.u32 (↑(Prm.lim p) : Int)] [] (PV.tup [PV.iarr IntKind.u64 (4 : Nat) (uw (tgt (Prm.lim p))), PV.int IntKind.i64 e1]), PC Try.prog G0 (30 : Nat) [] [PV.int IntKind.u32 (↑(Hd.bits (Prm.gen p)) : Int)] [] (PV.tup [PV.iarr IntKind.u64 (4 : Nat) (uw (tgt (Hd.bits (Prm.gen p)))), PV.int IntKind.i64 e2]), PC Try.prog G0 (31 : Nat) [] [PV.int IntKind.u32 (↑(Prm.lim p) : Int)] [] (PV.bool false), PV.int IntKind.i64 (1 : Int) = PV.int IntKind.i64 (1 : Int)] (by kernel_rfl) (ac (by exact g1) (ac (by exact g2) (ac (by exact g3) (ao (by with_reducible rfl)))))
theorem pc_canonical {c : Nat} (hc : c < 4294967296) : PC Try.prog G0 34 [] [.int .u32 c] [] (.bool (canon c)) := by
  refine PC.of (fn := Try.f34) (c := bodyOf Try.f34) Try.func34 (by kernel_rfl) (by kernel_rfl) (by kernel_rfl) (by kernel_rfl) ?_
  by_cases h : tgt c = 0
  · have g := pc_rTargetN hc h
    refine W.ret [((2 : Nat), Ans.call true [] [] (PV.tup [PV.vec true (PV.iarr IntKind.i64 (0 : Nat) (dg (0 : Nat))), PV.bool false]))] [] [PC Try.prog G0 (35 : Nat) [] [PV.int IntKind.u32 (↑c : Int)] [] (PV.tup [PV.vec true (PV.iarr IntKind.i64 (0 : Nat) (dg (0 : Nat))), PV.bool false]), PV.bool false = PV.bool (canon c)] (by kernel_rfl) (ac (by exact g) (ao ?_))
    unfold canon
    simp [h]
  · have g := pc_rTargetY hc h
    have g2 := pc_rBits5 (nt := false) (tgt_lt c)
    refine W.ret [((2 : Nat), Ans.call false [] [] (PV.tup [PV.vec false (PV.iarr IntKind.i64 (nd (tgt c)) (dg (tgt c))), PV.bool true])), ((11 : Nat), Ans.call true [] [] (PV.int IntKind.u32 (↑(cbits (tgt c)) : Int)))] [] [PC Try.prog G0 (35 : Nat) [] [PV.int IntKind.u32 (↑c : Int)] [] (PV.tup [PV.vec false (PV.iarr IntKind.i64 (nd (tgt c)) (dg (tgt c))), PV.bool true]), PC Try.prog G0 (52 : Nat) [] [PV.vec false (PV.iarr IntKind.i64 (nd (tgt c)) (dg (tgt c)))] [] (PV.int IntKind.u32 (↑(cbits (tgt c)) : Int)), PV.bool ((↑(cbits (tgt c)) : Int) == (↑c : Int)) = PV.bool (canon c)] (by kernel_rfl) (ac (by exact g) (ac (by exact g2) (ao ?_)))
    refine congrArg PV.bool ?_
    unfold canon
    rw [Bool.eq_iff_iff]
    simp only [beq_iff_eq, Int.natCast_inj, decide_eq_true_eq]
    exact ⟨fun e => ⟨h, e⟩, fun e => e.2⟩
theorem canon_ne {c : Nat} (h : canon c = true) : ¬ tgt c = 0 := by
  unfold canon at h
  simp only [decide_eq_true_eq] at h
  exact h.1
set_option maxHeartbeats 4000000 in
theorem pc_mayY {p : Prm} (ho : p.Ok) (h : p.May) : PC Try.prog G0 18 [] [p.rpv] [] (.bool true) := by
  refine PC.of (fn := Try.f18) (c := bodyOf Try.f18) Try.func18 (by kernel_rfl) (by kernel_rfl) (by kernel_rfl) (by kernel_rfl) ?_
  have g1 := pc_rTargetY ho.lim (canon_ne h.c1)
  have g2 := pc_rTargetY ho.gen.bits (canon_ne h.c2)
  have g3 := pc_canonical ho.lim
  have g4 := pc_canonical ho.gen.bits
  rw [h.c1] at g3
  rw [h.c2] at g4
  have n1 := nd_W256.2 (tgt_lt p.lim)
  have n2 := nd_W256.2 (tgt_lt p.gen.bits)
  have g5 := pc_bLess (na := false) (nb := false) (a := tgt p.lim) (b := tgt p.gen.bits) (by omega) (by omega)
  rw [decide_eq_false (by have := h.le; omega)] at g5
  obtain ⟨q1, q2⟩ := h.per
  obtain ⟨q3, q4⟩ := h.sp
  obtain ⟨q5, q6⟩ := h.fu
  obtain ⟨q7, q8⟩ := h.cap
  refine W.ret [((4 : Nat), Ans.call true [] [] (PV.bool true)), ((10 : Nat), Ans.call true [] [] (PV.bool true)), ((16 : Nat), Ans.call false [] [] (PV.tup [PV.vec false (PV.iarr IntKind.i64 (nd (tgt (Hd.bits (Prm.gen p)))) (dg (tgt (Hd.bits (Prm.gen p))))), PV.bool true])), ((24 : Nat), Ans.call false [] [] (PV.tup [PV.vec false (PV.iarr IntKind.i64 (nd (tgt (Prm.lim p))) (dg (tgt (Prm.lim p)))), PV.bool true])), ((32 : Nat), Ans.call true [] [] (PV.bool false)), ((35 : Nat), Ans.dec true), ((39 : Nat), Ans.dec true), ((44 : Nat), Ans.dec true), ((49 : Nat), Ans.dec true), ((54 : Nat), Ans.dec true), ((59 : Nat), Ans.dec true), ((64 : Nat), Ans.dec true), ((69 : Nat), Ans.dec true)] [] [PC Try.prog G0 (34 : Nat) [] [PV.int IntKind.u32 (↑(Prm.lim p) : Int)] [] (PV.bool true), PC Try.prog G0 (34 : Nat) [] [PV.int IntKind.u32 (↑(Hd.bits (Prm.gen p)) : Int)] [] (PV.bool true), PC Try.prog G0 (35 : Nat) [] [PV.int IntKind.u32 (↑(Hd.bits (Prm.gen p)) : Int)] [] (PV.tup [PV.vec false (PV.iarr IntKind.i64 (nd (tgt (Hd.bits (Prm.gen p)))) (dg (tgt (Hd.bits (Prm.gen p))))), PV.bool true]), PC Try.prog G0 (35 : Nat) [] [PV.int IntKind.u32 (↑(Prm.lim p) : Int)] [] (PV.tup [PV.vec false (PV.iarr IntKind.i64 (nd (tgt (Prm.lim p))) (dg (tgt (Prm.lim p)))), PV.bool true]), PC Try.prog G0 (36 : Nat) [] [PV.vec false (PV.iarr IntKind.i64 (nd (tgt (Prm.lim p))) (dg (tgt (Prm.lim p)))), PV.vec false (PV.iarr IntKind.i64 (nd (tgt (Hd.bits (Prm.gen p)))) (dg (tgt (Hd.bits (Prm.gen p)))))] [] (PV.bool false), decide (Prm.per p ≥ (1 : Int)) = true, decide (Prm.per p ≤ (65536 : Int)) = true, decide (Prm.sp p ≥ (1 : Int)) = true, decide (Prm.sp p ≤ (65536 : Int)) = true, decide (Prm.fu p ≥ (0 : Int)) = true, decide (Prm.fu p ≤ (4294967296 : Int)) = true, decide (Prm.cap p ≥ (1 : Int)) = true, decide (Prm.cap p ≤ (4096 : Int)) = true, PV.bool true = PV.bool true] (by kernel_rfl) (ac (by exact g3) (ac (by exact g4) (ac (by exact g2) (ac (by exact g1) (ac (by exact g5) (ac (by exact decide_eq_true (by omega)) (ac (by exact decide_eq_true (by omega)) (ac (by exact decide_eq_true (by omega)) (ac (by exact decide_eq_true (by omega)) (ac (by exact decide_eq_true (by omega)) (ac (by exact decide_eq_true (by omega)) (ac (by exact decide_eq_true (by omega)) (ac (by exact decide_eq_true (by omega)) (ao (by with_reducible rfl)))))))))))))))
set_option maxHeartbeats 4000000 in
theorem pc_mayN {p : Prm} (ho : p.Ok) (h : ¬ p.May) : PC Try.prog G0 18 [] [p.rpv] [] (.bool false) := by
  refine PC.of (fn := Try.f18) (c := bodyOf Try.f18) Try.func18 (by kernel_rfl) (by kernel_rfl) (by kernel_rfl) (by kernel_rfl) ?_
  have g3 := pc_canonical ho.lim
  have g4 := pc_canonical ho.gen.bits
  have n1 := nd_W256.2 (tgt_lt p.lim)
  have n2 := nd_W256.2 (tgt_lt p.gen.bits)
  have g5 := pc_bLess (na := false) (nb := false) (a := tgt p.lim) (b := tgt p.gen.bits) (by omega) (by omega)
  by_cases c1 : canon p.lim = true
  · rw [c1] at g3
    have g1 := pc_rTargetY ho.lim (canon_ne c1)
    by_cases c2 : canon p.gen.bits = true
    · rw [c2] at g4
      have g2 := pc_rTargetY ho.gen.bits (canon_ne c2)
      by_cases c3 : tgt p.gen.bits ≤ tgt p.lim
      · rw [decide_eq_false (by omega)] at g5
        by_cases c4 : 1 ≤ p.per
        · by_cases c4' : p.per ≤ 65536
          · by_cases c5 : 1 ≤ p.sp
            · by_cases c5' : p.sp ≤ 65536
              · by_cases c6 : 0 ≤ p.fu
                · by_cases c6' : p.fu ≤ 4294967296
                  · by_cases c7 : 1 ≤ p.cap
                    · by_cases c7' : p.cap ≤ 4096
                      · exact absurd ⟨c1, c2, c3, ⟨c4, c4'⟩, ⟨c5, c5'⟩, ⟨c6, c6'⟩, ⟨c7, c7'⟩⟩ h
                      · refine W.ret [((4 : Nat), Ans.call true [] [] (PV.bool true)), ((10 : Nat), Ans.call true [] [] (PV.bool true)), ((16 : Nat), Ans.call false [] [] (PV.tup [PV.vec false (PV.iarr IntKind.i64 (nd (tgt (Hd.bits (Prm.gen p)))) (dg (tgt (Hd.bits (Prm.gen p))))), PV.bool true])), ((24 : Nat), Ans.call false [] [] (PV.tup [PV.vec false (PV.iarr IntKind.i64 (nd (tgt (Prm.lim p))) (dg (tgt (Prm.lim p)))), PV.bool true])), ((32 : Nat), Ans.call true [] [] (PV.bool false)), ((35 : Nat), Ans.dec true), ((39 : Nat), Ans.dec true), ((44 : Nat), Ans.dec true), ((49 : Nat), Ans.dec true), ((54 : Nat), Ans.dec true), ((59 : Nat), Ans.dec true), ((64 : Nat), Ans.dec true), ((69 : Nat), Ans.dec false)] [] [PC Try.prog G0 (34 : Nat) [] [PV.int IntKind.u32 (↑(Prm.lim p) : Int)] [] (PV.bool true), PC Try.prog G0 (34 : Nat) [] [PV.int IntKind.u32 (↑(Hd.bits (Prm.gen p)) : Int)] [] (PV.bool true), PC Try.prog G0 (35 : Nat) [] [PV.int IntKind.u32 (↑(Hd.bits (Prm.gen p)) : Int)] [] (PV.tup [PV.vec false (PV.iarr IntKind.i64 (nd (tgt (Hd.bits (Prm.gen p)))) (dg (tgt (Hd.bits (Prm.gen p))))), PV.bool true]), PC Try.prog G0 (35 : Nat) [] [PV.int IntKind.u32 (↑(Prm.lim p) : Int)] [] (PV.tup [PV.vec false (PV.iarr IntKind.i64 (nd (tgt (Prm.lim p))) (dg (tgt (Prm.lim p)))), PV.bool true]), PC Try.prog G0 (36 : Nat) [] [PV.vec false (PV.iarr IntKind.i64 (nd (tgt (Prm.lim p))) (dg (tgt (Prm.lim p)))), PV.vec false (PV.iarr IntKind.i64 (nd (tgt (Hd.bits (Prm.gen p)))) (dg (tgt (Hd.bits (Prm.gen p)))))] [] (PV.bool false), decide (Prm.per p ≥ (1 : Int)) = true, decide (Prm.per p ≤ (65536 : Int)) = true, decide (Prm.sp p ≥ (1 : Int)) = true, decide (Prm.sp p ≤ (65536 : Int)) = true, decide (Prm.fu p ≥ (0 : Int)) = true, decide (Prm.fu p ≤ (4294967296 : Int)) = true, decide (Prm.cap p ≥ (1 : Int)) = true, decide (Prm.cap p ≤ (4096 : Int)) = false, PV.bool false = PV.bool false] (by kernel_rfl) (ac (by exact g3) (ac (by exact g4) (ac (by exact g2) (ac (by exact g1) (ac (by exact g5) (ac (by exact decide_eq_true (by omega)) (ac (by exact decide_eq_true (by omega)) (ac (by exact decide_eq_true (by omega)) (ac (by exact decide_eq_true (by omega)) (ac (by exact decide_eq_true (by omega)) (ac (by exact decide_eq_true (by omega)) (ac (by exact decide_eq_true (by omega)) (ac (by exact decide_eq_false (by omega)) (ao (by with_reducible rfl)))))))))))))))
                    · refine W.ret [((4 : Nat), Ans.call true [] [] (PV.bool true)), ((10 : Nat), Ans.call true [] [] (PV.bool true)), ((16 : Nat), Ans.call false [] [] (PV.tup [PV.vec false (PV.iarr IntKind.i64 (nd (tgt (Hd.bits (Prm.gen p)))) (dg (tgt (Hd.bits (Prm.gen p))))), PV.bool true])), ((24 : Nat), Ans.call false [] [] (PV.tup [PV.vec false (PV.iarr IntKind.i64 (nd (tgt (Prm.lim p))) (dg (tgt (Prm.lim p)))), PV.bool true])), ((32 : Nat), Ans.call true [] [] (PV.bool false)), ((35 : Nat), Ans.dec true), ((39 : Nat), Ans.dec true), ((44 : Nat), Ans.dec true), ((49 : Nat), Ans.dec true), ((54 : Nat), Ans.dec true), ((59 : Nat), Ans.dec true), ((64 : Nat), Ans.dec false)] [] [PC Try.prog G0 (34 : Nat) [] [PV.int IntKind.u32 (↑(Prm.lim p) : Int)] [] (PV.bool true), PC Try.prog G0 (34 : Nat) [] [PV.int IntKind.u32 (↑(Hd.bits (Prm.gen p)) : Int)] [] (PV.bool true), PC Try.prog G0 (35 : Nat) [] [PV.int IntKind.u32 (↑(Hd.bits (Prm.gen p)) : Int)] [] (PV.tup [PV.vec false (PV.iarr IntKind.i64 (nd (tgt (Hd.bits (Prm.gen p)))) (dg (tgt (Hd.bits (Prm.gen p))))), PV.bool true]), PC Try.prog G0 (35 : Nat) [] [PV.int IntKind.u32 (↑(Prm.lim p) : Int)] [] (PV.tup [PV.vec false (PV.iarr IntKind.i64 (nd (tgt (Prm.lim p))) (dg (tgt (Prm.lim p)))), PV.bool true]), PC Try.prog G0 (36 : Nat) [] [PV.vec false (PV.iarr IntKind.i64 (nd (tgt (Prm.lim p))) (dg (tgt (Prm.lim p)))), PV.vec false (PV.iarr IntKind.i64 (nd (tgt (Hd.bits (Prm.gen p)))) (dg (tgt (Hd.bits (Prm.gen p)))))] [] (PV.bool false), decide (Prm.per p ≥ (1 : Int)) = true, decide (Prm.per p ≤ (65536 : Int)) = true, decide (Prm.sp p ≥ (1 : Int)) = true, decide (Prm.sp p ≤ (65536 : Int)) = true, decide (Prm.fu p ≥ (0 : Int)) = true, decide (Prm.fu p ≤ (4294967296 : Int)) = true, decide (Prm.cap p ≥ (1 : Int)) = false, PV.bool false = PV.bool false] (by kernel_rfl) (ac (by exact g3) (ac (by exact g4) (ac (by exact g2) (ac (by exact g1) (ac (by exact g5) (ac (by exact decide_eq_true (by omega)) (ac (by exact decide_eq_true (by omega)) (ac (by exact decide_eq_true (by omega)) (ac (by exact decide_eq_true (by omega)) (ac (by exact decide_eq_true (by omega)) (ac (by exact decide_eq_true (by omega)) (ac (by exact decide_eq_false (by omega)) (ao (by with_reducible rfl))))))))))))))
                  · refine W.ret [((4 : Nat), Ans.call true [] [] (PV.bool true)), ((10 : Nat), Ans.call true [] [] (PV.bool true)), ((16 : Nat), Ans.call false [] [] (PV.tup [PV.vec false (PV.iarr IntKind.i64 (nd (tgt (Hd.bits (Prm.gen p)))) (dg (tgt (Hd.bits (Prm.gen p))))), PV.bool true])), ((24 : Nat), Ans.call false [] [] (PV.tup [PV.vec false (PV.iarr IntKind.i64 (nd (tgt (Prm.lim p))) (dg (tgt (Prm.lim p)))), PV.bool true])), ((32 : Nat), Ans.call true [] [] (PV.bool false)), ((35 : Nat), Ans.dec true), ((39 : Nat), Ans.dec true), ((44 : Nat), Ans.dec true), ((49 : Nat), Ans.dec true), ((54 : Nat), Ans.dec true), ((59 : Nat), Ans.dec false)] [] [PC Try.prog G0 (34 : Nat) [] [PV.int IntKind.u32 (↑(Prm.lim p) : Int)] [] (PV.bool true), PC Try.prog G0 (34 : Nat) [] [PV.int IntKind.u32 (↑(Hd.bits (Prm.gen p)) : Int)] [] (PV.bool true), PC Try.prog G0 (35 : Nat) [] [PV.int IntKind.u32 (↑(Hd.bits (Prm.gen p)) : Int)] [] (PV.tup [PV.vec false (PV.iarr IntKind.i64 (nd (tgt (Hd.bits (Prm.gen p)))) (dg (tgt (Hd.bits (Prm.gen p))))), PV.bool true]), PC Try.prog G0 (35 : Nat) [] [PV.int IntKind.u32 (↑(Prm.lim p) : Int)] [] (PV.tup [PV.vec false (PV.iarr IntKind.i64 (nd (tgt (Prm.lim p))) (dg (tgt (Prm.lim p)))), PV.bool true]), PC Try.prog G0 (36 : Nat) [] [PV.vec false (PV.iarr IntKind.i64 (nd (tgt (Prm.lim p))) (dg (tgt (Prm.lim p)))), PV.vec false (PV.iarr IntKind.i64 (nd (tgt (Hd.bits (Prm.gen p)))) (dg (tgt (Hd.bits (Prm.gen p)))))] [] (PV.bool false), decide (Prm.per p ≥ (1 : Int)) = true, decide (Prm.per p ≤ (65536 : Int)) = true, decide (Prm.sp p ≥ (1 : Int)) = true, decide (Prm.sp p ≤ (65536 : Int)) = true, decide (Prm.fu p ≥ (0 : Int)) = true, decide (Prm.fu p ≤ (4294967296 : Int)) = false, PV.bool false = PV.bool false] (by kernel_rfl) (ac (by exact g3) (ac (by exact g4) (ac (by exact g2) (ac (by exact g1) (ac (by exact g5) (ac (by exact decide_eq_true (by omega)) (ac (by exact decide_eq_true (by omega)) (ac (by exact decide_eq_true (by omega)) (ac (by exact decide_eq_true (by omega)) (ac (by exact decide_eq_true (by omega)) (ac (by exact decide_eq_false (by omega)) (ao (by with_reducible rfl)))))))))))))
                · refine W.ret [((4 : Nat), Ans.call true [] [] (PV.bool true)), ((10 : Nat), Ans.call true [] [] (PV.bool true)), ((16 : Nat), Ans.call false [] [] (PV.tup [PV.vec false (PV.iarr IntKind.i64 (nd (tgt (Hd.bits (Prm.gen p)))) (dg (tgt (Hd.bits (Prm.gen p))))), PV.bool true])), ((24 : Nat), Ans.call false [] [] (PV.tup [PV.vec false (PV.iarr IntKind.i64 (nd (tgt (Prm.lim p))) (dg (tgt (Prm.lim p)))), PV.bool true])), ((32 : Nat), Ans.call true [] [] (PV.bool false)), ((35 : Nat), Ans.dec true), ((39 : Nat), Ans.dec true), ((44 : Nat), Ans.dec true), ((49 : Nat), Ans.dec true), ((54 : Nat), Ans.dec false)] [] [PC Try.prog G0 (34 : Nat) [] [PV.int IntKind.u32 (↑(Prm.lim p) : Int)] [] (PV.bool true), PC Try.prog G0 (34 : Nat) [] [PV.int IntKind.u32 (↑(Hd.bits (Prm.gen p)) : Int)] [] (PV.bool true), PC Try.prog G0 (35 : Nat) [] [PV.int IntKind.u32 (↑(Hd.bits (Prm.gen p)) : Int)] [] (PV.tup [PV.vec false (PV.iarr IntKind.i64 (nd (tgt (Hd.bits (Prm.gen p)))) (dg (tgt (Hd.bits (Prm.gen p))))), PV.bool true]), PC Try.prog G0 (35 : Nat) [] [PV.int IntKind.u32 (↑(Prm.lim p) : Int)] [] (PV.tup [PV.vec false (PV.iarr IntKind.i64 (nd (tgt (Prm.lim p))) (dg (tgt (Prm.lim p)))), PV.bool true]), PC Try.prog G0 (36 : Nat) [] [PV.vec false (PV.iarr IntKind.i64 (nd (tgt (Prm.lim p))) (dg (tgt (Prm.lim p)))), PV.vec false (PV.iarr IntKind.i64 (nd (tgt (Hd.bits (Prm.gen p)))) (dg (tgt (Hd.bits (Prm.gen p)))))] [] (PV.bool false), decide (Prm.per p ≥ (1 : Int)) = true, decide (Prm.per p ≤ (65536 : Int)) = true, decide (Prm.sp p ≥ (1 : Int)) = true, decide (Prm.sp p ≤ (65536 : Int)) = true, decide (Prm.fu p ≥ (0 : Int)) = false, PV.bool false = PV.bool false] (by kernel_rfl) (ac (by exact g3) (ac (by exact g4) (ac (by exact g2) (ac (by exact g1) (ac (by exact g5) (ac (by exact decide_eq_true (by omega)) (ac (by exact decide_eq_true (by omega)) (ac (by exact decide_eq_true (by omega)) (ac (by exact decide_eq_true (by omega)) (ac (by exact decide_eq_false (by omega)) (ao (by with_reducible rfl))))))))))))
              · refine W.ret [((4 : Nat), Ans.call true [] [] (PV.bool true)), ((10 : Nat), Ans.call true [] [] (PV.bool true)), ((16 : Nat), Ans.call false [] [] (PV.tup [PV.vec false (PV.iarr IntKind.i64 (nd (tgt (Hd.bits (Prm.gen p)))) (dg (tgt (Hd.bits (Prm.gen p))))), PV.bool true])), ((24 : Nat), Ans.call false [] [] (PV.tup [PV.vec false (PV.iarr IntKind.i64 (nd (tgt (Prm.lim p))) (dg (tgt (Prm.lim p)))), PV.bool true])), ((32 : Nat), Ans.call true [] [] (PV.bool false)), ((35 : Nat), Ans.dec true), ((39 : Nat), Ans.dec true), ((44 : Nat), Ans.dec true), ((49 : Nat), Ans.dec false)] [] [PC Try.prog G0 (34 : Nat) [] [PV.int IntKind.u32 (↑(Prm.lim p) : Int)] [] (PV.bool true), PC Try.prog G0 (34 : Nat) [] [PV.int IntKind.u32 (↑(Hd.bits (Prm.gen p)) : Int)] [] (PV.bool true), PC Try.prog G0 (35 : Nat) [] [PV.int IntKind.u32 (↑(Hd.bits (Prm.gen p)) : Int)] [] (PV.tup [PV.vec false (PV.iarr IntKind.i64 (nd (tgt (Hd.bits (Prm.gen p)))) (dg (tgt (Hd.bits (Prm.gen p))))), PV.bool true]), PC Try.prog G0 (35 : Nat) [] [PV.int IntKind.u32 (↑(Prm.lim p) : Int)] [] (PV.tup [PV.vec false (PV.iarr IntKind.i64 (nd (tgt (Prm.lim p))) (dg (tgt (Prm.lim p)))), PV.bool true]), PC Try.prog G0 (36 : Nat) [] [PV.vec false (PV.iarr IntKind.i64 (nd (tgt (Prm.lim p))) (dg (tgt (Prm.lim p)))), PV.vec false (PV.iarr IntKind.i64 (nd (tgt (Hd.bits (Prm.gen p)))) (dg (tgt (Hd.bits (Prm.gen p)))))] [] (PV.bool false), decide (Prm.per p ≥ (1 : Int)) = true, decide (Prm.per p ≤ (65536 : Int)) = true, decide (Prm.sp p ≥ (1 : Int)) = true, decide (Prm.sp p ≤ (65536 : Int)) = false, PV.bool false = PV.bool false] (by kernel_rfl) (ac (by exact g3) (ac (by exact g4) (ac (by exact g2) (ac (by exact g1) (ac (by exact g5) (ac (by exact decide_eq_true (by omega)) (ac (by exact decide_eq_true (by omega)) (ac (by exact decide_eq_true (by omega)) (ac (by exact decide_eq_false (by omega)) (ao (by with_reducible rfl)))))))))))
            · refine W.ret [((4 : Nat), Ans.call true [] [] (PV.bool true)), ((10 : Nat), Ans.call true [] [] (PV.bool true)), ((16 : Nat), Ans.call false [] [] (PV.tup [PV.vec false (PV.iarr IntKind.i64 (nd (tgt (Hd.bits (Prm.gen p)))) (dg (tgt (Hd.bits (Prm.gen p))))), PV.bool true])), ((24 : Nat), Ans.call false [] [] (PV.tup [PV.vec false (PV.iarr IntKind.i64 (nd (tgt (Prm.lim p))) (dg (tgt (Prm.lim p)))), PV.bool true])), ((32 : Nat), Ans.call true [] [] (PV.bool false)), ((35 : Nat), Ans.dec true), ((39 : Nat), Ans.dec true), ((44 : Nat), Ans.dec false)] [] [PC Try.prog G0 (34 : Nat) [] [PV.int IntKind.u32 (↑(Prm.lim p) : Int)] [] (PV.bool true), PC Try.prog G0 (34 : Nat) [] [PV.int IntKind.u32 (↑(Hd.bits (Prm.gen p)) : Int)] [] (PV.bool true), PC Try.prog G0 (35 : Nat) [] [PV.int IntKind.u32 (↑(Hd.bits (Prm.gen p)) : Int)] [] (PV.tup [PV.vec false (PV.iarr IntKind.i64 (nd (tgt (Hd.bits (Prm.gen p)))) (dg (tgt (Hd.bits (Prm.gen p))))), PV.bool true]), PC Try.prog G0 (35 : Nat) [] [PV.int IntKind.u32 (↑(Prm.lim p) : Int)] [] (PV.tup [PV.vec false (PV.iarr IntKind.i64 (nd (tgt (Prm.lim p))) (dg (tgt (Prm.lim p)))), PV.bool true]), PC Try.prog G0 (36 : Nat) [] [PV.vec false (PV.iarr IntKind.i64 (nd (tgt (Prm.lim p))) (dg (tgt (Prm.lim p)))), PV.vec false (PV.iarr IntKind.i64 (nd (tgt (Hd.bits (Prm.gen p)))) (dg (tgt (Hd.bits (Prm.gen p)))))] [] (PV.bool false), decide (Prm.per p ≥ (1 : Int)) = true, decide (Prm.per p ≤ (65536 : Int)) = true, decide (Prm.sp p ≥ (1 : Int)) = false, PV.bool false = PV.bool false] (by kernel_rfl) (ac (by exact g3) (ac (by exact g4) (ac (by exact g2) (ac (by exact g1) (ac (by exact g5) (ac (by exact decide_eq_true (by omega)) (ac (by exact decide_eq_true (by omega)) (ac (by exact decide_eq_false (by omega)) (ao (by with_reducible rfl))))))))))
          · refine W.ret [((4 : Nat), Ans.call true [] [] (PV.bool true)), ((10 : Nat), Ans.call true [] [] (PV.bool true)), ((16 : Nat), Ans.call false [] [] (PV.tup [PV.vec false (PV.iarr IntKind.i64 (nd (tgt (Hd.bits (Prm.gen p)))) (dg (tgt (Hd.bits (Prm.gen p))))), PV.bool true])), ((24 : Nat), Ans.call false [] [] (PV.tup [PV.vec false (PV.iarr IntKind.i64 (nd (tgt (Prm.lim p))) (dg (tgt (Prm.lim p)))), PV.bool true])), ((32 : Nat), Ans.call true [] [] (PV.bool false)), ((35 : Nat), Ans.dec true), ((39 : Nat), Ans.dec false)] [] [PC Try.prog G0 (34 : Nat) [] [PV.int IntKind.u32 (↑(Prm.lim p) : Int)] [] (PV.bool true), PC Try.prog G0 (34 : Nat) [] [PV.int IntKind.u32 (↑(Hd.bits (Prm.gen p)) : Int)] [] (PV.bool true), PC Try.prog G0 (35 : Nat) [] [PV.int IntKind.u32 (↑(Hd.bits (Prm.gen p)) : Int)] [] (PV.tup [PV.vec false (PV.iarr IntKind.i64 (nd (tgt (Hd.bits (Prm.gen p)))) (dg (tgt (Hd.bits (Prm.gen p))))), PV.bool true]), PC Try.prog G0 (35 : Nat) [] [PV.int IntKind.u32 (↑(Prm.lim p) : Int)] [] (PV.tup [PV.vec false (PV.iarr IntKind.i64 (nd (tgt (Prm.lim p))) (dg (tgt (Prm.lim p)))), PV.bool true]), PC Try.prog G0 (36 : Nat) [] [PV.vec false (PV.iarr IntKind.i64 (nd (tgt (Prm.lim p))) (dg (tgt (Prm.lim p)))), PV.vec false (PV.iarr IntKind.i64 (nd (tgt (Hd.bits (Prm.gen p)))) (dg (tgt (Hd.bits (Prm.gen p)))))] [] (PV.bool false), decide (Prm.per p ≥ (1 : Int)) = true, decide (Prm.per p ≤ (65536 : Int)) = false, PV.bool false = PV.bool false] (by kernel_rfl) (ac (by exact g3) (ac (by exact g4) (ac (by exact g2) (ac (by exact g1) (ac (by exact g5) (ac (by exact decide_eq_true (by omega)) (ac (by exact decide_eq_false (by omega)) (ao (by with_reducible rfl)))))))))
        · refine W.ret [((4 : Nat), Ans.call true [] [] (PV.bool true)), ((10 : Nat), Ans.call true [] [] (PV.bool true)), ((16 : Nat), Ans.call false [] [] (PV.tup [PV.vec false (PV.iarr IntKind.i64 (nd (tgt (Hd.bits (Prm.gen p)))) (dg (tgt (Hd.bits (Prm.gen p))))), PV.bool true])), ((24 : Nat), Ans.call false [] [] (PV.tup [PV.vec false (PV.iarr IntKind.i64 (nd (tgt (Prm.lim p))) (dg (tgt (Prm.lim p)))), PV.bool true])), ((32 : Nat), Ans.call true [] [] (PV.bool false)), ((35 : Nat), Ans.dec false)] [] [PC Try.prog G0 (34 : Nat) [] [PV.int IntKind.u32 (↑(Prm.lim p) : Int)] [] (PV.bool true), PC Try.prog G0 (34 : Nat) [] [PV.int IntKind.u32 (↑(Hd.bits (Prm.gen p)) : Int)] [] (PV.bool true), PC Try.prog G0 (35 : Nat) [] [PV.int IntKind.u32 (↑(Hd.bits (Prm.gen p)) : Int)] [] (PV.tup [PV.vec false (PV.iarr IntKind.i64 (nd (tgt (Hd.bits (Prm.gen p)))) (dg (tgt (Hd.bits (Prm.gen p))))), PV.bool true]), PC Try.prog G0 (35 : Nat) [] [PV.int IntKind.u32 (↑(Prm.lim p) : Int)] [] (PV.tup [PV.vec false (PV.iarr IntKind.i64 (nd (tgt (Prm.lim p))) (dg (tgt (Prm.lim p)))), PV.bool true]), PC Try.prog G0 (36 : Nat) [] [PV.vec false (PV.iarr IntKind.i64 (nd (tgt (Prm.lim p))) (dg (tgt (Prm.lim p)))), PV.vec false (PV.iarr IntKind.i64 (nd (tgt (Hd.bits (Prm.gen p)))) (dg (tgt (Hd.bits (Prm.gen p)))))] [] (PV.bool false), decide (Prm.per p ≥ (1 : Int)) = false, PV.bool false = PV.bool false] (by kernel_rfl) (ac (by exact g3) (ac (by exact g4) (ac (by exact g2) (ac (by exact g1) (ac (by exact g5) (ac (by exact decide_eq_false (by omega)) (ao (by with_reducible rfl))))))))
      · rw [decide_eq_true (by omega)] at g5
        refine W.ret [((4 : Nat), Ans.call true [] [] (PV.bool true)), ((10 : Nat), Ans.call true [] [] (PV.bool true)), ((16 : Nat), Ans.call false [] [] (PV.tup [PV.vec false (PV.iarr IntKind.i64 (nd (tgt (Hd.bits (Prm.gen p)))) (dg (tgt (Hd.bits (Prm.gen p))))), PV.bool true])), ((24 : Nat), Ans.call false [] [] (PV.tup [PV.vec false (PV.iarr IntKind.i64 (nd (tgt (Prm.lim p))) (dg (tgt (Prm.lim p)))), PV.bool true])), ((32 : Nat), Ans.call true [] [] (PV.bool true))] [] [PC Try.prog G0 (34 : Nat) [] [PV.int IntKind.u32 (↑(Prm.lim p) : Int)] [] (PV.bool true), PC Try.prog G0 (34 : Nat) [] [PV.int IntKind.u32 (↑(Hd.bits (Prm.gen p)) : Int)] [] (PV.bool true), PC Try.prog G0 (35 : Nat) [] [PV.int IntKind.u32 (↑(Hd.bits (Prm.gen p)) : Int)] [] (PV.tup [PV.vec false (PV.iarr IntKind.i64 (nd (tgt (Hd.bits (Prm.gen p)))) (dg (tgt (Hd.bits (Prm.gen p))))), PV.bool true]), PC Try.prog G0 (35 : Nat) [] [PV.int IntKind.u32 (↑(Prm.lim p) : Int)] [] (PV.tup [PV.vec false (PV.iarr IntKind.i64 (nd (tgt (Prm.lim p))) (dg (tgt (Prm.lim p)))), PV.bool true]), PC Try.prog G0 (36 : Nat) [] [PV.vec false (PV.iarr IntKind.i64 (nd (tgt (Prm.lim p))) (dg (tgt (Prm.lim p)))), PV.vec false (PV.iarr IntKind.i64 (nd (tgt (Hd.bits (Prm.gen p)))) (dg (tgt (Hd.bits (Prm.gen p)))))] [] (PV.bool true), PV.bool false = PV.bool false] (by kernel_rfl) (ac (by exact g3) (ac (by exact g4) (ac (by exact g2) (ac (by exact g1) (ac (by exact g5) (ao (by with_reducible rfl)))))))
    · rw [Bool.not_eq_true] at c2
      rw [c2] at g4
      refine W.ret [((4 : Nat), Ans.call true [] [] (PV.bool true)), ((10 : Nat), Ans.call true [] [] (PV.bool false))] [] [PC Try.prog G0 (34 : Nat) [] [PV.int IntKind.u32 (↑(Prm.lim p) : Int)] [] (PV.bool true), PC Try.prog G0 (34 : Nat) [] [PV.int IntKind.u32 (↑(Hd.bits (Prm.gen p)) : Int)] [] (PV.bool false), PV.bool false = PV.bool false] (by kernel_rfl) (ac (by exact g3) (ac (by exact g4) (ao (by with_reducible rfl))))
  · rw [Bool.not_eq_true] at c1
    rw [c1] at g3
    refine W.ret [((4 : Nat), Ans.call true [] [] (PV.bool false))] [] [PC Try.prog G0 (34 : Nat) [] [PV.int IntKind.u32 (↑(Prm.lim p) : Int)] [] (PV.bool false), PV.bool false = PV.bool false] (by kernel_rfl) (ac (by exact g3) (ao (by with_reducible rfl)))
end Go.Proofs
namespace Go.Proofs
open Go Go.Pe Go.Pm
set_option maxRecDepth 100000
set_option linter.unusedVariables false
def hsh : Sh := .st 68 [.int .u32, .iarr .u8 32, .iarr .u8 32, .int .u32, .int .u32, .int .u32]
instance : Inhabited Hd := ⟨⟨0, [], [], 0, 0, 0⟩⟩
/-- a line of headers -/
def lpv (nl : Bool) (l : List Hd) : PV := .vec nl (.parr 68 l.length hsh (l.map Hd.pv))
theorem map_get {l : List Hd} {i : Nat} (h : i < l.length) : (l.map Hd.pv).getD i .undef = (l.getD i default).pv := by
  simp [List.getD_eq_getElem?_getD, h]
theorem ok_get {l : List Hd} {i : Nat} (ho : ∀ h ∈ l, h.Ok) (hi : i < l.length) : (l.getD i default).Ok := by
  rw [List.getD_eq_getElem?_getD, List.getElem?_eq_getElem hi]
  exact ho _ (List.getElem_mem hi)
set_option maxHeartbeats 4000000 in
theorem pc_ruleBits0 {p : Prm} {nl : Bool} : PC Try.prog G0 21 [] [p.pv, lpv nl []] [] (.tup [.int .u32 0, .int .i64 6]) := by
  refine PC.of (fn := Try.f21) (c := bodyOf Try.f21) Try.func21 (by kernel_rfl) (by kernel_rfl) (by kernel_rfl) (by kernel_rfl) ?_
  refine W.ret [((4 : Nat), Ans.val (PV.int IntKind.i64 (0 : Int)))] [] [PV.int IntKind.i64 (↑(0 : Nat) : Int) = PV.int IntKind.i64 (0 : Int), PV.tup [PV.int IntKind.u32 (0 : Int), PV.int IntKind.i64 (6 : Int)] = PV.tup [PV.int IntKind.u32 (0 : Int), PV.int IntKind.i64 (6 : Int)]] (by kernel_rfl) (ac (by exact congrArg (PV.int _) (by omega)) (ao (by with_reducible rfl)))
set_option maxHeartbeats 4000000 in
theorem pc_ruleBitsK {p : Prm} {nl : Bool} {l : List Hd} {n q : Nat} (hp : p.per = (q : Int)) (hq : 1 ≤ q) (hn : l.length = n) (h0 : 0 < n) (hn1 : n ≤ 1000000) (hm : ¬ n % q = 0) : PC Try.prog G0 21 [] [p.pv, lpv nl l] [] (.tup [.int .u32 (l.getD (n - 1) default).bits, .int .i64 0]) := by
  refine PC.of (fn := Try.f21) (c := bodyOf Try.f21) Try.func21 (by kernel_rfl) (by kernel_rfl) (by kernel_rfl) (by kernel_rfl) ?_
  have g := map_get (l := l) (i := n - 1) (by omega)
  have hi : (n : Int) - 1 = ((n - 1 : Nat) : Int) := by omega
  unfold lpv
  rw [hn]
  generalize n - 1 = k at *
  refine W.ret [((7 : Nat), Ans.dec false), ((10 : Nat), Ans.val (PV.int IntKind.i64 (↑k : Int))), ((12 : Nat), Ans.val (PV.st (68 : Nat) [PV.int IntKind.u32 (↑(Hd.ver (List.getD l k default)) : Int), PV.iarr IntKind.u8 (32 : Nat) (Hd.prev (List.getD l k default)), PV.iarr IntKind.u8 (32 : Nat) (Hd.root (List.getD l k default)), PV.int IntKind.u32 (↑(Hd.time (List.getD l k default)) : Int), PV.int IntKind.u32 (↑(Hd.bits (List.getD l k default)) : Int), PV.int IntKind.u32 (↑(Hd.nonce (List.getD l k default)) : Int)])), ((17 : Nat), Ans.val (PV.int IntKind.i64 (↑q : Int))), ((18 : Nat), Ans.val (PV.int IntKind.i64 (↑(n % q) : Int))), ((19 : Nat), Ans.dec true)] [] [((↑n : Int) == (0 : Int)) = false, PV.int IntKind.i64 (IntKind.wrap IntKind.i64 ((↑n : Int) - (1 : Int))) = PV.int IntKind.i64 (↑k : Int), (0 : Int) ≤ (↑k : Int), (↑k : Int) < (↑n : Int), PV.st (68 : Nat) [PV.int IntKind.u32 (PV.num (List.headD (PV.fs (List.getD (List.map Hd.pv l) k PV.undef)) PV.undef)), PV.iarr IntKind.u8 (32 : Nat) (PV.nums (List.headD (List.tail (PV.fs (List.getD (List.map Hd.pv l) k PV.undef))) PV.undef)), PV.iarr IntKind.u8 (32 : Nat) (PV.nums (List.headD (List.tail (List.tail (PV.fs (List.getD (List.map Hd.pv l) k PV.undef)))) PV.undef)), PV.int IntKind.u32 (PV.num (List.headD (List.tail (List.tail (List.tail (PV.fs (List.getD (List.map Hd.pv l) k PV.undef))))) PV.undef)), PV.int IntKind.u32 (PV.num (List.headD (List.tail (List.tail (List.tail (List.tail (PV.fs (List.getD (List.map Hd.pv l) k PV.undef)))))) PV.undef)), PV.int IntKind.u32 (PV.num (List.headD (List.tail (List.tail (List.tail (List.tail (List.tail (PV.fs (List.getD (List.map Hd.pv l) k PV.undef))))))) PV.undef))] = PV.st (68 : Nat) [PV.int IntKind.u32 (↑(Hd.ver (List.getD l k default)) : Int), PV.iarr IntKind.u8 (32 : Nat) (Hd.prev (List.getD l k default)), PV.iarr IntKind.u8 (32 : Nat) (Hd.root (List.getD l k default)), PV.int IntKind.u32 (↑(Hd.time (List.getD l k default)) : Int), PV.int IntKind.u32 (↑(Hd.bits (List.getD l k default)) : Int), PV.int IntKind.u32 (↑(Hd.nonce (List.getD l k default)) : Int)], k < n, PV.int IntKind.i64 (Prm.per p) = PV.int IntKind.i64 (↑q : Int), PV.int IntKind.i64 (Int.tmod (↑n : Int) (↑q : Int)) = PV.int IntKind.i64 (↑(n % q) : Int), (↑q : Int) ≠ (0 : Int), ((↑(n % q) : Int) != (0 : Int)) = true, PV.tup [PV.int IntKind.u32 (↑(Hd.bits (List.getD l k default)) : Int), PV.int IntKind.i64 (0 : Int)] = PV.tup [PV.int IntKind.u32 (↑(Hd.bits (List.getD l k default)) : Int), PV.int IntKind.i64 (0 : Int)]] (by kernel_rfl) (ac (by exact decide_eq_false (by omega)) (ac (by exact congrArg (PV.int _) (w_i64 hi (by omega) (by omega))) (ac (by omega) (ac (by omega) (ac (by (rw [g]; rfl)) (ac (by omega) (ac (by exact congrArg (PV.int _) (hp)) (ac (by exact congrArg (PV.int _) (tmod_nat rfl rfl)) (ac (by omega) (ac (by exact bne_iff_ne.2 (by omega)) (ao (by with_reducible rfl))))))))))))
set_option maxHeartbeats 4000000 in
theorem pc_ruleBitsP {p : Prm} {nl : Bool} {l : List Hd} {n q : Nat} {x e : Int} (hp : p.per = (q : Int)) (hq : 1 ≤ q) (hn : l.length = n) (h0 : 0 < n) (hn1 : n ≤ 1000000) (hm : n % q = 0)
    (hb : PC Try.prog G0 39 [] [.int .u32 (l.getD (n - 1) default).bits, .int .u32 p.lim, .int .i64 q, .int .i64 p.sp, .int .u32 (l.getD (n - q) default).time, .int .u32 (l.getD (n - 1) default).time] [] (.tup [.int .u32 x, .int .i64 e])) :
    PC Try.prog G0 21 [] [p.pv, lpv nl l] [] (.tup [.int .u32 x, .int .i64 e]) := by
  refine PC.of (fn := Try.f21) (c := bodyOf Try.f21) Try.func21 (by kernel_rfl) (by kernel_rfl) (by kernel_rfl) (by kernel_rfl) ?_
  have hqn : q ≤ n := Nat.le_of_dvd h0 (Nat.dvd_of_mod_eq_zero hm)
  have g := map_get (l := l) (i := n - 1) (by omega)
  have g2 := map_get (l := l) (i := n - q) (by omega)
  have hi : (n : Int) - 1 = ((n - 1 : Nat) : Int) := by omega
  have hi2 : (n : Int) - q = ((n - q : Nat) : Int) := by omega
  have hk2 : n - q < n := by omega
  unfold lpv
  rw [hn]
  generalize n - 1 = k at *
  generalize n - q = k2 at *
  refine W.ret [((7 : Nat), Ans.dec false), ((10 : Nat), Ans.val (PV.int IntKind.i64 (↑k : Int))), ((12 : Nat), Ans.val (PV.st (68 : Nat) [PV.int IntKind.u32 (↑(Hd.ver (List.getD l k default)) : Int), PV.iarr IntKind.u8 (32 : Nat) (Hd.prev (List.getD l k default)), PV.iarr IntKind.u8 (32 : Nat) (Hd.root (List.getD l k default)), PV.int IntKind.u32 (↑(Hd.time (List.getD l k default)) : Int), PV.int IntKind.u32 (↑(Hd.bits (List.getD l k default)) : Int), PV.int IntKind.u32 (↑(Hd.nonce (List.getD l k default)) : Int)])), ((17 : Nat), Ans.val (PV.int IntKind.i64 (↑q : Int))), ((18 : Nat), Ans.val (PV.int IntKind.i64 (↑(n % q) : Int))), ((19 : Nat), Ans.dec false), ((25 : Nat), Ans.val (PV.int IntKind.i64 (↑q : Int))), ((31 : Nat), Ans.val (PV.int IntKind.i64 (↑q : Int))), ((32 : Nat), Ans.val (PV.int IntKind.i64 (↑k2 : Int))), ((35 : Nat), Ans.val (PV.int IntKind.u32 (↑(Hd.time (List.getD l k2 default)) : Int))), ((38 : Nat), Ans.call true [] [] (PV.tup [PV.int IntKind.u32 x, PV.int IntKind.i64 e]))] [] [((↑n : Int) == (0 : Int)) = false, PV.int IntKind.i64 (IntKind.wrap IntKind.i64 ((↑n : Int) - (1 : Int))) = PV.int IntKind.i64 (↑k : Int), (0 : Int) ≤ (↑k : Int), (↑k : Int) < (↑n : Int), PV.st (68 : Nat) [PV.int IntKind.u32 (PV.num (List.headD (PV.fs (List.getD (List.map Hd.pv l) k PV.undef)) PV.undef)), PV.iarr IntKind.u8 (32 : Nat) (PV.nums (List.headD (List.tail (PV.fs (List.getD (List.map Hd.pv l) k PV.undef))) PV.undef)), PV.iarr IntKind.u8 (32 : Nat) (PV.nums (List.headD (List.tail (List.tail (PV.fs (List.getD (List.map Hd.pv l) k PV.undef)))) PV.undef)), PV.int IntKind.u32 (PV.num (List.headD (List.tail (List.tail (List.tail (PV.fs (List.getD (List.map Hd.pv l) k PV.undef))))) PV.undef)), PV.int IntKind.u32 (PV.num (List.headD (List.tail (List.tail (List.tail (List.tail (PV.fs (List.getD (List.map Hd.pv l) k PV.undef)))))) PV.undef)), PV.int IntKind.u32 (PV.num (List.headD (List.tail (List.tail (List.tail (List.tail (List.tail (PV.fs (List.getD (List.map Hd.pv l) k PV.undef))))))) PV.undef))] = PV.st (68 : Nat) [PV.int IntKind.u32 (↑(Hd.ver (List.getD l k default)) : Int), PV.iarr IntKind.u8 (32 : Nat) (Hd.prev (List.getD l k default)), PV.iarr IntKind.u8 (32 : Nat) (Hd.root (List.getD l k default)), PV.int IntKind.u32 (↑(Hd.time (List.getD l k default)) : Int), PV.int IntKind.u32 (↑(Hd.bits (List.getD l k default)) : Int), PV.int IntKind.u32 (↑(Hd.nonce (List.getD l k default)) : Int)], k < n, PV.int IntKind.i64 (Prm.per p) = PV.int IntKind.i64 (↑q : Int), PV.int IntKind.i64 (Int.tmod (↑n : Int) (↑q : Int)) = PV.int IntKind.i64 (↑(n % q) : Int), (↑q : Int) ≠ (0 : Int), ((↑(n % q) : Int) != (0 : Int)) = false, PV.int IntKind.i64 (Prm.per p) = PV.int IntKind.i64 (↑q : Int), PV.int IntKind.i64 (Prm.per p) = PV.int IntKind.i64 (↑q : Int), PV.int IntKind.i64 (IntKind.wrap IntKind.i64 ((↑n : Int) - (↑q : Int))) = PV.int IntKind.i64 (↑k2 : Int), (0 : Int) ≤ (↑k2 : Int), (↑k2 : Int) < (↑n : Int), PV.int IntKind.u32 (PV.num (List.headD (List.tail (List.tail (List.tail (PV.fs (List.getD (List.map Hd.pv l) k2 PV.undef))))) PV.undef)) = PV.int IntKind.u32 (↑(Hd.time (List.getD l k2 default)) : Int), k2 < n, PC Try.prog G0 (39 : Nat) [] [PV.int IntKind.u32 (↑(Hd.bits (List.getD l k default)) : Int), PV.int IntKind.u32 (↑(Prm.lim p) : Int), PV.int IntKind.i64 (↑q : Int), PV.int IntKind.i64 (Prm.sp p), PV.int IntKind.u32 (↑(Hd.time (List.getD l k2 default)) : Int), PV.int IntKind.u32 (↑(Hd.time (List.getD l k default)) : Int)] [] (PV.tup [PV.int IntKind.u32 x, PV.int IntKind.i64 e]), PV.tup [PV.int IntKind.u32 x, PV.int IntKind.i64 e] = PV.tup [PV.int IntKind.u32 x, PV.int IntKind.i64 e]] (by kernel_rfl) (ac (by exact decide_eq_false (by omega)) (ac (by exact congrArg (PV.int _) (w_i64 hi (by omega) (by omega))) (ac (by omega) (ac (by omega) (ac (by (rw [g]; rfl)) (ac (by omega) (ac (by exact congrArg (PV.int _) (hp)) (ac (by exact congrArg (PV.int _) (tmod_nat rfl rfl)) (ac (by omega) (ac (by exact bne_eq_false_iff_eq.2 (by omega)) (ac (by exact congrArg (PV.int _) (hp)) (ac (by exact congrArg (PV.int _) (hp)) (ac (by exact congrArg (PV.int _) (w_i64 hi2 (by omega) (by omega))) (ac (by omega) (ac (by omega) (ac (by exact congrArg (PV.int _) (by (rw [g2]; rfl))) (ac (by omega) (ac (by exact hb) (ao (by with_reducible rfl))))))))))))))))))))
/-- a line's sum; an error's number -/
def tot (s : Nat) : List Hd → Nat × Int
  | [] => (s, 0)
  | h :: t => if tgt h.bits = 0 then (0, 5) else if W256 ≤ s + work (tgt h.bits) then (0, 14) else tot (s + work (tgt h.bits)) t
end Go.Proofs
namespace Go.Proofs
open Go Go.Pe Go.Pm
set_option maxRecDepth 100000
set_option linter.unusedVariables false
theorem pc_ref7 (h : Hd) : PC Try.prog G0 22 [] [h.pv] [] h.pv := by
  refine PC.of (fn := Try.f22) (c := bodyOf Try.f22) Try.func22 (by kernel_rfl) (by kernel_rfl) (by kernel_rfl) (by kernel_rfl) ?_
  refine W.ret [] [] [PV.st (68 : Nat) [PV.int IntKind.u32 (↑(Hd.ver h) : Int), PV.iarr IntKind.u8 (32 : Nat) (Hd.prev h), PV.iarr IntKind.u8 (32 : Nat) (Hd.root h), PV.int IntKind.u32 (↑(Hd.time h) : Int), PV.int IntKind.u32 (↑(Hd.bits h) : Int), PV.int IntKind.u32 (↑(Hd.nonce h) : Int)] = PV.st (68 : Nat) [PV.int IntKind.u32 (↑(Hd.ver h) : Int), PV.iarr IntKind.u8 (32 : Nat) (Hd.prev h), PV.iarr IntKind.u8 (32 : Nat) (Hd.root h), PV.int IntKind.u32 (↑(Hd.time h) : Int), PV.int IntKind.u32 (↑(Hd.bits h) : Int), PV.int IntKind.u32 (↑(Hd.nonce h) : Int)]] (by kernel_rfl) (ao (by with_reducible rfl))
theorem pc_bOf4 {v : Nat} (hv : v < W256) : PC Try.prog G0 37 [] [.vec false (.iarr .u64 4 (uw v))] [] (bv false v) := by
  have h := pc_bOf (nl := false) (m := 4) (v := v) (ws := uw v) (by omega) (by omega) rfl (nd_le.1 (nd_W256.2 hv))
  exact h
set_option maxHeartbeats 4000000 in
theorem pc_rref {p : Prm} (hs : p.sum < W256) : PC Try.prog G0 19 [] [p.pv] [] p.rpv := by
  refine PC.of (fn := Try.f19) (c := bodyOf Try.f19) Try.func19 (by kernel_rfl) (by kernel_rfl) (by kernel_rfl) (by kernel_rfl) ?_
  have g1 := pc_ref7 p.gen
  have g2 := pc_bOf4 hs
  unfold uw at g2
  refine W.ret [((14 : Nat), Ans.call true [] [] (PV.st (68 : Nat) [PV.int IntKind.u32 (↑(Hd.ver (Prm.gen p)) : Int), PV.iarr IntKind.u8 (32 : Nat) (Hd.prev (Prm.gen p)), PV.iarr IntKind.u8 (32 : Nat) (Hd.root (Prm.gen p)), PV.int IntKind.u32 (↑(Hd.time (Prm.gen p)) : Int), PV.int IntKind.u32 (↑(Hd.bits (Prm.gen p)) : Int), PV.int IntKind.u32 (↑(Hd.nonce (Prm.gen p)) : Int)])), ((17 : Nat), Ans.val (PV.int IntKind.u64 (↑(Prm.sum p % (18446744073709551616 : Nat)) : Int))), ((20 : Nat), Ans.val (PV.int IntKind.u64 (↑(Prm.sum p / (18446744073709551616 : Nat) % (18446744073709551616 : Nat)) : Int))), ((23 : Nat), Ans.val (PV.int IntKind.u64 (↑(Prm.sum p / (18446744073709551616 : Nat) / (18446744073709551616 : Nat) % (18446744073709551616 : Nat)) : Int))), ((26 : Nat), Ans.val (PV.int IntKind.u64 (↑(Prm.sum p / (18446744073709551616 : Nat) / (18446744073709551616 : Nat) / (18446744073709551616 : Nat) % (18446744073709551616 : Nat)) : Int))), ((28 : Nat), Ans.call false [] [] (PV.vec false (PV.iarr IntKind.i64 (nd (Prm.sum p)) (dg (Prm.sum p)))))] [] [PC Try.prog G0 (22 : Nat) [] [PV.st (68 : Nat) [PV.int IntKind.u32 (↑(Hd.ver (Prm.gen p)) : Int), PV.iarr IntKind.u8 (32 : Nat) (Hd.prev (Prm.gen p)), PV.iarr IntKind.u8 (32 : Nat) (Hd.root (Prm.gen p)), PV.int IntKind.u32 (↑(Hd.time (Prm.gen p)) : Int), PV.int IntKind.u32 (↑(Hd.bits (Prm.gen p)) : Int), PV.int IntKind.u32 (↑(Hd.nonce (Prm.gen p)) : Int)]] [] (PV.st (68 : Nat) [PV.int IntKind.u32 (↑(Hd.ver (Prm.gen p)) : Int), PV.iarr IntKind.u8 (32 : Nat) (Hd.prev (Prm.gen p)), PV.iarr IntKind.u8 (32 : Nat) (Hd.root (Prm.gen p)), PV.int IntKind.u32 (↑(Hd.time (Prm.gen p)) : Int), PV.int IntKind.u32 (↑(Hd.bits (Prm.gen p)) : Int), PV.int IntKind.u32 (↑(Hd.nonce (Prm.gen p)) : Int)]), (0 : Int) ≤ (0 : Int), (0 : Int) < (↑(4 : Nat) : Int), PV.int IntKind.u64 (List.getD (uw (Prm.sum p)) (0 : Nat) (0 : Int)) = PV.int IntKind.u64 (↑(Prm.sum p % (18446744073709551616 : Nat)) : Int), (0 : Nat) < (4 : Nat), (0 : Int) ≤ (1 : Int), (1 : Int) < (↑(4 : Nat) : Int), PV.int IntKind.u64 (List.getD (uw (Prm.sum p)) (1 : Nat) (0 : Int)) = PV.int IntKind.u64 (↑(Prm.sum p / (18446744073709551616 : Nat) % (18446744073709551616 : Nat)) : Int), (1 : Nat) < (4 : Nat), (0 : Int) ≤ (2 : Int), (2 : Int) < (↑(4 : Nat) : Int), PV.int IntKind.u64 (List.getD (uw (Prm.sum p)) (2 : Nat) (0 : Int)) = PV.int IntKind.u64 (↑(Prm.sum p / (18446744073709551616 : Nat) / (18446744073709551616 : Nat) % (18446744073709551616 : Nat)) : Int), (2 : Nat) < (4 : Nat), (0 : Int) ≤ (3 : Int), (3 : Int) < (↑(4 : Nat) : Int), PV.int IntKind.u64 (List.getD (uw (Prm.sum p)) (3 : Nat) (0 : Int)) = PV.int IntKind.u64 (↑(Prm.sum p / (18446744073709551616 : Nat) / (18446744073709551616 : Nat) / (18446744073709551616 : Nat) % (18446744073709551616 : Nat)) : Int), (3 : Nat) < (4 : Nat), (4 : Nat) ≤ (4 : Nat), PC Try.prog G0 (37 : Nat) [] [PV.vec false (PV.iarr IntKind.u64 (4 : Nat) [(↑(Prm.sum p % (18446744073709551616 : Nat)) : Int), (↑(Prm.sum p / (18446744073709551616 : Nat) % (18446744073709551616 : Nat)) : Int), (↑(Prm.sum p / (18446744073709551616 : Nat) / (18446744073709551616 : Nat) % (18446744073709551616 : Nat)) : Int), (↑(Prm.sum p / (18446744073709551616 : Nat) / (18446744073709551616 : Nat) / (18446744073709551616 : Nat) % (18446744073709551616 : Nat)) : Int)])] [] (PV.vec false (PV.iarr IntKind.i64 (nd (Prm.sum p)) (dg (Prm.sum p)))), PV.st (74 : Nat) [PV.int IntKind.u32 (↑(Prm.lim p) : Int), PV.int IntKind.i64 (Prm.per p), PV.int IntKind.i64 (Prm.sp p), PV.int IntKind.i64 (Prm.fu p), PV.int IntKind.i64 (Prm.cap p), PV.st (68 : Nat) [PV.int IntKind.u32 (↑(Hd.ver (Prm.gen p)) : Int), PV.iarr IntKind.u8 (32 : Nat) (Hd.prev (Prm.gen p)), PV.iarr IntKind.u8 (32 : Nat) (Hd.root (Prm.gen p)), PV.int IntKind.u32 (↑(Hd.time (Prm.gen p)) : Int), PV.int IntKind.u32 (↑(Hd.bits (Prm.gen p)) : Int), PV.int IntKind.u32 (↑(Hd.nonce (Prm.gen p)) : Int)], PV.vec false (PV.iarr IntKind.i64 (nd (Prm.sum p)) (dg (Prm.sum p)))] = PV.st (74 : Nat) [PV.int IntKind.u32 (↑(Prm.lim p) : Int), PV.int IntKind.i64 (Prm.per p), PV.int IntKind.i64 (Prm.sp p), PV.int IntKind.i64 (Prm.fu p), PV.int IntKind.i64 (Prm.cap p), PV.st (68 : Nat) [PV.int IntKind.u32 (↑(Hd.ver (Prm.gen p)) : Int), PV.iarr IntKind.u8 (32 : Nat) (Hd.prev (Prm.gen p)), PV.iarr IntKind.u8 (32 : Nat) (Hd.root (Prm.gen p)), PV.int IntKind.u32 (↑(Hd.time (Prm.gen p)) : Int), PV.int IntKind.u32 (↑(Hd.bits (Prm.gen p)) : Int), PV.int IntKind.u32 (↑(Hd.nonce (Prm.gen p)) : Int)], PV.vec false (PV.iarr IntKind.i64 (nd (Prm.sum p)) (dg (Prm.sum p)))]] (by kernel_rfl) (ac (by exact g1) (ac (by omega) (ac (by omega) (ac (by exact congrArg (PV.int _) (by rfl)) (ac (by omega) (ac (by omega) (ac (by omega) (ac (by exact congrArg (PV.int _) (by rfl)) (ac (by omega) (ac (by omega) (ac (by omega) (ac (by exact congrArg (PV.int _) (by rfl)) (ac (by omega) (ac (by omega) (ac (by omega) (ac (by exact congrArg (PV.int _) (by rfl)) (ac (by omega) (ac (by omega) (ac (by exact g2) (ao (by with_reducible rfl)))))))))))))))))))))
def z32 : List Int := [0, 0, 0, 0, 0, 0, 0, 0, 0, 0, 0, 0, 0, 0, 0, 0, 0, 0, 0, 0, 0, 0, 0, 0, 0, 0, 0, 0, 0, 0, 0, 0]
def plainP : Prm := ⟨545259519, 4, 10, 100, 50, ⟨0, z32, z32, 1000, 545259519, 0⟩, 0⟩
def zeroP : Prm := ⟨0, 0, 0, 0, 0, ⟨0, z32, z32, 0, 0, 0⟩, 0⟩
theorem plain_ok : plainP.Ok := ⟨by decide, ⟨by decide, by decide, by decide, by decide, rfl, rfl, by decide, by decide⟩, by decide⟩
theorem zero_ok : zeroP.Ok := ⟨by decide, ⟨by decide, by decide, by decide, by decide, rfl, rfl, by decide, by decide⟩, by decide⟩
theorem plain_may : plainP.May := ⟨by decide +kernel, by decide +kernel, by decide +kernel, by decide, by decide, by decide, by decide⟩
theorem zero_may : ¬ zeroP.May := fun h => by have := h.per; revert this; decide
theorem pc_plain : PC Try.prog G0 38 [] [] [] plainP.pv := by
  refine PC.of (fn := Try.f38) (c := bodyOf Try.f38) Try.func38 (by kernel_rfl) (by kernel_rfl) (by kernel_rfl) (by kernel_rfl) ?_
  refine W.ret [] [] [PV.st (77 : Nat) [PV.int IntKind.u32 (545259519 : Int), PV.int IntKind.i64 (4 : Int), PV.int IntKind.i64 (10 : Int), PV.int IntKind.i64 (100 : Int), PV.int IntKind.i64 (50 : Int), PV.st (68 : Nat) [PV.int IntKind.u32 (0 : Int), PV.iarr IntKind.u8 (32 : Nat) [(0 : Int), (0 : Int), (0 : Int), (0 : Int), (0 : Int), (0 : Int), (0 : Int), (0 : Int), (0 : Int), (0 : Int), (0 : Int), (0 : Int), (0 : Int), (0 : Int), (0 : Int), (0 : Int), (0 : Int), (0 : Int), (0 : Int), (0 : Int), (0 : Int), (0 : Int), (0 : Int), (0 : Int), (0 : Int), (0 : Int), (0 : Int), (0 : Int), (0 : Int), (0 : Int), (0 : Int), (0 : Int)], PV.iarr IntKind.u8 (32 : Nat) [(0 : Int), (0 : Int), (0 : Int), (0 : Int), (0 : Int), (0 : Int), (0 : Int), (0 : Int), (0 : Int), (0 : Int), (0 : Int), (0 : Int), (0 : Int), (0 : Int), (0 : Int), (0 : Int), (0 : Int), (0 : Int), (0 : Int), (0 : Int), (0 : Int), (0 : Int), (0 : Int), (0 : Int), (0 : Int), (0 : Int), (0 : Int), (0 : Int), (0 : Int), (0 : Int), (0 : Int), (0 : Int)], PV.int IntKind.u32 (1000 : Int), PV.int IntKind.u32 (545259519 : Int), PV.int IntKind.u32 (0 : Int)], PV.iarr IntKind.u64 (4 : Nat) [(0 : Int), (0 : Int), (0 : Int), (0 : Int)]] = PV.st (77 : Nat) [PV.int IntKind.u32 (↑(545259519 : Nat) : Int), PV.int IntKind.i64 (Prm.per plainP), PV.int IntKind.i64 (Prm.sp plainP), PV.int IntKind.i64 (Prm.fu plainP), PV.int IntKind.i64 (Prm.cap plainP), PV.st (68 : Nat) [PV.int IntKind.u32 (↑(0 : Nat) : Int), PV.iarr IntKind.u8 (32 : Nat) [(0 : Int), (0 : Int), (0 : Int), (0 : Int), (0 : Int), (0 : Int), (0 : Int), (0 : Int), (0 : Int), (0 : Int), (0 : Int), (0 : Int), (0 : Int), (0 : Int), (0 : Int), (0 : Int), (0 : Int), (0 : Int), (0 : Int), (0 : Int), (0 : Int), (0 : Int), (0 : Int), (0 : Int), (0 : Int), (0 : Int), (0 : Int), (0 : Int), (0 : Int), (0 : Int), (0 : Int), (0 : Int)], PV.iarr IntKind.u8 (32 : Nat) [(0 : Int), (0 : Int), (0 : Int), (0 : Int), (0 : Int), (0 : Int), (0 : Int), (0 : Int), (0 : Int), (0 : Int), (0 : Int), (0 : Int), (0 : Int), (0 : Int), (0 : Int), (0 : Int), (0 : Int), (0 : Int), (0 : Int), (0 : Int), (0 : Int), (0 : Int), (0 : Int), (0 : Int), (0 : Int), (0 : Int), (0 : Int), (0 : Int), (0 : Int), (0 : Int), (0 : Int), (0 : Int)], PV.int IntKind.u32 (↑(1000 : Nat) : Int), PV.int IntKind.u32 (↑(545259519 : Nat) : Int), PV.int IntKind.u32 (↑(0 : Nat) : Int)], PV.iarr IntKind.u64 (4 : Nat) (uw (Prm.sum plainP))]] (by kernel_rfl) (ao (by rfl))
set_option maxHeartbeats 4000000 in
theorem pc_awake19 : PC Try.prog G0 20 [] [] [] (.bool true) := by
  refine PC.of (fn := Try.f20) (c := bodyOf Try.f20) Try.func20 (by kernel_rfl) (by kernel_rfl) (by kernel_rfl) (by kernel_rfl) ?_
  have g1 := pc_checkY plain_ok plain_may
  have g2 := pc_checkN zero_ok zero_may
  have g3 := pc_ruleBitsK (p := plainP) (nl := false) (l := [plainP.gen]) (n := 1) (q := 4) rfl (by omega) rfl (by omega) (by omega) (by omega)
  have g4 := pc_plain
  refine W.ret [((1 : Nat), Ans.call true [] [] (PV.st (77 : Nat) [PV.int IntKind.u32 (↑(545259519 : Nat) : Int), PV.int IntKind.i64 (Prm.per plainP), PV.int IntKind.i64 (Prm.sp plainP), PV.int IntKind.i64 (Prm.fu plainP), PV.int IntKind.i64 (Prm.cap plainP), PV.st (68 : Nat) [PV.int IntKind.u32 (↑(0 : Nat) : Int), PV.iarr IntKind.u8 (32 : Nat) [(0 : Int), (0 : Int), (0 : Int), (0 : Int), (0 : Int), (0 : Int), (0 : Int), (0 : Int), (0 : Int), (0 : Int), (0 : Int), (0 : Int), (0 : Int), (0 : Int), (0 : Int), (0 : Int), (0 : Int), (0 : Int), (0 : Int), (0 : Int), (0 : Int), (0 : Int), (0 : Int), (0 : Int), (0 : Int), (0 : Int), (0 : Int), (0 : Int), (0 : Int), (0 : Int), (0 : Int), (0 : Int)], PV.iarr IntKind.u8 (32 : Nat) [(0 : Int), (0 : Int), (0 : Int), (0 : Int), (0 : Int), (0 : Int), (0 : Int), (0 : Int), (0 : Int), (0 : Int), (0 : Int), (0 : Int), (0 : Int), (0 : Int), (0 : Int), (0 : Int), (0 : Int), (0 : Int), (0 : Int), (0 : Int), (0 : Int), (0 : Int), (0 : Int), (0 : Int), (0 : Int), (0 : Int), (0 : Int), (0 : Int), (0 : Int), (0 : Int), (0 : Int), (0 : Int)], PV.int IntKind.u32 (↑(1000 : Nat) : Int), PV.int IntKind.u32 (↑(545259519 : Nat) : Int), PV.int IntKind.u32 (↑(0 : Nat) : Int)], PV.iarr IntKind.u64 (4 : Nat) (uw (Prm.sum plainP))])), ((8 : Nat), Ans.call true [] [] (PV.tup [PV.int IntKind.u32 (↑(545259519 : Nat) : Int), PV.int IntKind.i64 (0 : Int)])), ((10 : Nat), Ans.val (PV.int IntKind.u32 (545259519 : Int))), ((15 : Nat), Ans.call true [] [] (PV.int IntKind.i64 (0 : Int))), ((19 : Nat), Ans.call true [] [] (PV.int IntKind.i64 (1 : Int)))] [] [PC Try.prog G0 (38 : Nat) [] [] [] (PV.st (77 : Nat) [PV.int IntKind.u32 (↑(545259519 : Nat) : Int), PV.int IntKind.i64 (Prm.per plainP), PV.int IntKind.i64 (Prm.sp plainP), PV.int IntKind.i64 (Prm.fu plainP), PV.int IntKind.i64 (Prm.cap plainP), PV.st (68 : Nat) [PV.int IntKind.u32 (↑(0 : Nat) : Int), PV.iarr IntKind.u8 (32 : Nat) [(0 : Int), (0 : Int), (0 : Int), (0 : Int), (0 : Int), (0 : Int), (0 : Int), (0 : Int), (0 : Int), (0 : Int), (0 : Int), (0 : Int), (0 : Int), (0 : Int), (0 : Int), (0 : Int), (0 : Int), (0 : Int), (0 : Int), (0 : Int), (0 : Int), (0 : Int), (0 : Int), (0 : Int), (0 : Int), (0 : Int), (0 : Int), (0 : Int), (0 : Int), (0 : Int), (0 : Int), (0 : Int)], PV.iarr IntKind.u8 (32 : Nat) [(0 : Int), (0 : Int), (0 : Int), (0 : Int), (0 : Int), (0 : Int), (0 : Int), (0 : Int), (0 : Int), (0 : Int), (0 : Int), (0 : Int), (0 : Int), (0 : Int), (0 : Int), (0 : Int), (0 : Int), (0 : Int), (0 : Int), (0 : Int), (0 : Int), (0 : Int), (0 : Int), (0 : Int), (0 : Int), (0 : Int), (0 : Int), (0 : Int), (0 : Int), (0 : Int), (0 : Int), (0 : Int)], PV.int IntKind.u32 (↑(1000 : Nat) : Int), PV.int IntKind.u32 (↑(545259519 : Nat) : Int), PV.int IntKind.u32 (↑(0 : Nat) : Int)], PV.iarr IntKind.u64 (4 : Nat) (uw (Prm.sum plainP))]), (1 : Nat) ≤ (1 : Nat), PC Try.prog G0 (21 : Nat) [] [PV.st (77 : Nat) [PV.int IntKind.u32 (↑(545259519 : Nat) : Int), PV.int IntKind.i64 (Prm.per plainP), PV.int IntKind.i64 (Prm.sp plainP), PV.int IntKind.i64 (Prm.fu plainP), PV.int IntKind.i64 (Prm.cap plainP), PV.st (68 : Nat) [PV.int IntKind.u32 (↑(0 : Nat) : Int), PV.iarr IntKind.u8 (32 : Nat) [(0 : Int), (0 : Int), (0 : Int), (0 : Int), (0 : Int), (0 : Int), (0 : Int), (0 : Int), (0 : Int), (0 : Int), (0 : Int), (0 : Int), (0 : Int), (0 : Int), (0 : Int), (0 : Int), (0 : Int), (0 : Int), (0 : Int), (0 : Int), (0 : Int), (0 : Int), (0 : Int), (0 : Int), (0 : Int), (0 : Int), (0 : Int), (0 : Int), (0 : Int), (0 : Int), (0 : Int), (0 : Int)], PV.iarr IntKind.u8 (32 : Nat) [(0 : Int), (0 : Int), (0 : Int), (0 : Int), (0 : Int), (0 : Int), (0 : Int), (0 : Int), (0 : Int), (0 : Int), (0 : Int), (0 : Int), (0 : Int), (0 : Int), (0 : Int), (0 : Int), (0 : Int), (0 : Int), (0 : Int), (0 : Int), (0 : Int), (0 : Int), (0 : Int), (0 : Int), (0 : Int), (0 : Int), (0 : Int), (0 : Int), (0 : Int), (0 : Int), (0 : Int), (0 : Int)], PV.int IntKind.u32 (↑(1000 : Nat) : Int), PV.int IntKind.u32 (↑(545259519 : Nat) : Int), PV.int IntKind.u32 (↑(0 : Nat) : Int)], PV.iarr IntKind.u64 (4 : Nat) (uw (Prm.sum plainP))], PV.vec false (PV.parr (68 : Nat) (1 : Nat) (Sh.st (68 : Nat) [Sh.int IntKind.u32, Sh.iarr IntKind.u8 (32 : Nat), Sh.iarr IntKind.u8 (32 : Nat), Sh.int IntKind.u32, Sh.int IntKind.u32, Sh.int IntKind.u32]) [PV.st (68 : Nat) [PV.int IntKind.u32 (↑(0 : Nat) : Int), PV.iarr IntKind.u8 (32 : Nat) [(0 : Int), (0 : Int), (0 : Int), (0 : Int), (0 : Int), (0 : Int), (0 : Int), (0 : Int), (0 : Int), (0 : Int), (0 : Int), (0 : Int), (0 : Int), (0 : Int), (0 : Int), (0 : Int), (0 : Int), (0 : Int), (0 : Int), (0 : Int), (0 : Int), (0 : Int), (0 : Int), (0 : Int), (0 : Int), (0 : Int), (0 : Int), (0 : Int), (0 : Int), (0 : Int), (0 : Int), (0 : Int)], PV.iarr IntKind.u8 (32 : Nat) [(0 : Int), (0 : Int), (0 : Int), (0 : Int), (0 : Int), (0 : Int), (0 : Int), (0 : Int), (0 : Int), (0 : Int), (0 : Int), (0 : Int), (0 : Int), (0 : Int), (0 : Int), (0 : Int), (0 : Int), (0 : Int), (0 : Int), (0 : Int), (0 : Int), (0 : Int), (0 : Int), (0 : Int), (0 : Int), (0 : Int), (0 : Int), (0 : Int), (0 : Int), (0 : Int), (0 : Int), (0 : Int)], PV.int IntKind.u32 (↑(1000 : Nat) : Int), PV.int IntKind.u32 (↑(545259519 : Nat) : Int), PV.int IntKind.u32 (↑(0 : Nat) : Int)]])] [] (PV.tup [PV.int IntKind.u32 (↑(545259519 : Nat) : Int), PV.int IntKind.i64 (0 : Int)]), PV.int IntKind.u32 (↑(545259519 : Nat) : Int) = PV.int IntKind.u32 (545259519 : Int), PC Try.prog G0 (17 : Nat) [] [PV.st (77 : Nat) [PV.int IntKind.u32 (↑(545259519 : Nat) : Int), PV.int IntKind.i64 (Prm.per plainP), PV.int IntKind.i64 (Prm.sp plainP), PV.int IntKind.i64 (Prm.fu plainP), PV.int IntKind.i64 (Prm.cap plainP), PV.st (68 : Nat) [PV.int IntKind.u32 (↑(0 : Nat) : Int), PV.iarr IntKind.u8 (32 : Nat) [(0 : Int), (0 : Int), (0 : Int), (0 : Int), (0 : Int), (0 : Int), (0 : Int), (0 : Int), (0 : Int), (0 : Int), (0 : Int), (0 : Int), (0 : Int), (0 : Int), (0 : Int), (0 : Int), (0 : Int), (0 : Int), (0 : Int), (0 : Int), (0 : Int), (0 : Int), (0 : Int), (0 : Int), (0 : Int), (0 : Int), (0 : Int), (0 : Int), (0 : Int), (0 : Int), (0 : Int), (0 : Int)], PV.iarr IntKind.u8 (32 : Nat) [(0 : Int), (0 : Int), (0 : Int), (0 : Int), (0 : Int), (0 : Int), (0 : Int), (0 : Int), (0 : Int), (0 : Int), (0 : Int), (0 : Int), (0 : Int), (0 : Int), (0 : Int), (0 : Int), (0 : Int), (0 : Int), (0 : Int), (0 : Int), (0 : Int), (0 : Int), (0 : Int), (0 : Int), (0 : Int), (0 : Int), (0 : Int), (0 : Int), (0 : Int), (0 : Int), (0 : Int), (0 : Int)], PV.int IntKind.u32 (↑(1000 : Nat) : Int), PV.int IntKind.u32 (↑(545259519 : Nat) : Int), PV.int IntKind.u32 (↑(0 : Nat) : Int)], PV.iarr IntKind.u64 (4 : Nat) (uw (Prm.sum plainP))]] [] (PV.int IntKind.i64 (0 : Int)), PC Try.prog G0 (17 : Nat) [] [PV.st (77 : Nat) [PV.int IntKind.u32 (0 : Int), PV.int IntKind.i64 (0 : Int), PV.int IntKind.i64 (0 : Int), PV.int IntKind.i64 (0 : Int), PV.int IntKind.i64 (0 : Int), PV.st (68 : Nat) [PV.int IntKind.u32 (0 : Int), PV.iarr IntKind.u8 (32 : Nat) [(0 : Int), (0 : Int), (0 : Int), (0 : Int), (0 : Int), (0 : Int), (0 : Int), (0 : Int), (0 : Int), (0 : Int), (0 : Int), (0 : Int), (0 : Int), (0 : Int), (0 : Int), (0 : Int), (0 : Int), (0 : Int), (0 : Int), (0 : Int), (0 : Int), (0 : Int), (0 : Int), (0 : Int), (0 : Int), (0 : Int), (0 : Int), (0 : Int), (0 : Int), (0 : Int), (0 : Int), (0 : Int)], PV.iarr IntKind.u8 (32 : Nat) [(0 : Int), (0 : Int), (0 : Int), (0 : Int), (0 : Int), (0 : Int), (0 : Int), (0 : Int), (0 : Int), (0 : Int), (0 : Int), (0 : Int), (0 : Int), (0 : Int), (0 : Int), (0 : Int), (0 : Int), (0 : Int), (0 : Int), (0 : Int), (0 : Int), (0 : Int), (0 : Int), (0 : Int), (0 : Int), (0 : Int), (0 : Int), (0 : Int), (0 : Int), (0 : Int), (0 : Int), (0 : Int)], PV.int IntKind.u32 (0 : Int), PV.int IntKind.u32 (0 : Int), PV.int IntKind.u32 (0 : Int)], PV.iarr IntKind.u64 (4 : Nat) [(0 : Int), (0 : Int), (0 : Int), (0 : Int)]]] [] (PV.int IntKind.i64 (1 : Int)), PV.bool true = PV.bool true] (by kernel_rfl) (ac (by exact g4) (ac (by omega) (ac (by exact g3) (ac (by exact congrArg (PV.int _) (by omega)) (ac (by exact g1) (ac (by exact g2) (ao (by with_reducible rfl))))))))
theorem u32_nat {n : Int} (h : IntKind.u32.wrap n = n) : ∃ m : Nat, n = m ∧ m < 4294967296 := by
  rw [wrap_bounds] at h
  obtain ⟨h1, h2⟩ := h
  have e1 : IntKind.u32.min = 0 := rfl
  have e2 : IntKind.u32.max = 4294967295 := rfl
  exact ⟨n.toNat, by omega, by omega⟩
theorem u8_bytes {l : List Int} (h : ∀ x ∈ l, IntKind.u8.wrap x = x) : ∀ x ∈ l, 0 ≤ x ∧ x ≤ 255 := fun x hx => by
  have := h x hx
  rw [wrap_bounds] at this
  exact this
theorem u64_words {l : List Int} (h : ∀ x ∈ l, IntKind.u64.wrap x = x) : ∀ x ∈ l, 0 ≤ x ∧ x ≤ 18446744073709551615 := fun x hx => by
  have := h x hx
  rw [wrap_bounds] at this
  exact this
theorem hd_of {p : PV} (hc : conf hsh p = true) (hw : WF p) : ∃ h : Hd, p = h.pv ∧ h.Ok := by
  have e := expose_conf hsh p hc
  obtain ⟨a, b, c, d, x, y, rfl⟩ : ∃ a b c d x y, p = .st 68 [.int .u32 a, .iarr .u8 32 b, .iarr .u8 32 c, .int .u32 d, .int .u32 x, .int .u32 y] := ⟨_, _, _, _, _, _, e.symm⟩
  simp only [WF, WFL] at hw
  obtain ⟨_, ha, ⟨hb1, hb2⟩, ⟨hc1, hc2⟩, hd, hx, hy, _⟩ := hw
  obtain ⟨a, rfl, ka⟩ := u32_nat ha
  obtain ⟨d, rfl, kd⟩ := u32_nat hd
  obtain ⟨x, rfl, kx⟩ := u32_nat hx
  obtain ⟨y, rfl, ky⟩ := u32_nat hy
  exact ⟨⟨a, b, c, d, x, y⟩, rfl, ⟨ka, kd, kx, ky, hb1, hc1, u8_bytes hb2, u8_bytes hc2⟩⟩
theorem line_of : ∀ {l : List PV}, WFL l → (∀ q ∈ l, size q = 68 ∧ conf hsh q = true ∧ noref q = true) → ∃ m : List Hd, l = m.map Hd.pv ∧ ∀ h ∈ m, h.Ok
  | [], _, _ => ⟨[], rfl, fun h hh => by cases hh⟩
  | p :: l, hw, hq => by
    simp only [WFL] at hw
    obtain ⟨h, rfl, ho⟩ := hd_of (hq p (by simp)).2.1 hw.1
    obtain ⟨m, rfl, hm⟩ := line_of hw.2 fun q hh => hq q (by simp [hh])
    refine ⟨h :: m, rfl, fun x hx => ?_⟩
    rcases List.mem_cons.1 hx with rfl | hx
    · exact ho
    · exact hm x hx
def psh : Sh := .st 77 [.int .u32, .int .i64, .int .i64, .int .i64, .int .i64, hsh, .iarr .u64 4]
theorem prm_of {p : PV} (hc : conf psh p = true) (hw : WF p) : ∃ q : Prm, p = q.pv ∧ q.Ok := by
  have e := expose_conf psh p hc
  obtain ⟨a, b, c, d, x, g, s, rfl⟩ : ∃ a b c d x g s, p = .st 77 [.int .u32 a, .int .i64 b, .int .i64 c, .int .i64 d, .int .i64 x, expose hsh g, .iarr .u64 4 s] := ⟨_, _, _, _, _, _, _, e.symm⟩
  have hg : conf hsh (expose hsh g) = true := by
    simp only [psh, conf, confL, Bool.and_eq_true] at hc
    exact hc.2.2.2.2.2.2.1
  simp only [WF, WFL] at hw
  obtain ⟨_, ha, _, _, _, _, hwg, ⟨hs1, hs2⟩, _⟩ := hw
  obtain ⟨h, eh, ho⟩ := hd_of hg hwg
  obtain ⟨a, rfl, ka⟩ := u32_nat ha
  obtain ⟨v, hv, rfl⟩ := uw_of hs1 (u64_words hs2)
  refine ⟨⟨a, b, c, d, x, h, v⟩, ?_, ⟨ka, ho, hv⟩⟩
  rw [eh]
  rfl
end Go.Proofs
namespace Go.Proofs
open Go Go.Pe Go.Pm
set_option maxRecDepth 100000
set_option linter.unusedVariables false
/-- a header with its hash -/
def lk (x : Hd × List Int) : PV := .st 100 [x.1.pv, .iarr .u8 32 x.2]
def lksh : Sh := .st 100 [hsh, .iarr .u8 32]
def links (nl : Bool) (l : List (Hd × List Int)) : PV := .vec nl (.parr 100 l.length lksh (l.map lk))
theorem lk_get {l : List (Hd × List Int)} {i : Nat} (h : i < l.length) : (l.map lk).getD i .undef = lk (l.getD i default) := by
  simp [List.getD_eq_getElem?_getD, h]
set_option maxHeartbeats 4000000 in
theorem pc_rBits19K {p : Prm} {nl : Bool} {l : List (Hd × List Int)} {n q : Nat} (hp : p.per = (q : Int)) (hq : 1 ≤ q) (hn : l.length = n) (h0 : 0 < n) (hn1 : n ≤ 1000000) (hm : ¬ n % q = 0) : PC Try.prog G0 23 [] [p.rpv, links nl l] [] (.tup [.int .u32 (l.getD (n - 1) default).1.bits, .bool true]) := by
  refine PC.of (fn := Try.f23) (c := bodyOf Try.f23) Try.func23 (by kernel_rfl) (by kernel_rfl) (by kernel_rfl) (by kernel_rfl) ?_
  have g := lk_get (l := l) (i := n - 1) (by omega)
  have hi : (n : Int) - 1 = ((n - 1 : Nat) : Int) := by omega
  have hk : n - 1 < n := by omega
  unfold links
  rw [hn]
  generalize n - 1 = k at *
  refine W.ret [((6 : Nat), Ans.val (PV.int IntKind.i64 (↑k : Int))), ((9 : Nat), Ans.val (PV.st (68 : Nat) [PV.int IntKind.u32 (↑(Hd.ver (Prod.fst (List.getD l k (default, [])))) : Int), PV.iarr IntKind.u8 (32 : Nat) (Hd.prev (Prod.fst (List.getD l k (default, [])))), PV.iarr IntKind.u8 (32 : Nat) (Hd.root (Prod.fst (List.getD l k (default, [])))), PV.int IntKind.u32 (↑(Hd.time (Prod.fst (List.getD l k (default, [])))) : Int), PV.int IntKind.u32 (↑(Hd.bits (Prod.fst (List.getD l k (default, [])))) : Int), PV.int IntKind.u32 (↑(Hd.nonce (Prod.fst (List.getD l k (default, [])))) : Int)])), ((15 : Nat), Ans.val (PV.int IntKind.i64 (↑q : Int))), ((16 : Nat), Ans.val (PV.int IntKind.i64 (↑(n % q) : Int))), ((17 : Nat), Ans.dec true)] [] [PV.int IntKind.i64 (IntKind.wrap IntKind.i64 ((↑n : Int) - (1 : Int))) = PV.int IntKind.i64 (↑k : Int), (0 : Int) ≤ (↑k : Int), (↑k : Int) < (↑n : Int), PV.st (68 : Nat) [PV.int IntKind.u32 (PV.num (List.headD (PV.fs (List.headD (PV.fs (List.getD (List.map lk l) k PV.undef)) PV.undef)) PV.undef)), PV.iarr IntKind.u8 (32 : Nat) (PV.nums (List.headD (List.tail (PV.fs (List.headD (PV.fs (List.getD (List.map lk l) k PV.undef)) PV.undef))) PV.undef)), PV.iarr IntKind.u8 (32 : Nat) (PV.nums (List.headD (List.tail (List.tail (PV.fs (List.headD (PV.fs (List.getD (List.map lk l) k PV.undef)) PV.undef)))) PV.undef)), PV.int IntKind.u32 (PV.num (List.headD (List.tail (List.tail (List.tail (PV.fs (List.headD (PV.fs (List.getD (List.map lk l) k PV.undef)) PV.undef))))) PV.undef)), PV.int IntKind.u32 (PV.num (List.headD (List.tail (List.tail (List.tail (List.tail (PV.fs (List.headD (PV.fs (List.getD (List.map lk l) k PV.undef)) PV.undef)))))) PV.undef)), PV.int IntKind.u32 (PV.num (List.headD (List.tail (List.tail (List.tail (List.tail (List.tail (PV.fs (List.headD (PV.fs (List.getD (List.map lk l) k PV.undef)) PV.undef))))))) PV.undef))] = PV.st (68 : Nat) [PV.int IntKind.u32 (↑(Hd.ver (Prod.fst (List.getD l k (default, [])))) : Int), PV.iarr IntKind.u8 (32 : Nat) (Hd.prev (Prod.fst (List.getD l k (default, [])))), PV.iarr IntKind.u8 (32 : Nat) (Hd.root (Prod.fst (List.getD l k (default, [])))), PV.int IntKind.u32 (↑(Hd.time (Prod.fst (List.getD l k (default, [])))) : Int), PV.int IntKind.u32 (↑(Hd.bits (Prod.fst (List.getD l k (default, [])))) : Int), PV.int IntKind.u32 (↑(Hd.nonce (Prod.fst (List.getD l k (default, [])))) : Int)], k < n, PV.int IntKind.i64 (Prm.per p) = PV.int IntKind.i64 (↑q : Int), PV.int IntKind.i64 (Int.tmod (↑n : Int) (↑q : Int)) = PV.int IntKind.i64 (↑(n % q) : Int), (↑q : Int) ≠ (0 : Int), ((↑(n % q) : Int) != (0 : Int)) = true, PV.tup [PV.int IntKind.u32 (↑(Hd.bits (Prod.fst (List.getD l k (default, [])))) : Int), PV.bool true] = PV.tup [PV.int IntKind.u32 (↑(Hd.bits (Prod.fst (List.getD l k (default, [])))) : Int), PV.bool true]] (by kernel_rfl) (ac (by exact congrArg (PV.int _) (w_i64 hi (by omega) (by omega))) (ac (by omega) (ac (by omega) (ac (by (rw [g]; rfl)) (ac (by omega) (ac (by exact congrArg (PV.int _) (hp)) (ac (by exact congrArg (PV.int _) (tmod_nat rfl rfl)) (ac (by omega) (ac (by exact bne_iff_ne.2 (by omega)) (ao (by with_reducible rfl)))))))))))
set_option maxHeartbeats 4000000 in
theorem pc_rBits19P {p : Prm} {nl : Bool} {l : List (Hd × List Int)} {n q : Nat} {x : Int} {b : Bool} (hp : p.per = (q : Int)) (hq : 1 ≤ q) (hn : l.length = n) (h0 : 0 < n) (hn1 : n ≤ 1000000) (hm : n % q = 0)
    (hb : PC Try.prog G0 40 [] [.int .u32 (l.getD (n - 1) default).1.bits, .int .u32 p.lim, .int .i64 q, .int .i64 p.sp, .int .u32 (l.getD (n - q) default).1.time, .int .u32 (l.getD (n - 1) default).1.time] [] (.tup [.int .u32 x, .bool b])) :
    PC Try.prog G0 23 [] [p.rpv, links nl l] [] (.tup [.int .u32 x, .bool b]) := by
  refine PC.of (fn := Try.f23) (c := bodyOf Try.f23) Try.func23 (by kernel_rfl) (by kernel_rfl) (by kernel_rfl) (by kernel_rfl) ?_
  have hqn : q ≤ n := Nat.le_of_dvd h0 (Nat.dvd_of_mod_eq_zero hm)
  have g := lk_get (l := l) (i := n - 1) (by omega)
  have g2 := lk_get (l := l) (i := n - q) (by omega)
  have hi : (n : Int) - 1 = ((n - 1 : Nat) : Int) := by omega
  have hi2 : (n : Int) - q = ((n - q : Nat) : Int) := by omega
  have hk2 : n - q < n := by omega
  have hk : n - 1 < n := by omega
  unfold links
  rw [hn]
  generalize n - 1 = k at *
  generalize n - q = k2 at *
  refine W.ret [((6 : Nat), Ans.val (PV.int IntKind.i64 (↑k : Int))), ((9 : Nat), Ans.val (PV.st (68 : Nat) [PV.int IntKind.u32 (↑(Hd.ver (Prod.fst (List.getD l k (default, [])))) : Int), PV.iarr IntKind.u8 (32 : Nat) (Hd.prev (Prod.fst (List.getD l k (default, [])))), PV.iarr IntKind.u8 (32 : Nat) (Hd.root (Prod.fst (List.getD l k (default, [])))), PV.int IntKind.u32 (↑(Hd.time (Prod.fst (List.getD l k (default, [])))) : Int), PV.int IntKind.u32 (↑(Hd.bits (Prod.fst (List.getD l k (default, [])))) : Int), PV.int IntKind.u32 (↑(Hd.nonce (Prod.fst (List.getD l k (default, [])))) : Int)])), ((15 : Nat), Ans.val (PV.int IntKind.i64 (↑q : Int))), ((16 : Nat), Ans.val (PV.int IntKind.i64 (↑(n % q) : Int))), ((17 : Nat), Ans.dec false), ((22 : Nat), Ans.val (PV.int IntKind.i64 (↑q : Int))), ((23 : Nat), Ans.val (PV.int IntKind.i64 (↑k2 : Int))), ((26 : Nat), Ans.val (PV.st (68 : Nat) [PV.int IntKind.u32 (↑(Hd.ver (Prod.fst (List.getD l k2 (default, [])))) : Int), PV.iarr IntKind.u8 (32 : Nat) (Hd.prev (Prod.fst (List.getD l k2 (default, [])))), PV.iarr IntKind.u8 (32 : Nat) (Hd.root (Prod.fst (List.getD l k2 (default, [])))), PV.int IntKind.u32 (↑(Hd.time (Prod.fst (List.getD l k2 (default, [])))) : Int), PV.int IntKind.u32 (↑(Hd.bits (Prod.fst (List.getD l k2 (default, [])))) : Int), PV.int IntKind.u32 (↑(Hd.nonce (Prod.fst (List.getD l k2 (default, [])))) : Int)])), ((34 : Nat), Ans.val (PV.int IntKind.i64 (↑q : Int))), ((41 : Nat), Ans.call true [] [] (PV.tup [PV.int IntKind.u32 x, PV.bool b]))] [] [PV.int IntKind.i64 (IntKind.wrap IntKind.i64 ((↑n : Int) - (1 : Int))) = PV.int IntKind.i64 (↑k : Int), (0 : Int) ≤ (↑k : Int), (↑k : Int) < (↑n : Int), PV.st (68 : Nat) [PV.int IntKind.u32 (PV.num (List.headD (PV.fs (List.headD (PV.fs (List.getD (List.map lk l) k PV.undef)) PV.undef)) PV.undef)), PV.iarr IntKind.u8 (32 : Nat) (PV.nums (List.headD (List.tail (PV.fs (List.headD (PV.fs (List.getD (List.map lk l) k PV.undef)) PV.undef))) PV.undef)), PV.iarr IntKind.u8 (32 : Nat) (PV.nums (List.headD (List.tail (List.tail (PV.fs (List.headD (PV.fs (List.getD (List.map lk l) k PV.undef)) PV.undef)))) PV.undef)), PV.int IntKind.u32 (PV.num (List.headD (List.tail (List.tail (List.tail (PV.fs (List.headD (PV.fs (List.getD (List.map lk l) k PV.undef)) PV.undef))))) PV.undef)), PV.int IntKind.u32 (PV.num (List.headD (List.tail (List.tail (List.tail (List.tail (PV.fs (List.headD (PV.fs (List.getD (List.map lk l) k PV.undef)) PV.undef)))))) PV.undef)), PV.int IntKind.u32 (PV.num (List.headD (List.tail (List.tail (List.tail (List.tail (List.tail (PV.fs (List.headD (PV.fs (List.getD (List.map lk l) k PV.undef)) PV.undef))))))) PV.undef))] = PV.st (68 : Nat) [PV.int IntKind.u32 (↑(Hd.ver (Prod.fst (List.getD l k (default, [])))) : Int), PV.iarr IntKind.u8 (32 : Nat) (Hd.prev (Prod.fst (List.getD l k (default, [])))), PV.iarr IntKind.u8 (32 : Nat) (Hd.root (Prod.fst (List.getD l k (default, [])))), PV.int IntKind.u32 (↑(Hd.time (Prod.fst (List.getD l k (default, [])))) : Int), PV.int IntKind.u32 (↑(Hd.bits (Prod.fst (List.getD l k (default, [])))) : Int), PV.int IntKind.u32 (↑(Hd.nonce (Prod.fst (List.getD l k (default, [])))) : Int)], k < n, PV.int IntKind.i64 (Prm.per p) = PV.int IntKind.i64 (↑q : Int), PV.int IntKind.i64 (Int.tmod (↑n : Int) (↑q : Int)) = PV.int IntKind.i64 (↑(n % q) : Int), (↑q : Int) ≠ (0 : Int), ((↑(n % q) : Int) != (0 : Int)) = false, PV.int IntKind.i64 (Prm.per p) = PV.int IntKind.i64 (↑q : Int), PV.int IntKind.i64 (IntKind.wrap IntKind.i64 ((↑n : Int) - (↑q : Int))) = PV.int IntKind.i64 (↑k2 : Int), (0 : Int) ≤ (↑k2 : Int), (↑k2 : Int) < (↑n : Int), PV.st (68 : Nat) [PV.int IntKind.u32 (PV.num (List.headD (PV.fs (List.headD (PV.fs (List.getD (List.map lk l) k2 PV.undef)) PV.undef)) PV.undef)), PV.iarr IntKind.u8 (32 : Nat) (PV.nums (List.headD (List.tail (PV.fs (List.headD (PV.fs (List.getD (List.map lk l) k2 PV.undef)) PV.undef))) PV.undef)), PV.iarr IntKind.u8 (32 : Nat) (PV.nums (List.headD (List.tail (List.tail (PV.fs (List.headD (PV.fs (List.getD (List.map lk l) k2 PV.undef)) PV.undef)))) PV.undef)), PV.int IntKind.u32 (PV.num (List.headD (List.tail (List.tail (List.tail (PV.fs (List.headD (PV.fs (List.getD (List.map lk l) k2 PV.undef)) PV.undef))))) PV.undef)), PV.int IntKind.u32 (PV.num (List.headD (List.tail (List.tail (List.tail (List.tail (PV.fs (List.headD (PV.fs (List.getD (List.map lk l) k2 PV.undef)) PV.undef)))))) PV.undef)), PV.int IntKind.u32 (PV.num (List.headD (List.tail (List.tail (List.tail (List.tail (List.tail (PV.fs (List.headD (PV.fs (List.getD (List.map lk l) k2 PV.undef)) PV.undef))))))) PV.undef))] = PV.st (68 : Nat) [PV.int IntKind.u32 (↑(Hd.ver (Prod.fst (List.getD l k2 (default, [])))) : Int), PV.iarr IntKind.u8 (32 : Nat) (Hd.prev (Prod.fst (List.getD l k2 (default, [])))), PV.iarr IntKind.u8 (32 : Nat) (Hd.root (Prod.fst (List.getD l k2 (default, [])))), PV.int IntKind.u32 (↑(Hd.time (Prod.fst (List.getD l k2 (default, [])))) : Int), PV.int IntKind.u32 (↑(Hd.bits (Prod.fst (List.getD l k2 (default, [])))) : Int), PV.int IntKind.u32 (↑(Hd.nonce (Prod.fst (List.getD l k2 (default, [])))) : Int)], k2 < n, PV.int IntKind.i64 (Prm.per p) = PV.int IntKind.i64 (↑q : Int), PC Try.prog G0 (40 : Nat) [] [PV.int IntKind.u32 (↑(Hd.bits (Prod.fst (List.getD l k (default, [])))) : Int), PV.int IntKind.u32 (↑(Prm.lim p) : Int), PV.int IntKind.i64 (↑q : Int), PV.int IntKind.i64 (Prm.sp p), PV.int IntKind.u32 (↑(Hd.time (Prod.fst (List.getD l k2 (default, [])))) : Int), PV.int IntKind.u32 (↑(Hd.time (Prod.fst (List.getD l k (default, [])))) : Int)] [] (PV.tup [PV.int IntKind.u32 x, PV.bool b]), PV.tup [PV.int IntKind.u32 x, PV.bool b] = PV.tup [PV.int IntKind.u32 x, PV.bool b]] (by kernel_rfl) (ac (by exact congrArg (PV.int _) (w_i64 hi (by omega) (by omega))) (ac (by omega) (ac (by omega) (ac (by (rw [g]; rfl)) (ac (by omega) (ac (by exact congrArg (PV.int _) (hp)) (ac (by exact congrArg (PV.int _) (tmod_nat rfl rfl)) (ac (by omega) (ac (by exact bne_eq_false_iff_eq.2 (by omega)) (ac (by exact congrArg (PV.int _) (hp)) (ac (by exact congrArg (PV.int _) (w_i64 hi2 (by omega) (by omega))) (ac (by omega) (ac (by omega) (ac (by (rw [g2]; rfl)) (ac (by omega) (ac (by exact congrArg (PV.int _) (hp)) (ac (by exact hb) (ao (by with_reducible rfl)))))))))))))))))))
end Go.Proofs
namespace Go.Proofs
open Go Go.Pe Go.Pm
set_option maxRecDepth 100000
set_option linter.unusedVariables false
def lz (h : Hd) : Hd × List Int := (h, z32)
def rowK (n : Nat) (l : List PV) : Row := ⟨.parr 100 n lksh l, false⟩
def dsB0 (p : Prm) (nl : Bool) (l : List Hd) (n : Nat) (x e : Int) : DS := ⟨[(2, .at 2 []), (5, .int .u32 x), (6, .int .i64 e), (7, .vec true (.parr 100 0 lksh [])), (40, .vec nl (.parr 68 n hsh (l.map Hd.pv))), (41, .int .i64 n), (42, .int .i64 0)], [(2, ⟨p.pv, false⟩)]⟩
def dsB (p : Prm) (nl : Bool) (l : List Hd) (n : Nat) (x e : Int) (L : List PV) (i : Nat) : DS := ⟨[(2, .at 2 []), (5, .int .u32 x), (6, .int .i64 e), (7, .ref 1 [] 100 0 i), (40, .vec nl (.parr 68 n hsh (l.map Hd.pv))), (41, .int .i64 n), (42, .int .i64 i)], [(2, ⟨p.pv, false⟩), (1, rowK i L)]⟩
theorem take_snoc' {l : List Hd} {i : Nat} (h : i < l.length) : (l.take i).map (fun h => lk (lz h)) ++ [lk (lz (l.getD i default))] = (l.take (i + 1)).map (fun h => lk (lz h)) := by
  rw [List.take_add_one, List.map_append, List.getElem?_eq_getElem h, List.getD_eq_getElem?_getD, List.getElem?_eq_getElem h]
  rfl
/-- what the law compares -/
structure Same (x e : Int) (y : Int) (b : Bool) : Prop where
  yes : b = true → e = 0 ∧ x = y
  no : b = false → e = 5 ∧ x = 0
set_option maxHeartbeats 4000000 in
theorem W_lawB {p : Prm} {nl : Bool} {l : List Hd} {n : Nat} {x e y : Int} {b : Bool} (hn : l.length = n) (hn1 : n ≤ 30) (hp : p.Ok) (hs : Same x e y b)
    (hr : PC Try.prog G0 23 [] [p.rpv, links false (l.map lz)] [] (.tup [.int .u32 y, .bool b])) : ∀ (k i : Nat) (L : List PV), i + k = n → 0 < i → L = (l.take i).map (fun h => lk (lz h)) →
    W Try.prog G0 Try.f8 [] [] (.bool true) (loopAt Try.f8 0) (dsB p nl l n x e L i)
  | 0, i, L, hk, h0, hL => by
    have hi : i = n := by omega
    subst hi
    rw [← hn, List.take_length] at hL
    have hll : L.length = i := by rw [hL]; simp [hn]
    have c3 := pc_rref hp.sum
    have c4 := pc_awake19
    unfold links at hr
    rw [List.length_map, hn, List.map_map, show lk ∘ lz = fun h => lk (lz h) from rfl, ← hL] at hr
    cases b with
    | true =>
      obtain ⟨rfl, rfl⟩ := hs.yes rfl
      refine W.ret [((0 : Nat), Ans.dec false), ((2 : Nat), Ans.call false [] [] (PV.st (74 : Nat) [PV.int IntKind.u32 (↑(Prm.lim p) : Int), PV.int IntKind.i64 (Prm.per p), PV.int IntKind.i64 (Prm.sp p), PV.int IntKind.i64 (Prm.fu p), PV.int IntKind.i64 (Prm.cap p), PV.st (68 : Nat) [PV.int IntKind.u32 (↑(Hd.ver (Prm.gen p)) : Int), PV.iarr IntKind.u8 (32 : Nat) (Hd.prev (Prm.gen p)), PV.iarr IntKind.u8 (32 : Nat) (Hd.root (Prm.gen p)), PV.int IntKind.u32 (↑(Hd.time (Prm.gen p)) : Int), PV.int IntKind.u32 (↑(Hd.bits (Prm.gen p)) : Int), PV.int IntKind.u32 (↑(Hd.nonce (Prm.gen p)) : Int)], PV.vec false (PV.iarr IntKind.i64 (nd (Prm.sum p)) (dg (Prm.sum p)))])), ((4 : Nat), Ans.calla true [] [] [Prm.rpv p, PV.vec false (PV.parr (100 : Nat) i lksh L)] [] (PV.tup [PV.int IntKind.u32 x, PV.bool true])), ((14 : Nat), Ans.dec true), ((20 : Nat), Ans.call true [] [] (PV.bool true))] [] [decide ((↑i : Int) < (↑i : Int)) = false, PC Try.prog G0 (19 : Nat) [] [PV.st (77 : Nat) [PV.int IntKind.u32 (↑(Prm.lim p) : Int), PV.int IntKind.i64 (Prm.per p), PV.int IntKind.i64 (Prm.sp p), PV.int IntKind.i64 (Prm.fu p), PV.int IntKind.i64 (Prm.cap p), PV.st (68 : Nat) [PV.int IntKind.u32 (↑(Hd.ver (Prm.gen p)) : Int), PV.iarr IntKind.u8 (32 : Nat) (Hd.prev (Prm.gen p)), PV.iarr IntKind.u8 (32 : Nat) (Hd.root (Prm.gen p)), PV.int IntKind.u32 (↑(Hd.time (Prm.gen p)) : Int), PV.int IntKind.u32 (↑(Hd.bits (Prm.gen p)) : Int), PV.int IntKind.u32 (↑(Hd.nonce (Prm.gen p)) : Int)], PV.iarr IntKind.u64 (4 : Nat) (uw (Prm.sum p))]] [] (PV.st (74 : Nat) [PV.int IntKind.u32 (↑(Prm.lim p) : Int), PV.int IntKind.i64 (Prm.per p), PV.int IntKind.i64 (Prm.sp p), PV.int IntKind.i64 (Prm.fu p), PV.int IntKind.i64 (Prm.cap p), PV.st (68 : Nat) [PV.int IntKind.u32 (↑(Hd.ver (Prm.gen p)) : Int), PV.iarr IntKind.u8 (32 : Nat) (Hd.prev (Prm.gen p)), PV.iarr IntKind.u8 (32 : Nat) (Hd.root (Prm.gen p)), PV.int IntKind.u32 (↑(Hd.time (Prm.gen p)) : Int), PV.int IntKind.u32 (↑(Hd.bits (Prm.gen p)) : Int), PV.int IntKind.u32 (↑(Hd.nonce (Prm.gen p)) : Int)], PV.vec false (PV.iarr IntKind.i64 (nd (Prm.sum p)) (dg (Prm.sum p)))]), (0 : Nat) + i ≤ i, ([] : List (Nat × Row)) = [], ([PV.st (74 : Nat) [PV.int IntKind.u32 (↑(Prm.lim p) : Int), PV.int IntKind.i64 (Prm.per p), PV.int IntKind.i64 (Prm.sp p), PV.int IntKind.i64 (Prm.fu p), PV.int IntKind.i64 (Prm.cap p), PV.st (68 : Nat) [PV.int IntKind.u32 (↑(Hd.ver (Prm.gen p)) : Int), PV.iarr IntKind.u8 (32 : Nat) (Hd.prev (Prm.gen p)), PV.iarr IntKind.u8 (32 : Nat) (Hd.root (Prm.gen p)), PV.int IntKind.u32 (↑(Hd.time (Prm.gen p)) : Int), PV.int IntKind.u32 (↑(Hd.bits (Prm.gen p)) : Int), PV.int IntKind.u32 (↑(Hd.nonce (Prm.gen p)) : Int)], PV.vec false (PV.iarr IntKind.i64 (nd (Prm.sum p)) (dg (Prm.sum p)))], PV.vec false (PV.parr (100 : Nat) i (Sh.st (100 : Nat) [Sh.st (68 : Nat) [Sh.int IntKind.u32, Sh.iarr IntKind.u8 (32 : Nat), Sh.iarr IntKind.u8 (32 : Nat), Sh.int IntKind.u32, Sh.int IntKind.u32, Sh.int IntKind.u32], Sh.iarr IntKind.u8 (32 : Nat)]) (List.take i L))] : List PV) = [PV.st (74 : Nat) [PV.int IntKind.u32 (↑(Prm.lim p) : Int), PV.int IntKind.i64 (Prm.per p), PV.int IntKind.i64 (Prm.sp p), PV.int IntKind.i64 (Prm.fu p), PV.int IntKind.i64 (Prm.cap p), PV.st (68 : Nat) [PV.int IntKind.u32 (↑(Hd.ver (Prm.gen p)) : Int), PV.iarr IntKind.u8 (32 : Nat) (Hd.prev (Prm.gen p)), PV.iarr IntKind.u8 (32 : Nat) (Hd.root (Prm.gen p)), PV.int IntKind.u32 (↑(Hd.time (Prm.gen p)) : Int), PV.int IntKind.u32 (↑(Hd.bits (Prm.gen p)) : Int), PV.int IntKind.u32 (↑(Hd.nonce (Prm.gen p)) : Int)], PV.vec false (PV.iarr IntKind.i64 (nd (Prm.sum p)) (dg (Prm.sum p)))], PV.vec false (PV.parr (100 : Nat) i (Sh.st (100 : Nat) [Sh.st (68 : Nat) [Sh.int IntKind.u32, Sh.iarr IntKind.u8 (32 : Nat), Sh.iarr IntKind.u8 (32 : Nat), Sh.int IntKind.u32, Sh.int IntKind.u32, Sh.int IntKind.u32], Sh.iarr IntKind.u8 (32 : Nat)]) L)], PC Try.prog G0 (23 : Nat) [] [PV.st (74 : Nat) [PV.int IntKind.u32 (↑(Prm.lim p) : Int), PV.int IntKind.i64 (Prm.per p), PV.int IntKind.i64 (Prm.sp p), PV.int IntKind.i64 (Prm.fu p), PV.int IntKind.i64 (Prm.cap p), PV.st (68 : Nat) [PV.int IntKind.u32 (↑(Hd.ver (Prm.gen p)) : Int), PV.iarr IntKind.u8 (32 : Nat) (Hd.prev (Prm.gen p)), PV.iarr IntKind.u8 (32 : Nat) (Hd.root (Prm.gen p)), PV.int IntKind.u32 (↑(Hd.time (Prm.gen p)) : Int), PV.int IntKind.u32 (↑(Hd.bits (Prm.gen p)) : Int), PV.int IntKind.u32 (↑(Hd.nonce (Prm.gen p)) : Int)], PV.vec false (PV.iarr IntKind.i64 (nd (Prm.sum p)) (dg (Prm.sum p)))], PV.vec false (PV.parr (100 : Nat) i (Sh.st (100 : Nat) [Sh.st (68 : Nat) [Sh.int IntKind.u32, Sh.iarr IntKind.u8 (32 : Nat), Sh.iarr IntKind.u8 (32 : Nat), Sh.int IntKind.u32, Sh.int IntKind.u32, Sh.int IntKind.u32], Sh.iarr IntKind.u8 (32 : Nat)]) L)] [] (PV.tup [PV.int IntKind.u32 x, PV.bool true]), (x == x) = true, PC Try.prog G0 (20 : Nat) [] [] [] (PV.bool true), PV.bool true = PV.bool true] (by kernel_rfl) (ac (by exact decide_eq_false (by omega)) (ac (by exact c3) (ac (by omega) (ac (by with_reducible rfl) (ac (by rw [List.take_of_length_le (show List.length L ≤ i by omega)]) (ac (by exact hr) (ac (by exact decide_eq_true (by omega)) (ac (by exact c4) (ao (by with_reducible rfl))))))))))
    | false =>
      obtain ⟨rfl, rfl⟩ := hs.no rfl
      refine W.ret [((0 : Nat), Ans.dec false), ((2 : Nat), Ans.call false [] [] (PV.st (74 : Nat) [PV.int IntKind.u32 (↑(Prm.lim p) : Int), PV.int IntKind.i64 (Prm.per p), PV.int IntKind.i64 (Prm.sp p), PV.int IntKind.i64 (Prm.fu p), PV.int IntKind.i64 (Prm.cap p), PV.st (68 : Nat) [PV.int IntKind.u32 (↑(Hd.ver (Prm.gen p)) : Int), PV.iarr IntKind.u8 (32 : Nat) (Hd.prev (Prm.gen p)), PV.iarr IntKind.u8 (32 : Nat) (Hd.root (Prm.gen p)), PV.int IntKind.u32 (↑(Hd.time (Prm.gen p)) : Int), PV.int IntKind.u32 (↑(Hd.bits (Prm.gen p)) : Int), PV.int IntKind.u32 (↑(Hd.nonce (Prm.gen p)) : Int)], PV.vec false (PV.iarr IntKind.i64 (nd (Prm.sum p)) (dg (Prm.sum p)))])), ((4 : Nat), Ans.calla true [] [] [Prm.rpv p, PV.vec false (PV.parr (100 : Nat) i lksh L)] [] (PV.tup [PV.int IntKind.u32 y, PV.bool false])), ((19 : Nat), Ans.call true [] [] (PV.bool true))] [] [decide ((↑i : Int) < (↑i : Int)) = false, PC Try.prog G0 (19 : Nat) [] [PV.st (77 : Nat) [PV.int IntKind.u32 (↑(Prm.lim p) : Int), PV.int IntKind.i64 (Prm.per p), PV.int IntKind.i64 (Prm.sp p), PV.int IntKind.i64 (Prm.fu p), PV.int IntKind.i64 (Prm.cap p), PV.st (68 : Nat) [PV.int IntKind.u32 (↑(Hd.ver (Prm.gen p)) : Int), PV.iarr IntKind.u8 (32 : Nat) (Hd.prev (Prm.gen p)), PV.iarr IntKind.u8 (32 : Nat) (Hd.root (Prm.gen p)), PV.int IntKind.u32 (↑(Hd.time (Prm.gen p)) : Int), PV.int IntKind.u32 (↑(Hd.bits (Prm.gen p)) : Int), PV.int IntKind.u32 (↑(Hd.nonce (Prm.gen p)) : Int)], PV.iarr IntKind.u64 (4 : Nat) (uw (Prm.sum p))]] [] (PV.st (74 : Nat) [PV.int IntKind.u32 (↑(Prm.lim p) : Int), PV.int IntKind.i64 (Prm.per p), PV.int IntKind.i64 (Prm.sp p), PV.int IntKind.i64 (Prm.fu p), PV.int IntKind.i64 (Prm.cap p), PV.st (68 : Nat) [PV.int IntKind.u32 (↑(Hd.ver (Prm.gen p)) : Int), PV.iarr IntKind.u8 (32 : Nat) (Hd.prev (Prm.gen p)), PV.iarr IntKind.u8 (32 : Nat) (Hd.root (Prm.gen p)), PV.int IntKind.u32 (↑(Hd.time (Prm.gen p)) : Int), PV.int IntKind.u32 (↑(Hd.bits (Prm.gen p)) : Int), PV.int IntKind.u32 (↑(Hd.nonce (Prm.gen p)) : Int)], PV.vec false (PV.iarr IntKind.i64 (nd (Prm.sum p)) (dg (Prm.sum p)))]), (0 : Nat) + i ≤ i, ([] : List (Nat × Row)) = [], ([PV.st (74 : Nat) [PV.int IntKind.u32 (↑(Prm.lim p) : Int), PV.int IntKind.i64 (Prm.per p), PV.int IntKind.i64 (Prm.sp p), PV.int IntKind.i64 (Prm.fu p), PV.int IntKind.i64 (Prm.cap p), PV.st (68 : Nat) [PV.int IntKind.u32 (↑(Hd.ver (Prm.gen p)) : Int), PV.iarr IntKind.u8 (32 : Nat) (Hd.prev (Prm.gen p)), PV.iarr IntKind.u8 (32 : Nat) (Hd.root (Prm.gen p)), PV.int IntKind.u32 (↑(Hd.time (Prm.gen p)) : Int), PV.int IntKind.u32 (↑(Hd.bits (Prm.gen p)) : Int), PV.int IntKind.u32 (↑(Hd.nonce (Prm.gen p)) : Int)], PV.vec false (PV.iarr IntKind.i64 (nd (Prm.sum p)) (dg (Prm.sum p)))], PV.vec false (PV.parr (100 : Nat) i (Sh.st (100 : Nat) [Sh.st (68 : Nat) [Sh.int IntKind.u32, Sh.iarr IntKind.u8 (32 : Nat), Sh.iarr IntKind.u8 (32 : Nat), Sh.int IntKind.u32, Sh.int IntKind.u32, Sh.int IntKind.u32], Sh.iarr IntKind.u8 (32 : Nat)]) (List.take i L))] : List PV) = [PV.st (74 : Nat) [PV.int IntKind.u32 (↑(Prm.lim p) : Int), PV.int IntKind.i64 (Prm.per p), PV.int IntKind.i64 (Prm.sp p), PV.int IntKind.i64 (Prm.fu p), PV.int IntKind.i64 (Prm.cap p), PV.st (68 : Nat) [PV.int IntKind.u32 (↑(Hd.ver (Prm.gen p)) : Int), PV.iarr IntKind.u8 (32 : Nat) (Hd.prev (Prm.gen p)), PV.iarr IntKind.u8 (32 : Nat) (Hd.root (Prm.gen p)), PV.int IntKind.u32 (↑(Hd.time (Prm.gen p)) : Int), PV.int IntKind.u32 (↑(Hd.bits (Prm.gen p)) : Int), PV.int IntKind.u32 (↑(Hd.nonce (Prm.gen p)) : Int)], PV.vec false (PV.iarr IntKind.i64 (nd (Prm.sum p)) (dg (Prm.sum p)))], PV.vec false (PV.parr (100 : Nat) i (Sh.st (100 : Nat) [Sh.st (68 : Nat) [Sh.int IntKind.u32, Sh.iarr IntKind.u8 (32 : Nat), Sh.iarr IntKind.u8 (32 : Nat), Sh.int IntKind.u32, Sh.int IntKind.u32, Sh.int IntKind.u32], Sh.iarr IntKind.u8 (32 : Nat)]) L)], PC Try.prog G0 (23 : Nat) [] [PV.st (74 : Nat) [PV.int IntKind.u32 (↑(Prm.lim p) : Int), PV.int IntKind.i64 (Prm.per p), PV.int IntKind.i64 (Prm.sp p), PV.int IntKind.i64 (Prm.fu p), PV.int IntKind.i64 (Prm.cap p), PV.st (68 : Nat) [PV.int IntKind.u32 (↑(Hd.ver (Prm.gen p)) : Int), PV.iarr IntKind.u8 (32 : Nat) (Hd.prev (Prm.gen p)), PV.iarr IntKind.u8 (32 : Nat) (Hd.root (Prm.gen p)), PV.int IntKind.u32 (↑(Hd.time (Prm.gen p)) : Int), PV.int IntKind.u32 (↑(Hd.bits (Prm.gen p)) : Int), PV.int IntKind.u32 (↑(Hd.nonce (Prm.gen p)) : Int)], PV.vec false (PV.iarr IntKind.i64 (nd (Prm.sum p)) (dg (Prm.sum p)))], PV.vec false (PV.parr (100 : Nat) i (Sh.st (100 : Nat) [Sh.st (68 : Nat) [Sh.int IntKind.u32, Sh.iarr IntKind.u8 (32 : Nat), Sh.iarr IntKind.u8 (32 : Nat), Sh.int IntKind.u32, Sh.int IntKind.u32, Sh.int IntKind.u32], Sh.iarr IntKind.u8 (32 : Nat)]) L)] [] (PV.tup [PV.int IntKind.u32 y, PV.bool false]), PC Try.prog G0 (20 : Nat) [] [] [] (PV.bool true), PV.bool true = PV.bool true] (by kernel_rfl) (ac (by exact decide_eq_false (by omega)) (ac (by exact c3) (ac (by omega) (ac (by with_reducible rfl) (ac (by rw [List.take_of_length_le (show List.length L ≤ i by omega)]) (ac (by exact hr) (ac (by exact c4) (ao (by with_reducible rfl)))))))))
  | k + 1, i, L, hk, h0, hL => by
    have hll : L.length = i := by rw [hL]; simp; omega
    have hh := take_snoc' (l := l) (i := i) (by omega)
    have g := map_get (l := l) (i := i) (by omega)
    have c1 := pc_ref7 (l.getD i default)
    rw [← hL] at hh
    generalize l.getD i default = h at *
    refine W.seg [((0 : Nat), Ans.dec true), ((2 : Nat), Ans.val (PV.st (68 : Nat) [PV.int IntKind.u32 (↑(Hd.ver h) : Int), PV.iarr IntKind.u8 (32 : Nat) (Hd.prev h), PV.iarr IntKind.u8 (32 : Nat) (Hd.root h), PV.int IntKind.u32 (↑(Hd.time h) : Int), PV.int IntKind.u32 (↑(Hd.bits h) : Int), PV.int IntKind.u32 (↑(Hd.nonce h) : Int)])), ((7 : Nat), Ans.call true [] [] (PV.st (68 : Nat) [PV.int IntKind.u32 (↑(Hd.ver h) : Int), PV.iarr IntKind.u8 (32 : Nat) (Hd.prev h), PV.iarr IntKind.u8 (32 : Nat) (Hd.root h), PV.int IntKind.u32 (↑(Hd.time h) : Int), PV.int IntKind.u32 (↑(Hd.bits h) : Int), PV.int IntKind.u32 (↑(Hd.nonce h) : Int)])), ((10 : Nat), Ans.ups [((1 : Nat), none), ((224 : Nat), some (Row.mk (PV.parr (100 : Nat) (i + (1 : Nat)) (Sh.st (100 : Nat) [Sh.st (68 : Nat) [Sh.int IntKind.u32, Sh.iarr IntKind.u8 (32 : Nat), Sh.iarr IntKind.u8 (32 : Nat), Sh.int IntKind.u32, Sh.int IntKind.u32, Sh.int IntKind.u32], Sh.iarr IntKind.u8 (32 : Nat)]) (L ++ [PV.st (100 : Nat) [PV.st (68 : Nat) [PV.int IntKind.u32 (↑(Hd.ver h) : Int), PV.iarr IntKind.u8 (32 : Nat) (Hd.prev h), PV.iarr IntKind.u8 (32 : Nat) (Hd.root h), PV.int IntKind.u32 (↑(Hd.time h) : Int), PV.int IntKind.u32 (↑(Hd.bits h) : Int), PV.int IntKind.u32 (↑(Hd.nonce h) : Int)], PV.iarr IntKind.u8 (32 : Nat) [(0 : Int), (0 : Int), (0 : Int), (0 : Int), (0 : Int), (0 : Int), (0 : Int), (0 : Int), (0 : Int), (0 : Int), (0 : Int), (0 : Int), (0 : Int), (0 : Int), (0 : Int), (0 : Int), (0 : Int), (0 : Int), (0 : Int), (0 : Int), (0 : Int), (0 : Int), (0 : Int), (0 : Int), (0 : Int), (0 : Int), (0 : Int), (0 : Int), (0 : Int), (0 : Int), (0 : Int), (0 : Int)]]])) false))]), ((12 : Nat), Ans.val (PV.int IntKind.i64 (↑(i + (1 : Nat)) : Int)))] [((2 : Nat), (2 : Nat)), ((224 : Nat), (1 : Nat))] (dsB p nl l n x e (L ++ [lk (lz h)]) (i + (1 : Nat))) (todo' := loopAt Try.f8 (0 : Nat)) [decide ((↑i : Int) < (↑n : Int)) = true, (0 : Int) ≤ (↑i : Int), (↑i : Int) < (↑n : Int), PV.st (68 : Nat) [PV.int IntKind.u32 (PV.num (List.headD (PV.fs (List.getD (List.map Hd.pv l) i PV.undef)) PV.undef)), PV.iarr IntKind.u8 (32 : Nat) (PV.nums (List.headD (List.tail (PV.fs (List.getD (List.map Hd.pv l) i PV.undef))) PV.undef)), PV.iarr IntKind.u8 (32 : Nat) (PV.nums (List.headD (List.tail (List.tail (PV.fs (List.getD (List.map Hd.pv l) i PV.undef)))) PV.undef)), PV.int IntKind.u32 (PV.num (List.headD (List.tail (List.tail (List.tail (PV.fs (List.getD (List.map Hd.pv l) i PV.undef))))) PV.undef)), PV.int IntKind.u32 (PV.num (List.headD (List.tail (List.tail (List.tail (List.tail (PV.fs (List.getD (List.map Hd.pv l) i PV.undef)))))) PV.undef)), PV.int IntKind.u32 (PV.num (List.headD (List.tail (List.tail (List.tail (List.tail (List.tail (PV.fs (List.getD (List.map Hd.pv l) i PV.undef))))))) PV.undef))] = PV.st (68 : Nat) [PV.int IntKind.u32 (↑(Hd.ver h) : Int), PV.iarr IntKind.u8 (32 : Nat) (Hd.prev h), PV.iarr IntKind.u8 (32 : Nat) (Hd.root h), PV.int IntKind.u32 (↑(Hd.time h) : Int), PV.int IntKind.u32 (↑(Hd.bits h) : Int), PV.int IntKind.u32 (↑(Hd.nonce h) : Int)], i < n, PC Try.prog G0 (22 : Nat) [] [PV.st (68 : Nat) [PV.int IntKind.u32 (↑(Hd.ver h) : Int), PV.iarr IntKind.u8 (32 : Nat) (Hd.prev h), PV.iarr IntKind.u8 (32 : Nat) (Hd.root h), PV.int IntKind.u32 (↑(Hd.time h) : Int), PV.int IntKind.u32 (↑(Hd.bits h) : Int), PV.int IntKind.u32 (↑(Hd.nonce h) : Int)]] [] (PV.st (68 : Nat) [PV.int IntKind.u32 (↑(Hd.ver h) : Int), PV.iarr IntKind.u8 (32 : Nat) (Hd.prev h), PV.iarr IntKind.u8 (32 : Nat) (Hd.root h), PV.int IntKind.u32 (↑(Hd.time h) : Int), PV.int IntKind.u32 (↑(Hd.bits h) : Int), PV.int IntKind.u32 (↑(Hd.nonce h) : Int)]), ([((1 : Nat), none), ((224 : Nat), some (Row.mk (PV.parr (100 : Nat) (i + (1 : Nat)) (Sh.st (100 : Nat) [Sh.st (68 : Nat) [Sh.int IntKind.u32, Sh.iarr IntKind.u8 (32 : Nat), Sh.iarr IntKind.u8 (32 : Nat), Sh.int IntKind.u32, Sh.int IntKind.u32, Sh.int IntKind.u32], Sh.iarr IntKind.u8 (32 : Nat)]) (List.take i L ++ [PV.st (100 : Nat) [PV.st (68 : Nat) [PV.int IntKind.u32 (↑(Hd.ver h) : Int), PV.iarr IntKind.u8 (32 : Nat) (Hd.prev h), PV.iarr IntKind.u8 (32 : Nat) (Hd.root h), PV.int IntKind.u32 (↑(Hd.time h) : Int), PV.int IntKind.u32 (↑(Hd.bits h) : Int), PV.int IntKind.u32 (↑(Hd.nonce h) : Int)], PV.iarr IntKind.u8 (32 : Nat) [(0 : Int), (0 : Int), (0 : Int), (0 : Int), (0 : Int), (0 : Int), (0 : Int), (0 : Int), (0 : Int), (0 : Int), (0 : Int), (0 : Int), (0 : Int), (0 : Int), (0 : Int), (0 : Int), (0 : Int), (0 : Int), (0 : Int), (0 : Int), (0 : Int), (0 : Int), (0 : Int), (0 : Int), (0 : Int), (0 : Int), (0 : Int), (0 : Int), (0 : Int), (0 : Int), (0 : Int), (0 : Int)]]])) false))] : List (Nat × Option Row)) = [((1 : Nat), none), ((224 : Nat), some (Row.mk (PV.parr (100 : Nat) (i + (1 : Nat)) (Sh.st (100 : Nat) [Sh.st (68 : Nat) [Sh.int IntKind.u32, Sh.iarr IntKind.u8 (32 : Nat), Sh.iarr IntKind.u8 (32 : Nat), Sh.int IntKind.u32, Sh.int IntKind.u32, Sh.int IntKind.u32], Sh.iarr IntKind.u8 (32 : Nat)]) (L ++ [PV.st (100 : Nat) [PV.st (68 : Nat) [PV.int IntKind.u32 (↑(Hd.ver h) : Int), PV.iarr IntKind.u8 (32 : Nat) (Hd.prev h), PV.iarr IntKind.u8 (32 : Nat) (Hd.root h), PV.int IntKind.u32 (↑(Hd.time h) : Int), PV.int IntKind.u32 (↑(Hd.bits h) : Int), PV.int IntKind.u32 (↑(Hd.nonce h) : Int)], PV.iarr IntKind.u8 (32 : Nat) [(0 : Int), (0 : Int), (0 : Int), (0 : Int), (0 : Int), (0 : Int), (0 : Int), (0 : Int), (0 : Int), (0 : Int), (0 : Int), (0 : Int), (0 : Int), (0 : Int), (0 : Int), (0 : Int), (0 : Int), (0 : Int), (0 : Int), (0 : Int), (0 : Int), (0 : Int), (0 : Int), (0 : Int), (0 : Int), (0 : Int), (0 : Int), (0 : Int), (0 : Int), (0 : Int), (0 : Int), (0 : Int)]]])) false))], (1 : Nat) ≤ (1 : Nat), (0 : Nat) + i = i, (i + (1 : Nat)) * (112 : Nat) ≤ (140737488355328 : Nat), i + (1 : Nat) ≤ (9223372036854775807 : Nat), PV.int IntKind.i64 (IntKind.wrap IntKind.i64 ((↑i : Int) + (1 : Int))) = PV.int IntKind.i64 (↑(i + (1 : Nat)) : Int), PV.at (2 : Nat) [] = PV.at (2 : Nat) [], PV.int IntKind.u32 x = PV.int IntKind.u32 x, PV.int IntKind.i64 e = PV.int IntKind.i64 e, PV.ref (1 : Nat) [] (100 : Nat) (0 : Nat) (i + (1 : Nat)) = PV.ref (1 : Nat) [] (100 : Nat) (0 : Nat) (i + (1 : Nat)), PV.vec nl (PV.parr (68 : Nat) n (Sh.st (68 : Nat) [Sh.int IntKind.u32, Sh.iarr IntKind.u8 (32 : Nat), Sh.iarr IntKind.u8 (32 : Nat), Sh.int IntKind.u32, Sh.int IntKind.u32, Sh.int IntKind.u32]) (List.map Hd.pv l)) = PV.vec nl (PV.parr (68 : Nat) n (Sh.st (68 : Nat) [Sh.int IntKind.u32, Sh.iarr IntKind.u8 (32 : Nat), Sh.iarr IntKind.u8 (32 : Nat), Sh.int IntKind.u32, Sh.int IntKind.u32, Sh.int IntKind.u32]) (List.map Hd.pv l)), PV.int IntKind.i64 (↑n : Int) = PV.int IntKind.i64 (↑n : Int), PV.int IntKind.i64 (↑(i + (1 : Nat)) : Int) = PV.int IntKind.i64 (↑(i + (1 : Nat)) : Int), PV.st (77 : Nat) [PV.int IntKind.u32 (↑(Prm.lim p) : Int), PV.int IntKind.i64 (Prm.per p), PV.int IntKind.i64 (Prm.sp p), PV.int IntKind.i64 (Prm.fu p), PV.int IntKind.i64 (Prm.cap p), PV.st (68 : Nat) [PV.int IntKind.u32 (↑(Hd.ver (Prm.gen p)) : Int), PV.iarr IntKind.u8 (32 : Nat) (Hd.prev (Prm.gen p)), PV.iarr IntKind.u8 (32 : Nat) (Hd.root (Prm.gen p)), PV.int IntKind.u32 (↑(Hd.time (Prm.gen p)) : Int), PV.int IntKind.u32 (↑(Hd.bits (Prm.gen p)) : Int), PV.int IntKind.u32 (↑(Hd.nonce (Prm.gen p)) : Int)], PV.iarr IntKind.u64 (4 : Nat) (uw (Prm.sum p))] = PV.st (77 : Nat) [PV.int IntKind.u32 (↑(Prm.lim p) : Int), PV.int IntKind.i64 (Prm.per p), PV.int IntKind.i64 (Prm.sp p), PV.int IntKind.i64 (Prm.fu p), PV.int IntKind.i64 (Prm.cap p), PV.st (68 : Nat) [PV.int IntKind.u32 (↑(Hd.ver (Prm.gen p)) : Int), PV.iarr IntKind.u8 (32 : Nat) (Hd.prev (Prm.gen p)), PV.iarr IntKind.u8 (32 : Nat) (Hd.root (Prm.gen p)), PV.int IntKind.u32 (↑(Hd.time (Prm.gen p)) : Int), PV.int IntKind.u32 (↑(Hd.bits (Prm.gen p)) : Int), PV.int IntKind.u32 (↑(Hd.nonce (Prm.gen p)) : Int)], PV.iarr IntKind.u64 (4 : Nat) (uw (Prm.sum p))], PV.parr (100 : Nat) (i + (1 : Nat)) (Sh.st (100 : Nat) [Sh.st (68 : Nat) [Sh.int IntKind.u32, Sh.iarr IntKind.u8 (32 : Nat), Sh.iarr IntKind.u8 (32 : Nat), Sh.int IntKind.u32, Sh.int IntKind.u32, Sh.int IntKind.u32], Sh.iarr IntKind.u8 (32 : Nat)]) (L ++ [PV.st (100 : Nat) [PV.st (68 : Nat) [PV.int IntKind.u32 (↑(Hd.ver h) : Int), PV.iarr IntKind.u8 (32 : Nat) (Hd.prev h), PV.iarr IntKind.u8 (32 : Nat) (Hd.root h), PV.int IntKind.u32 (↑(Hd.time h) : Int), PV.int IntKind.u32 (↑(Hd.bits h) : Int), PV.int IntKind.u32 (↑(Hd.nonce h) : Int)], PV.iarr IntKind.u8 (32 : Nat) [(0 : Int), (0 : Int), (0 : Int), (0 : Int), (0 : Int), (0 : Int), (0 : Int), (0 : Int), (0 : Int), (0 : Int), (0 : Int), (0 : Int), (0 : Int), (0 : Int), (0 : Int), (0 : Int), (0 : Int), (0 : Int), (0 : Int), (0 : Int), (0 : Int), (0 : Int), (0 : Int), (0 : Int), (0 : Int), (0 : Int), (0 : Int), (0 : Int), (0 : Int), (0 : Int), (0 : Int), (0 : Int)]]]) = PV.parr (100 : Nat) (i + (1 : Nat)) (Sh.st (100 : Nat) [Sh.st (68 : Nat) [Sh.int IntKind.u32, Sh.iarr IntKind.u8 (32 : Nat), Sh.iarr IntKind.u8 (32 : Nat), Sh.int IntKind.u32, Sh.int IntKind.u32, Sh.int IntKind.u32], Sh.iarr IntKind.u8 (32 : Nat)]) (L ++ [PV.st (100 : Nat) [PV.st (68 : Nat) [PV.int IntKind.u32 (↑(Hd.ver (Prod.fst (h, [(0 : Int), (0 : Int), (0 : Int), (0 : Int), (0 : Int), (0 : Int), (0 : Int), (0 : Int), (0 : Int), (0 : Int), (0 : Int), (0 : Int), (0 : Int), (0 : Int), (0 : Int), (0 : Int), (0 : Int), (0 : Int), (0 : Int), (0 : Int), (0 : Int), (0 : Int), (0 : Int), (0 : Int), (0 : Int), (0 : Int), (0 : Int), (0 : Int), (0 : Int), (0 : Int), (0 : Int), (0 : Int)]))) : Int), PV.iarr IntKind.u8 (32 : Nat) (Hd.prev (Prod.fst (h, [(0 : Int), (0 : Int), (0 : Int), (0 : Int), (0 : Int), (0 : Int), (0 : Int), (0 : Int), (0 : Int), (0 : Int), (0 : Int), (0 : Int), (0 : Int), (0 : Int), (0 : Int), (0 : Int), (0 : Int), (0 : Int), (0 : Int), (0 : Int), (0 : Int), (0 : Int), (0 : Int), (0 : Int), (0 : Int), (0 : Int), (0 : Int), (0 : Int), (0 : Int), (0 : Int), (0 : Int), (0 : Int)]))), PV.iarr IntKind.u8 (32 : Nat) (Hd.root (Prod.fst (h, [(0 : Int), (0 : Int), (0 : Int), (0 : Int), (0 : Int), (0 : Int), (0 : Int), (0 : Int), (0 : Int), (0 : Int), (0 : Int), (0 : Int), (0 : Int), (0 : Int), (0 : Int), (0 : Int), (0 : Int), (0 : Int), (0 : Int), (0 : Int), (0 : Int), (0 : Int), (0 : Int), (0 : Int), (0 : Int), (0 : Int), (0 : Int), (0 : Int), (0 : Int), (0 : Int), (0 : Int), (0 : Int)]))), PV.int IntKind.u32 (↑(Hd.time (Prod.fst (h, [(0 : Int), (0 : Int), (0 : Int), (0 : Int), (0 : Int), (0 : Int), (0 : Int), (0 : Int), (0 : Int), (0 : Int), (0 : Int), (0 : Int), (0 : Int), (0 : Int), (0 : Int), (0 : Int), (0 : Int), (0 : Int), (0 : Int), (0 : Int), (0 : Int), (0 : Int), (0 : Int), (0 : Int), (0 : Int), (0 : Int), (0 : Int), (0 : Int), (0 : Int), (0 : Int), (0 : Int), (0 : Int)]))) : Int), PV.int IntKind.u32 (↑(Hd.bits (Prod.fst (h, [(0 : Int), (0 : Int), (0 : Int), (0 : Int), (0 : Int), (0 : Int), (0 : Int), (0 : Int), (0 : Int), (0 : Int), (0 : Int), (0 : Int), (0 : Int), (0 : Int), (0 : Int), (0 : Int), (0 : Int), (0 : Int), (0 : Int), (0 : Int), (0 : Int), (0 : Int), (0 : Int), (0 : Int), (0 : Int), (0 : Int), (0 : Int), (0 : Int), (0 : Int), (0 : Int), (0 : Int), (0 : Int)]))) : Int), PV.int IntKind.u32 (↑(Hd.nonce (Prod.fst (h, [(0 : Int), (0 : Int), (0 : Int), (0 : Int), (0 : Int), (0 : Int), (0 : Int), (0 : Int), (0 : Int), (0 : Int), (0 : Int), (0 : Int), (0 : Int), (0 : Int), (0 : Int), (0 : Int), (0 : Int), (0 : Int), (0 : Int), (0 : Int), (0 : Int), (0 : Int), (0 : Int), (0 : Int), (0 : Int), (0 : Int), (0 : Int), (0 : Int), (0 : Int), (0 : Int), (0 : Int), (0 : Int)]))) : Int)], PV.iarr IntKind.u8 (32 : Nat) [(0 : Int), (0 : Int), (0 : Int), (0 : Int), (0 : Int), (0 : Int), (0 : Int), (0 : Int), (0 : Int), (0 : Int), (0 : Int), (0 : Int), (0 : Int), (0 : Int), (0 : Int), (0 : Int), (0 : Int), (0 : Int), (0 : Int), (0 : Int), (0 : Int), (0 : Int), (0 : Int), (0 : Int), (0 : Int), (0 : Int), (0 : Int), (0 : Int), (0 : Int), (0 : Int), (0 : Int), (0 : Int)]]])] (by kernel_rfl) (ac (by exact decide_eq_true (by omega)) (ac (by omega) (ac (by omega) (ac (by (rw [g]; rfl)) (ac (by omega) (ac (by exact c1) (ac (by rw [List.take_of_length_le (show List.length L ≤ i by omega)]) (ac (by omega) (ac (by omega) (ac (by omega) (ac (by omega) (ac (by exact congrArg (PV.int _) (w_i64 rfl (by omega) (by omega))) (ac (by with_reducible rfl) (ac (by with_reducible rfl) (ac (by with_reducible rfl) (ac (by with_reducible rfl) (ac (by with_reducible rfl) (ac (by with_reducible rfl) (ac (by with_reducible rfl) (ac (by with_reducible rfl) (ao (by with_reducible rfl)))))))))))))))))))))) ?_
    exact W_lawB hn hn1 hp hs hr k (i + 1) _ (by omega) (by omega) hh
theorem lz_get {l : List Hd} {i : Nat} (h : i < l.length) : (l.map lz).getD i default = lz (l.getD i default) := by
  simp [List.getD_eq_getElem?_getD, h]
set_option maxHeartbeats 4000000 in
theorem pc_ruleBits {p : Prm} {nl : Bool} {l : List Hd} (hp : p.Ok) (ho : ∀ h ∈ l, h.Ok) : PC Try.prog G0 8 [] [p.pv, lpv nl l] [] (.bool true) := by
  refine PC.of (fn := Try.f8) (c := bodyOf Try.f8) Try.func8 (by kernel_rfl) (by kernel_rfl) (by kernel_rfl) (by kernel_rfl) ?_
  have c3 := pc_rref hp.sum
  have c4 := pc_awake19
  by_cases hb : l.length > 30
  · unfold lpv
    refine W.ret [((4 : Nat), Ans.dec true), ((11 : Nat), Ans.call true [] [] (PV.bool true))] [] [decide ((↑(List.length l) : Int) > (30 : Int)) = true, PC Try.prog G0 (20 : Nat) [] [] [] (PV.bool true), PV.bool true = PV.bool true] (by kernel_rfl) (ac (by exact decide_eq_true (by omega)) (ac (by exact c4) (ao (by with_reducible rfl))))
  · by_cases hm : p.May
    · have c5 := pc_mayY hp hm
      by_cases h0 : l.length = 0
      · have hl : l = [] := List.eq_nil_of_length_eq_zero h0
        subst hl
        have c1 := pc_ruleBits0 (p := p) (nl := nl)
        refine W.ret [((3 : Nat), Ans.val (PV.int IntKind.i64 (0 : Int))), ((7 : Nat), Ans.call false [] [] (PV.st (74 : Nat) [PV.int IntKind.u32 (↑(Prm.lim p) : Int), PV.int IntKind.i64 (Prm.per p), PV.int IntKind.i64 (Prm.sp p), PV.int IntKind.i64 (Prm.fu p), PV.int IntKind.i64 (Prm.cap p), PV.st (68 : Nat) [PV.int IntKind.u32 (↑(Hd.ver (Prm.gen p)) : Int), PV.iarr IntKind.u8 (32 : Nat) (Hd.prev (Prm.gen p)), PV.iarr IntKind.u8 (32 : Nat) (Hd.root (Prm.gen p)), PV.int IntKind.u32 (↑(Hd.time (Prm.gen p)) : Int), PV.int IntKind.u32 (↑(Hd.bits (Prm.gen p)) : Int), PV.int IntKind.u32 (↑(Hd.nonce (Prm.gen p)) : Int)], PV.vec false (PV.iarr IntKind.i64 (nd (Prm.sum p)) (dg (Prm.sum p)))])), ((8 : Nat), Ans.call true [] [] (PV.bool true)), ((13 : Nat), Ans.call true [] [] (PV.tup [PV.int IntKind.u32 (0 : Int), PV.int IntKind.i64 (6 : Int)])), ((20 : Nat), Ans.val (PV.int IntKind.i64 (0 : Int))), ((29 : Nat), Ans.call true [] [] (PV.bool true))] [] [PV.int IntKind.i64 (↑(0 : Nat) : Int) = PV.int IntKind.i64 (0 : Int), PC Try.prog G0 (19 : Nat) [] [PV.st (77 : Nat) [PV.int IntKind.u32 (↑(Prm.lim p) : Int), PV.int IntKind.i64 (Prm.per p), PV.int IntKind.i64 (Prm.sp p), PV.int IntKind.i64 (Prm.fu p), PV.int IntKind.i64 (Prm.cap p), PV.st (68 : Nat) [PV.int IntKind.u32 (↑(Hd.ver (Prm.gen p)) : Int), PV.iarr IntKind.u8 (32 : Nat) (Hd.prev (Prm.gen p)), PV.iarr IntKind.u8 (32 : Nat) (Hd.root (Prm.gen p)), PV.int IntKind.u32 (↑(Hd.time (Prm.gen p)) : Int), PV.int IntKind.u32 (↑(Hd.bits (Prm.gen p)) : Int), PV.int IntKind.u32 (↑(Hd.nonce (Prm.gen p)) : Int)], PV.iarr IntKind.u64 (4 : Nat) (uw (Prm.sum p))]] [] (PV.st (74 : Nat) [PV.int IntKind.u32 (↑(Prm.lim p) : Int), PV.int IntKind.i64 (Prm.per p), PV.int IntKind.i64 (Prm.sp p), PV.int IntKind.i64 (Prm.fu p), PV.int IntKind.i64 (Prm.cap p), PV.st (68 : Nat) [PV.int IntKind.u32 (↑(Hd.ver (Prm.gen p)) : Int), PV.iarr IntKind.u8 (32 : Nat) (Hd.prev (Prm.gen p)), PV.iarr IntKind.u8 (32 : Nat) (Hd.root (Prm.gen p)), PV.int IntKind.u32 (↑(Hd.time (Prm.gen p)) : Int), PV.int IntKind.u32 (↑(Hd.bits (Prm.gen p)) : Int), PV.int IntKind.u32 (↑(Hd.nonce (Prm.gen p)) : Int)], PV.vec false (PV.iarr IntKind.i64 (nd (Prm.sum p)) (dg (Prm.sum p)))]), PC Try.prog G0 (18 : Nat) [] [PV.st (74 : Nat) [PV.int IntKind.u32 (↑(Prm.lim p) : Int), PV.int IntKind.i64 (Prm.per p), PV.int IntKind.i64 (Prm.sp p), PV.int IntKind.i64 (Prm.fu p), PV.int IntKind.i64 (Prm.cap p), PV.st (68 : Nat) [PV.int IntKind.u32 (↑(Hd.ver (Prm.gen p)) : Int), PV.iarr IntKind.u8 (32 : Nat) (Hd.prev (Prm.gen p)), PV.iarr IntKind.u8 (32 : Nat) (Hd.root (Prm.gen p)), PV.int IntKind.u32 (↑(Hd.time (Prm.gen p)) : Int), PV.int IntKind.u32 (↑(Hd.bits (Prm.gen p)) : Int), PV.int IntKind.u32 (↑(Hd.nonce (Prm.gen p)) : Int)], PV.vec false (PV.iarr IntKind.i64 (nd (Prm.sum p)) (dg (Prm.sum p)))]] [] (PV.bool true), PC Try.prog G0 (21 : Nat) [] [PV.st (77 : Nat) [PV.int IntKind.u32 (↑(Prm.lim p) : Int), PV.int IntKind.i64 (Prm.per p), PV.int IntKind.i64 (Prm.sp p), PV.int IntKind.i64 (Prm.fu p), PV.int IntKind.i64 (Prm.cap p), PV.st (68 : Nat) [PV.int IntKind.u32 (↑(Hd.ver (Prm.gen p)) : Int), PV.iarr IntKind.u8 (32 : Nat) (Hd.prev (Prm.gen p)), PV.iarr IntKind.u8 (32 : Nat) (Hd.root (Prm.gen p)), PV.int IntKind.u32 (↑(Hd.time (Prm.gen p)) : Int), PV.int IntKind.u32 (↑(Hd.bits (Prm.gen p)) : Int), PV.int IntKind.u32 (↑(Hd.nonce (Prm.gen p)) : Int)], PV.iarr IntKind.u64 (4 : Nat) (uw (Prm.sum p))], PV.vec nl (PV.parr (68 : Nat) (0 : Nat) (Sh.st (68 : Nat) [Sh.int IntKind.u32, Sh.iarr IntKind.u8 (32 : Nat), Sh.iarr IntKind.u8 (32 : Nat), Sh.int IntKind.u32, Sh.int IntKind.u32, Sh.int IntKind.u32]) [])] [] (PV.tup [PV.int IntKind.u32 (0 : Int), PV.int IntKind.i64 (6 : Int)]), PV.int IntKind.i64 (↑(0 : Nat) : Int) = PV.int IntKind.i64 (0 : Int), PC Try.prog G0 (20 : Nat) [] [] [] (PV.bool true), PV.bool true = PV.bool true] (by kernel_rfl) (ac (by exact congrArg (PV.int _) (by omega)) (ac (by exact c3) (ac (by exact c5) (ac (by exact c1) (ac (by exact congrArg (PV.int _) (by omega)) (ac (by exact c4) (ao (by with_reducible rfl))))))))
      · obtain ⟨q, hq⟩ : ∃ q : Nat, p.per = (q : Int) := ⟨p.per.toNat, by have := hm.per; omega⟩
        have hq1 : 1 ≤ q := by have := hm.per; omega
        have hlim := canon_ne hm.c1
        obtain ⟨x, e, y, b, hs, hx, hr⟩ : ∃ (x e y : Int) (b : Bool), Same x e y b ∧ PC Try.prog G0 21 [] [p.pv, lpv nl l] [] (.tup [.int .u32 x, .int .i64 e]) ∧ PC Try.prog G0 23 [] [p.rpv, links false (l.map lz)] [] (.tup [.int .u32 y, .bool b]) := by
          have hlen : (l.map lz).length = l.length := by simp
          by_cases hd : l.length % q = 0
          · have hqn : q ≤ l.length := Nat.le_of_dvd (by omega) (Nat.dvd_of_mod_eq_zero hd)
            have h1 := ok_get (i := l.length - 1) ho (by omega)
            have h2 := ok_get (i := l.length - q) ho (by omega)
            have e1 := lz_get (l := l) (i := l.length - 1) (by omega)
            have e2 := lz_get (l := l) (i := l.length - q) (by omega)
            by_cases ht : tgt (l.getD (l.length - 1) default).bits = 0
            · refine ⟨0, 5, 0, false, ⟨fun h => (by cases h), fun _ => ⟨rfl, rfl⟩⟩, pc_ruleBitsP hq hq1 rfl (by omega) (by omega) hd (pc_pbitsA _ _ h1.bits hp.lim h2.time h1.time ht), pc_rBits19P hq hq1 hlen (by omega) (by omega) hd ?_⟩
              rw [e1, e2]
              exact pc_rBits18N _ _ h1.bits hp.lim (.inl ht)
            · refine ⟨_, 0, _, true, ⟨fun _ => ⟨rfl, rfl⟩, fun h => (by cases h)⟩, pc_ruleBitsP hq hq1 rfl (by omega) (by omega) hd (pc_pbitsC _ _ h1.bits hp.lim h2.time h1.time ht hlim), pc_rBits19P hq hq1 hlen (by omega) (by omega) hd ?_⟩
              rw [e1, e2]
              exact pc_rBits18Y _ _ h1.bits hp.lim h2.time h1.time ht hlim
          · have e1 := lz_get (l := l) (i := l.length - 1) (by omega)
            have := pc_rBits19K (p := p) (nl := false) (l := l.map lz) hq hq1 hlen (by omega) (by omega) hd
            rw [e1] at this
            exact ⟨_, 0, _, true, ⟨fun _ => ⟨rfl, rfl⟩, fun h => (by cases h)⟩, pc_ruleBitsK hq hq1 rfl (by omega) (by omega) hd, this⟩
        have hh := take_snoc' (l := l) (i := 0) (by omega)
        have g := map_get (l := l) (i := 0) (by omega)
        have c1 := pc_ref7 (l.getD 0 default)
        rw [List.take_zero, List.map_nil, List.nil_append] at hh
        unfold lpv at hx ⊢
        generalize l.getD 0 default = h at *
        generalize hn : l.length = n at *
        refine W.seg [((4 : Nat), Ans.dec false), ((7 : Nat), Ans.call false [] [] (PV.st (74 : Nat) [PV.int IntKind.u32 (↑(Prm.lim p) : Int), PV.int IntKind.i64 (Prm.per p), PV.int IntKind.i64 (Prm.sp p), PV.int IntKind.i64 (Prm.fu p), PV.int IntKind.i64 (Prm.cap p), PV.st (68 : Nat) [PV.int IntKind.u32 (↑(Hd.ver (Prm.gen p)) : Int), PV.iarr IntKind.u8 (32 : Nat) (Hd.prev (Prm.gen p)), PV.iarr IntKind.u8 (32 : Nat) (Hd.root (Prm.gen p)), PV.int IntKind.u32 (↑(Hd.time (Prm.gen p)) : Int), PV.int IntKind.u32 (↑(Hd.bits (Prm.gen p)) : Int), PV.int IntKind.u32 (↑(Hd.nonce (Prm.gen p)) : Int)], PV.vec false (PV.iarr IntKind.i64 (nd (Prm.sum p)) (dg (Prm.sum p)))])), ((8 : Nat), Ans.call true [] [] (PV.bool true)), ((13 : Nat), Ans.call true [] [] (PV.tup [PV.int IntKind.u32 x, PV.int IntKind.i64 e])), ((21 : Nat), Ans.dec false)] [((64 : Nat), (2 : Nat))] (dsB0 p nl l n x e) (todo' := loopAt Try.f8 (0 : Nat)) [decide ((↑n : Int) > (30 : Int)) = false, PC Try.prog G0 (19 : Nat) [] [PV.st (77 : Nat) [PV.int IntKind.u32 (↑(Prm.lim p) : Int), PV.int IntKind.i64 (Prm.per p), PV.int IntKind.i64 (Prm.sp p), PV.int IntKind.i64 (Prm.fu p), PV.int IntKind.i64 (Prm.cap p), PV.st (68 : Nat) [PV.int IntKind.u32 (↑(Hd.ver (Prm.gen p)) : Int), PV.iarr IntKind.u8 (32 : Nat) (Hd.prev (Prm.gen p)), PV.iarr IntKind.u8 (32 : Nat) (Hd.root (Prm.gen p)), PV.int IntKind.u32 (↑(Hd.time (Prm.gen p)) : Int), PV.int IntKind.u32 (↑(Hd.bits (Prm.gen p)) : Int), PV.int IntKind.u32 (↑(Hd.nonce (Prm.gen p)) : Int)], PV.iarr IntKind.u64 (4 : Nat) (uw (Prm.sum p))]] [] (PV.st (74 : Nat) [PV.int IntKind.u32 (↑(Prm.lim p) : Int), PV.int IntKind.i64 (Prm.per p), PV.int IntKind.i64 (Prm.sp p), PV.int IntKind.i64 (Prm.fu p), PV.int IntKind.i64 (Prm.cap p), PV.st (68 : Nat) [PV.int IntKind.u32 (↑(Hd.ver (Prm.gen p)) : Int), PV.iarr IntKind.u8 (32 : Nat) (Hd.prev (Prm.gen p)), PV.iarr IntKind.u8 (32 : Nat) (Hd.root (Prm.gen p)), PV.int IntKind.u32 (↑(Hd.time (Prm.gen p)) : Int), PV.int IntKind.u32 (↑(Hd.bits (Prm.gen p)) : Int), PV.int IntKind.u32 (↑(Hd.nonce (Prm.gen p)) : Int)], PV.vec false (PV.iarr IntKind.i64 (nd (Prm.sum p)) (dg (Prm.sum p)))]), PC Try.prog G0 (18 : Nat) [] [PV.st (74 : Nat) [PV.int IntKind.u32 (↑(Prm.lim p) : Int), PV.int IntKind.i64 (Prm.per p), PV.int IntKind.i64 (Prm.sp p), PV.int IntKind.i64 (Prm.fu p), PV.int IntKind.i64 (Prm.cap p), PV.st (68 : Nat) [PV.int IntKind.u32 (↑(Hd.ver (Prm.gen p)) : Int), PV.iarr IntKind.u8 (32 : Nat) (Hd.prev (Prm.gen p)), PV.iarr IntKind.u8 (32 : Nat) (Hd.root (Prm.gen p)), PV.int IntKind.u32 (↑(Hd.time (Prm.gen p)) : Int), PV.int IntKind.u32 (↑(Hd.bits (Prm.gen p)) : Int), PV.int IntKind.u32 (↑(Hd.nonce (Prm.gen p)) : Int)], PV.vec false (PV.iarr IntKind.i64 (nd (Prm.sum p)) (dg (Prm.sum p)))]] [] (PV.bool true), PC Try.prog G0 (21 : Nat) [] [PV.st (77 : Nat) [PV.int IntKind.u32 (↑(Prm.lim p) : Int), PV.int IntKind.i64 (Prm.per p), PV.int IntKind.i64 (Prm.sp p), PV.int IntKind.i64 (Prm.fu p), PV.int IntKind.i64 (Prm.cap p), PV.st (68 : Nat) [PV.int IntKind.u32 (↑(Hd.ver (Prm.gen p)) : Int), PV.iarr IntKind.u8 (32 : Nat) (Hd.prev (Prm.gen p)), PV.iarr IntKind.u8 (32 : Nat) (Hd.root (Prm.gen p)), PV.int IntKind.u32 (↑(Hd.time (Prm.gen p)) : Int), PV.int IntKind.u32 (↑(Hd.bits (Prm.gen p)) : Int), PV.int IntKind.u32 (↑(Hd.nonce (Prm.gen p)) : Int)], PV.iarr IntKind.u64 (4 : Nat) (uw (Prm.sum p))], PV.vec nl (PV.parr (68 : Nat) n (Sh.st (68 : Nat) [Sh.int IntKind.u32, Sh.iarr IntKind.u8 (32 : Nat), Sh.iarr IntKind.u8 (32 : Nat), Sh.int IntKind.u32, Sh.int IntKind.u32, Sh.int IntKind.u32]) (List.map Hd.pv l))] [] (PV.tup [PV.int IntKind.u32 x, PV.int IntKind.i64 e]), ((↑n : Int) == (0 : Int)) = false, PV.at (2 : Nat) [] = PV.at (2 : Nat) [], PV.int IntKind.u32 x = PV.int IntKind.u32 x, PV.int IntKind.i64 e = PV.int IntKind.i64 e, PV.vec true (PV.parr (100 : Nat) (0 : Nat) (Sh.st (100 : Nat) [Sh.st (68 : Nat) [Sh.int IntKind.u32, Sh.iarr IntKind.u8 (32 : Nat), Sh.iarr IntKind.u8 (32 : Nat), Sh.int IntKind.u32, Sh.int IntKind.u32, Sh.int IntKind.u32], Sh.iarr IntKind.u8 (32 : Nat)]) []) = PV.vec true (PV.parr (100 : Nat) (0 : Nat) (Sh.st (100 : Nat) [Sh.st (68 : Nat) [Sh.int IntKind.u32, Sh.iarr IntKind.u8 (32 : Nat), Sh.iarr IntKind.u8 (32 : Nat), Sh.int IntKind.u32, Sh.int IntKind.u32, Sh.int IntKind.u32], Sh.iarr IntKind.u8 (32 : Nat)]) []), PV.vec nl (PV.parr (68 : Nat) n (Sh.st (68 : Nat) [Sh.int IntKind.u32, Sh.iarr IntKind.u8 (32 : Nat), Sh.iarr IntKind.u8 (32 : Nat), Sh.int IntKind.u32, Sh.int IntKind.u32, Sh.int IntKind.u32]) (List.map Hd.pv l)) = PV.vec nl (PV.parr (68 : Nat) n (Sh.st (68 : Nat) [Sh.int IntKind.u32, Sh.iarr IntKind.u8 (32 : Nat), Sh.iarr IntKind.u8 (32 : Nat), Sh.int IntKind.u32, Sh.int IntKind.u32, Sh.int IntKind.u32]) (List.map Hd.pv l)), PV.int IntKind.i64 (↑n : Int) = PV.int IntKind.i64 (↑n : Int), PV.int IntKind.i64 (0 : Int) = PV.int IntKind.i64 (0 : Int), PV.st (77 : Nat) [PV.int IntKind.u32 (↑(Prm.lim p) : Int), PV.int IntKind.i64 (Prm.per p), PV.int IntKind.i64 (Prm.sp p), PV.int IntKind.i64 (Prm.fu p), PV.int IntKind.i64 (Prm.cap p), PV.st (68 : Nat) [PV.int IntKind.u32 (↑(Hd.ver (Prm.gen p)) : Int), PV.iarr IntKind.u8 (32 : Nat) (Hd.prev (Prm.gen p)), PV.iarr IntKind.u8 (32 : Nat) (Hd.root (Prm.gen p)), PV.int IntKind.u32 (↑(Hd.time (Prm.gen p)) : Int), PV.int IntKind.u32 (↑(Hd.bits (Prm.gen p)) : Int), PV.int IntKind.u32 (↑(Hd.nonce (Prm.gen p)) : Int)], PV.iarr IntKind.u64 (4 : Nat) (uw (Prm.sum p))] = PV.st (77 : Nat) [PV.int IntKind.u32 (↑(Prm.lim p) : Int), PV.int IntKind.i64 (Prm.per p), PV.int IntKind.i64 (Prm.sp p), PV.int IntKind.i64 (Prm.fu p), PV.int IntKind.i64 (Prm.cap p), PV.st (68 : Nat) [PV.int IntKind.u32 (↑(Hd.ver (Prm.gen p)) : Int), PV.iarr IntKind.u8 (32 : Nat) (Hd.prev (Prm.gen p)), PV.iarr IntKind.u8 (32 : Nat) (Hd.root (Prm.gen p)), PV.int IntKind.u32 (↑(Hd.time (Prm.gen p)) : Int), PV.int IntKind.u32 (↑(Hd.bits (Prm.gen p)) : Int), PV.int IntKind.u32 (↑(Hd.nonce (Prm.gen p)) : Int)], PV.iarr IntKind.u64 (4 : Nat) (uw (Prm.sum p))]] (by kernel_rfl) (ac (by exact decide_eq_false (by omega)) (ac (by exact c3) (ac (by exact c5) (ac (by exact hx) (ac (by exact decide_eq_false (by omega)) (ac (by with_reducible rfl) (ac (by with_reducible rfl) (ac (by with_reducible rfl) (ac (by with_reducible rfl) (ac (by with_reducible rfl) (ac (by with_reducible rfl) (ac (by with_reducible rfl) (ao (by with_reducible rfl)))))))))))))) ?_
        refine W.seg [((0 : Nat), Ans.dec true), ((2 : Nat), Ans.val (PV.st (68 : Nat) [PV.int IntKind.u32 (↑(Hd.ver h) : Int), PV.iarr IntKind.u8 (32 : Nat) (Hd.prev h), PV.iarr IntKind.u8 (32 : Nat) (Hd.root h), PV.int IntKind.u32 (↑(Hd.time h) : Int), PV.int IntKind.u32 (↑(Hd.bits h) : Int), PV.int IntKind.u32 (↑(Hd.nonce h) : Int)])), ((7 : Nat), Ans.call true [] [] (PV.st (68 : Nat) [PV.int IntKind.u32 (↑(Hd.ver h) : Int), PV.iarr IntKind.u8 (32 : Nat) (Hd.prev h), PV.iarr IntKind.u8 (32 : Nat) (Hd.root h), PV.int IntKind.u32 (↑(Hd.time h) : Int), PV.int IntKind.u32 (↑(Hd.bits h) : Int), PV.int IntKind.u32 (↑(Hd.nonce h) : Int)])), ((12 : Nat), Ans.val (PV.int IntKind.i64 (1 : Int)))] [((2 : Nat), (2 : Nat)), ((224 : Nat), (1 : Nat))] (dsB p nl l n x e [lk (lz h)] (1 : Nat)) (todo' := loopAt Try.f8 (0 : Nat)) [decide ((0 : Int) < (↑n : Int)) = true, (0 : Int) ≤ (0 : Int), (0 : Int) < (↑n : Int), PV.st (68 : Nat) [PV.int IntKind.u32 (PV.num (List.headD (PV.fs (List.getD (List.map Hd.pv l) (0 : Nat) PV.undef)) PV.undef)), PV.iarr IntKind.u8 (32 : Nat) (PV.nums (List.headD (List.tail (PV.fs (List.getD (List.map Hd.pv l) (0 : Nat) PV.undef))) PV.undef)), PV.iarr IntKind.u8 (32 : Nat) (PV.nums (List.headD (List.tail (List.tail (PV.fs (List.getD (List.map Hd.pv l) (0 : Nat) PV.undef)))) PV.undef)), PV.int IntKind.u32 (PV.num (List.headD (List.tail (List.tail (List.tail (PV.fs (List.getD (List.map Hd.pv l) (0 : Nat) PV.undef))))) PV.undef)), PV.int IntKind.u32 (PV.num (List.headD (List.tail (List.tail (List.tail (List.tail (PV.fs (List.getD (List.map Hd.pv l) (0 : Nat) PV.undef)))))) PV.undef)), PV.int IntKind.u32 (PV.num (List.headD (List.tail (List.tail (List.tail (List.tail (List.tail (PV.fs (List.getD (List.map Hd.pv l) (0 : Nat) PV.undef))))))) PV.undef))] = PV.st (68 : Nat) [PV.int IntKind.u32 (↑(Hd.ver h) : Int), PV.iarr IntKind.u8 (32 : Nat) (Hd.prev h), PV.iarr IntKind.u8 (32 : Nat) (Hd.root h), PV.int IntKind.u32 (↑(Hd.time h) : Int), PV.int IntKind.u32 (↑(Hd.bits h) : Int), PV.int IntKind.u32 (↑(Hd.nonce h) : Int)], (0 : Nat) < n, PC Try.prog G0 (22 : Nat) [] [PV.st (68 : Nat) [PV.int IntKind.u32 (↑(Hd.ver h) : Int), PV.iarr IntKind.u8 (32 : Nat) (Hd.prev h), PV.iarr IntKind.u8 (32 : Nat) (Hd.root h), PV.int IntKind.u32 (↑(Hd.time h) : Int), PV.int IntKind.u32 (↑(Hd.bits h) : Int), PV.int IntKind.u32 (↑(Hd.nonce h) : Int)]] [] (PV.st (68 : Nat) [PV.int IntKind.u32 (↑(Hd.ver h) : Int), PV.iarr IntKind.u8 (32 : Nat) (Hd.prev h), PV.iarr IntKind.u8 (32 : Nat) (Hd.root h), PV.int IntKind.u32 (↑(Hd.time h) : Int), PV.int IntKind.u32 (↑(Hd.bits h) : Int), PV.int IntKind.u32 (↑(Hd.nonce h) : Int)]), (1 : Nat) ≤ (1 : Nat), (0 : Nat) < (1 : Nat), (112 : Nat) ≤ (140737488355328 : Nat), (1 : Nat) ≤ (9223372036854775807 : Nat), PV.int IntKind.i64 (IntKind.wrap IntKind.i64 ((0 : Int) + (1 : Int))) = PV.int IntKind.i64 (1 : Int), PV.at (2 : Nat) [] = PV.at (2 : Nat) [], PV.int IntKind.u32 x = PV.int IntKind.u32 x, PV.int IntKind.i64 e = PV.int IntKind.i64 e, PV.ref (1 : Nat) [] (100 : Nat) (0 : Nat) (1 : Nat) = PV.ref (1 : Nat) [] (100 : Nat) (0 : Nat) (1 : Nat), PV.vec nl (PV.parr (68 : Nat) n (Sh.st (68 : Nat) [Sh.int IntKind.u32, Sh.iarr IntKind.u8 (32 : Nat), Sh.iarr IntKind.u8 (32 : Nat), Sh.int IntKind.u32, Sh.int IntKind.u32, Sh.int IntKind.u32]) (List.map Hd.pv l)) = PV.vec nl (PV.parr (68 : Nat) n (Sh.st (68 : Nat) [Sh.int IntKind.u32, Sh.iarr IntKind.u8 (32 : Nat), Sh.iarr IntKind.u8 (32 : Nat), Sh.int IntKind.u32, Sh.int IntKind.u32, Sh.int IntKind.u32]) (List.map Hd.pv l)), PV.int IntKind.i64 (↑n : Int) = PV.int IntKind.i64 (↑n : Int), PV.int IntKind.i64 (1 : Int) = PV.int IntKind.i64 (↑(1 : Nat) : Int), PV.st (77 : Nat) [PV.int IntKind.u32 (↑(Prm.lim p) : Int), PV.int IntKind.i64 (Prm.per p), PV.int IntKind.i64 (Prm.sp p), PV.int IntKind.i64 (Prm.fu p), PV.int IntKind.i64 (Prm.cap p), PV.st (68 : Nat) [PV.int IntKind.u32 (↑(Hd.ver (Prm.gen p)) : Int), PV.iarr IntKind.u8 (32 : Nat) (Hd.prev (Prm.gen p)), PV.iarr IntKind.u8 (32 : Nat) (Hd.root (Prm.gen p)), PV.int IntKind.u32 (↑(Hd.time (Prm.gen p)) : Int), PV.int IntKind.u32 (↑(Hd.bits (Prm.gen p)) : Int), PV.int IntKind.u32 (↑(Hd.nonce (Prm.gen p)) : Int)], PV.iarr IntKind.u64 (4 : Nat) (uw (Prm.sum p))] = PV.st (77 : Nat) [PV.int IntKind.u32 (↑(Prm.lim p) : Int), PV.int IntKind.i64 (Prm.per p), PV.int IntKind.i64 (Prm.sp p), PV.int IntKind.i64 (Prm.fu p), PV.int IntKind.i64 (Prm.cap p), PV.st (68 : Nat) [PV.int IntKind.u32 (↑(Hd.ver (Prm.gen p)) : Int), PV.iarr IntKind.u8 (32 : Nat) (Hd.prev (Prm.gen p)), PV.iarr IntKind.u8 (32 : Nat) (Hd.root (Prm.gen p)), PV.int IntKind.u32 (↑(Hd.time (Prm.gen p)) : Int), PV.int IntKind.u32 (↑(Hd.bits (Prm.gen p)) : Int), PV.int IntKind.u32 (↑(Hd.nonce (Prm.gen p)) : Int)], PV.iarr IntKind.u64 (4 : Nat) (uw (Prm.sum p))], PV.parr (100 : Nat) (1 : Nat) (Sh.st (100 : Nat) [Sh.st (68 : Nat) [Sh.int IntKind.u32, Sh.iarr IntKind.u8 (32 : Nat), Sh.iarr IntKind.u8 (32 : Nat), Sh.int IntKind.u32, Sh.int IntKind.u32, Sh.int IntKind.u32], Sh.iarr IntKind.u8 (32 : Nat)]) [PV.st (100 : Nat) [PV.st (68 : Nat) [PV.int IntKind.u32 (↑(Hd.ver h) : Int), PV.iarr IntKind.u8 (32 : Nat) (Hd.prev h), PV.iarr IntKind.u8 (32 : Nat) (Hd.root h), PV.int IntKind.u32 (↑(Hd.time h) : Int), PV.int IntKind.u32 (↑(Hd.bits h) : Int), PV.int IntKind.u32 (↑(Hd.nonce h) : Int)], PV.iarr IntKind.u8 (32 : Nat) [(0 : Int), (0 : Int), (0 : Int), (0 : Int), (0 : Int), (0 : Int), (0 : Int), (0 : Int), (0 : Int), (0 : Int), (0 : Int), (0 : Int), (0 : Int), (0 : Int), (0 : Int), (0 : Int), (0 : Int), (0 : Int), (0 : Int), (0 : Int), (0 : Int), (0 : Int), (0 : Int), (0 : Int), (0 : Int), (0 : Int), (0 : Int), (0 : Int), (0 : Int), (0 : Int), (0 : Int), (0 : Int)]]] = PV.parr (100 : Nat) (1 : Nat) (Sh.st (100 : Nat) [Sh.st (68 : Nat) [Sh.int IntKind.u32, Sh.iarr IntKind.u8 (32 : Nat), Sh.iarr IntKind.u8 (32 : Nat), Sh.int IntKind.u32, Sh.int IntKind.u32, Sh.int IntKind.u32], Sh.iarr IntKind.u8 (32 : Nat)]) [PV.st (100 : Nat) [PV.st (68 : Nat) [PV.int IntKind.u32 (↑(Hd.ver (Prod.fst (h, [(0 : Int), (0 : Int), (0 : Int), (0 : Int), (0 : Int), (0 : Int), (0 : Int), (0 : Int), (0 : Int), (0 : Int), (0 : Int), (0 : Int), (0 : Int), (0 : Int), (0 : Int), (0 : Int), (0 : Int), (0 : Int), (0 : Int), (0 : Int), (0 : Int), (0 : Int), (0 : Int), (0 : Int), (0 : Int), (0 : Int), (0 : Int), (0 : Int), (0 : Int), (0 : Int), (0 : Int), (0 : Int)]))) : Int), PV.iarr IntKind.u8 (32 : Nat) (Hd.prev (Prod.fst (h, [(0 : Int), (0 : Int), (0 : Int), (0 : Int), (0 : Int), (0 : Int), (0 : Int), (0 : Int), (0 : Int), (0 : Int), (0 : Int), (0 : Int), (0 : Int), (0 : Int), (0 : Int), (0 : Int), (0 : Int), (0 : Int), (0 : Int), (0 : Int), (0 : Int), (0 : Int), (0 : Int), (0 : Int), (0 : Int), (0 : Int), (0 : Int), (0 : Int), (0 : Int), (0 : Int), (0 : Int), (0 : Int)]))), PV.iarr IntKind.u8 (32 : Nat) (Hd.root (Prod.fst (h, [(0 : Int), (0 : Int), (0 : Int), (0 : Int), (0 : Int), (0 : Int), (0 : Int), (0 : Int), (0 : Int), (0 : Int), (0 : Int), (0 : Int), (0 : Int), (0 : Int), (0 : Int), (0 : Int), (0 : Int), (0 : Int), (0 : Int), (0 : Int), (0 : Int), (0 : Int), (0 : Int), (0 : Int), (0 : Int), (0 : Int), (0 : Int), (0 : Int), (0 : Int), (0 : Int), (0 : Int), (0 : Int)]))), PV.int IntKind.u32 (↑(Hd.time (Prod.fst (h, [(0 : Int), (0 : Int), (0 : Int), (0 : Int), (0 : Int), (0 : Int), (0 : Int), (0 : Int), (0 : Int), (0 : Int), (0 : Int), (0 : Int), (0 : Int), (0 : Int), (0 : Int), (0 : Int), (0 : Int), (0 : Int), (0 : Int), (0 : Int), (0 : Int), (0 : Int), (0 : Int), (0 : Int), (0 : Int), (0 : Int), (0 : Int), (0 : Int), (0 : Int), (0 : Int), (0 : Int), (0 : Int)]))) : Int), PV.int IntKind.u32 (↑(Hd.bits (Prod.fst (h, [(0 : Int), (0 : Int), (0 : Int), (0 : Int), (0 : Int), (0 : Int), (0 : Int), (0 : Int), (0 : Int), (0 : Int), (0 : Int), (0 : Int), (0 : Int), (0 : Int), (0 : Int), (0 : Int), (0 : Int), (0 : Int), (0 : Int), (0 : Int), (0 : Int), (0 : Int), (0 : Int), (0 : Int), (0 : Int), (0 : Int), (0 : Int), (0 : Int), (0 : Int), (0 : Int), (0 : Int), (0 : Int)]))) : Int), PV.int IntKind.u32 (↑(Hd.nonce (Prod.fst (h, [(0 : Int), (0 : Int), (0 : Int), (0 : Int), (0 : Int), (0 : Int), (0 : Int), (0 : Int), (0 : Int), (0 : Int), (0 : Int), (0 : Int), (0 : Int), (0 : Int), (0 : Int), (0 : Int), (0 : Int), (0 : Int), (0 : Int), (0 : Int), (0 : Int), (0 : Int), (0 : Int), (0 : Int), (0 : Int), (0 : Int), (0 : Int), (0 : Int), (0 : Int), (0 : Int), (0 : Int), (0 : Int)]))) : Int)], PV.iarr IntKind.u8 (32 : Nat) [(0 : Int), (0 : Int), (0 : Int), (0 : Int), (0 : Int), (0 : Int), (0 : Int), (0 : Int), (0 : Int), (0 : Int), (0 : Int), (0 : Int), (0 : Int), (0 : Int), (0 : Int), (0 : Int), (0 : Int), (0 : Int), (0 : Int), (0 : Int), (0 : Int), (0 : Int), (0 : Int), (0 : Int), (0 : Int), (0 : Int), (0 : Int), (0 : Int), (0 : Int), (0 : Int), (0 : Int), (0 : Int)]]]] (by kernel_rfl) (ac (by exact decide_eq_true (by omega)) (ac (by omega) (ac (by omega) (ac (by (rw [g]; rfl)) (ac (by omega) (ac (by exact c1) (ac (by omega) (ac (by omega) (ac (by omega) (ac (by omega) (ac (by exact congrArg (PV.int _) (w_i64 rfl (by omega) (by omega))) (ac (by with_reducible rfl) (ac (by with_reducible rfl) (ac (by with_reducible rfl) (ac (by with_reducible rfl) (ac (by with_reducible rfl) (ac (by with_reducible rfl) (ac (by exact congrArg (PV.int _) (by omega)) (ac (by with_reducible rfl) (ao (by with_reducible rfl))))))))))))))))))))) ?_
        exact W_lawB hn (by omega) hp hs hr (n - 1) 1 _ (by omega) (by omega) hh
    · have c5 := pc_mayN hp hm
      unfold lpv
      generalize hn : l.length = n at *
      refine W.ret [((4 : Nat), Ans.dec false), ((7 : Nat), Ans.call false [] [] (PV.st (74 : Nat) [PV.int IntKind.u32 (↑(Prm.lim p) : Int), PV.int IntKind.i64 (Prm.per p), PV.int IntKind.i64 (Prm.sp p), PV.int IntKind.i64 (Prm.fu p), PV.int IntKind.i64 (Prm.cap p), PV.st (68 : Nat) [PV.int IntKind.u32 (↑(Hd.ver (Prm.gen p)) : Int), PV.iarr IntKind.u8 (32 : Nat) (Hd.prev (Prm.gen p)), PV.iarr IntKind.u8 (32 : Nat) (Hd.root (Prm.gen p)), PV.int IntKind.u32 (↑(Hd.time (Prm.gen p)) : Int), PV.int IntKind.u32 (↑(Hd.bits (Prm.gen p)) : Int), PV.int IntKind.u32 (↑(Hd.nonce (Prm.gen p)) : Int)], PV.vec false (PV.iarr IntKind.i64 (nd (Prm.sum p)) (dg (Prm.sum p)))])), ((8 : Nat), Ans.call true [] [] (PV.bool false)), ((11 : Nat), Ans.call true [] [] (PV.bool true))] [] [decide ((↑n : Int) > (30 : Int)) = false, PC Try.prog G0 (19 : Nat) [] [PV.st (77 : Nat) [PV.int IntKind.u32 (↑(Prm.lim p) : Int), PV.int IntKind.i64 (Prm.per p), PV.int IntKind.i64 (Prm.sp p), PV.int IntKind.i64 (Prm.fu p), PV.int IntKind.i64 (Prm.cap p), PV.st (68 : Nat) [PV.int IntKind.u32 (↑(Hd.ver (Prm.gen p)) : Int), PV.iarr IntKind.u8 (32 : Nat) (Hd.prev (Prm.gen p)), PV.iarr IntKind.u8 (32 : Nat) (Hd.root (Prm.gen p)), PV.int IntKind.u32 (↑(Hd.time (Prm.gen p)) : Int), PV.int IntKind.u32 (↑(Hd.bits (Prm.gen p)) : Int), PV.int IntKind.u32 (↑(Hd.nonce (Prm.gen p)) : Int)], PV.iarr IntKind.u64 (4 : Nat) (uw (Prm.sum p))]] [] (PV.st (74 : Nat) [PV.int IntKind.u32 (↑(Prm.lim p) : Int), PV.int IntKind.i64 (Prm.per p), PV.int IntKind.i64 (Prm.sp p), PV.int IntKind.i64 (Prm.fu p), PV.int IntKind.i64 (Prm.cap p), PV.st (68 : Nat) [PV.int IntKind.u32 (↑(Hd.ver (Prm.gen p)) : Int), PV.iarr IntKind.u8 (32 : Nat) (Hd.prev (Prm.gen p)), PV.iarr IntKind.u8 (32 : Nat) (Hd.root (Prm.gen p)), PV.int IntKind.u32 (↑(Hd.time (Prm.gen p)) : Int), PV.int IntKind.u32 (↑(Hd.bits (Prm.gen p)) : Int), PV.int IntKind.u32 (↑(Hd.nonce (Prm.gen p)) : Int)], PV.vec false (PV.iarr IntKind.i64 (nd (Prm.sum p)) (dg (Prm.sum p)))]), PC Try.prog G0 (18 : Nat) [] [PV.st (74 : Nat) [PV.int IntKind.u32 (↑(Prm.lim p) : Int), PV.int IntKind.i64 (Prm.per p), PV.int IntKind.i64 (Prm.sp p), PV.int IntKind.i64 (Prm.fu p), PV.int IntKind.i64 (Prm.cap p), PV.st (68 : Nat) [PV.int IntKind.u32 (↑(Hd.ver (Prm.gen p)) : Int), PV.iarr IntKind.u8 (32 : Nat) (Hd.prev (Prm.gen p)), PV.iarr IntKind.u8 (32 : Nat) (Hd.root (Prm.gen p)), PV.int IntKind.u32 (↑(Hd.time (Prm.gen p)) : Int), PV.int IntKind.u32 (↑(Hd.bits (Prm.gen p)) : Int), PV.int IntKind.u32 (↑(Hd.nonce (Prm.gen p)) : Int)], PV.vec false (PV.iarr IntKind.i64 (nd (Prm.sum p)) (dg (Prm.sum p)))]] [] (PV.bool false), PC Try.prog G0 (20 : Nat) [] [] [] (PV.bool true), PV.bool true = PV.bool true] (by kernel_rfl) (ac (by exact decide_eq_false (by omega)) (ac (by exact c3) (ac (by exact c5) (ac (by exact c4) (ao (by with_reducible rfl))))))
end Go.Proofs
namespace Go.Pe
def laysB (P : Program) (tot : Nat) : Nat → List Field → Bool
  | o, [] => Nat.beq o tot
  | o, f :: l => Nat.beq f.offset o && laysB P tot (o + P.cellsOf f.type) l
def okT (P : Program) : Nat → TypeId → Bool
  | 0, _ => false
  | d + 1, t => match P.underlying t with
    | some .bool | some (.int _) | some .string => Nat.beq (P.cellsOf t) 1
    | some (.struct fs) => laysB P (P.cellsOf t) 0 fs.toList && fs.toList.all fun f => okT P d f.type
    | some (.array n e) => Nat.beq (P.cellsOf t) (n * P.cellsOf e) && szOk P e && okT P d e
    | some (.slice e) => Nat.beq (P.cellsOf t) 1 && szOk P e && okT P d e
    | _ => false
theorem same_refl (k : IntKind) : IntKind.same k k = true := by cases k <;> rfl
theorem beq_refl (s : Sh) : Sh.beq s s = true :=
  Sh.rec (motive_1 := fun s => Sh.beq s s = true) (motive_2 := fun l => Sh.beqL l l = true) rfl same_refl rfl rfl (fun _ _ ih => by simp only [Sh.beq, Bool.and_eq_true]; exact ⟨Nat.beq_refl _, ih⟩)
    (fun k _ => by simp only [Sh.beq, Bool.and_eq_true]; exact ⟨same_refl k, Nat.beq_refl _⟩) (fun _ _ _ ih => by simp only [Sh.beq, Bool.and_eq_true]; exact ⟨⟨Nat.beq_refl _, Nat.beq_refl _⟩, ih⟩)
    (fun _ _ ih => by simp only [Sh.beq, Bool.and_eq_true]; exact ⟨Nat.beq_refl _, ih⟩) rfl (fun _ _ h1 h2 => by simp only [Sh.beqL, Bool.and_eq_true]; exact ⟨h1, h2⟩) s
structure Opens (P : Program) (w : World) (T : T2) (d : Nat) (t : TypeId) (cs : List Value) (p : PV) : Prop where
  conf : conf (shOf P d t) p = true
  wf : WF p
  noref : noref p = true
  untup : untup p = true
  size : size p = P.cellsOf t
  len : cs.length = P.cellsOf t
  agg : Pe.isAgg p = isAggT P t
  rel : ∀ (j : Nat) (q : PV) (u : Value), (flat p)[j]? = some q → cs[j]? = some u → RC w T u q
theorem mapM_get {α β : Type} {g : α → Option β} : ∀ {l : List α} {xs : List β}, l.mapM g = some xs → ∀ i ∈ l, ∃ y, g i = some y
  | [], _, _, i, hi => by cases hi
  | a :: l, xs, h, i, hi => by
    rw [List.mapM_cons] at h
    simp only [Option.bind_eq_bind, Option.bind_eq_some_iff] at h
    obtain ⟨y, hy, ys, hys, _⟩ := h
    rcases List.mem_cons.1 hi with rfl | hi
    · exact ⟨y, hy⟩
    · exact mapM_get hys i hi
theorem flatL_nth {s : Nat} (hs : 0 < s) : ∀ {l : List PV}, WFL l → (∀ q ∈ l, Pe.size q = s) → ∀ {j : Nat} {q : PV}, (flatL l)[j]? = some q → ∃ p, l[j / s]? = some p ∧ (flat p)[j % s]? = some q
  | [], _, _, j, q, h => by simp [flatL] at h
  | p :: l, hw, hz, j, q, h => by
    simp only [WFL] at hw
    have hl : (flat p).length = s := by rw [flat_length p hw.1, hz p (by simp)]
    simp only [flatL] at h
    by_cases hj : j < s
    · rw [List.getElem?_append_left (by omega)] at h
      refine ⟨p, by rw [Nat.div_eq_of_lt hj]; rfl, by rw [Nat.mod_eq_of_lt hj]; exact h⟩
    · rw [List.getElem?_append_right (by omega), hl] at h
      obtain ⟨p', h1, h2⟩ := flatL_nth hs hw.2 (fun q hq => hz q (by simp [hq])) h
      have e : j = (j - s) + s := by omega
      refine ⟨p', ?_, ?_⟩
      · rw [e, Nat.add_div_right _ hs]
        simpa using h1
      · rw [e, Nat.add_mod_right]; exact h2
/-- The row of n elements. -/
def arrOf (P : Program) (d : Nat) (e : TypeId) (l : List PV) : PV := match P.underlying e with
  | some (.int k) => .iarr k l.length (l.map PV.num)
  | _ => .parr (P.cellsOf e) l.length (shOf P d e) l
section
variable {P : Program} {w : World} {T : T2}
theorem shOf_int {d : Nat} {e : TypeId} {k : IntKind} (h : P.underlying e = some (.int k)) : shOf P (d + 1) e = .int k := by simp only [shOf, h]
theorem shOf_slice {d : Nat} {t e : TypeId} (h : P.underlying t = some (.slice e)) : shOf P (d + 1) t = .vec (P.cellsOf e) (shOf P d e) := by simp only [shOf, h]
theorem arrOf_spec {d : Nat} {e : TypeId} {l : List PV} (hok : okT P d e = true) (hl : ∀ q ∈ l, Pe.conf (shOf P d e) q = true ∧ WF q ∧ Pe.noref q = true ∧ Pe.untup q = true ∧ Pe.size q = P.cellsOf e) :
    WF (arrOf P d e l) ∧ isArr (arrOf P d e l) = true ∧ arrLen (arrOf P d e l) = l.length ∧ elSize (arrOf P d e l) = P.cellsOf e ∧ Pe.untup (arrOf P d e l) = true ∧ flat (arrOf P d e l) = flatL l ∧ Pe.size (arrOf P d e l) = l.length * P.cellsOf e := by
  have hut : untupL l = true := by
    clear hok
    induction l with
    | nil => rfl
    | cons p l ih =>
      simp only [untupL, Bool.and_eq_true]
      exact ⟨(hl p (by simp)).2.2.2.1, ih fun q hq => hl q (by simp [hq])⟩
  unfold arrOf
  split
  · rename_i k hu
    obtain ⟨d', rfl⟩ : ∃ d', d = d' + 1 := by cases d with
      | zero => simp [okT] at hok
      | succ d => exact ⟨d, rfl⟩
    have h1 : P.cellsOf e = 1 := by
      simp only [okT, hu] at hok
      exact Nat.eq_of_beq_eq_true hok
    have hq : ∀ q ∈ l, ∃ x, q = .int k x ∧ k.wrap x = x := by
      intro q hq
      have := hl q hq
      rw [shOf_int hu] at this
      cases q <;> simp only [Pe.conf, reduceCtorEq, false_and] at this
      rename_i k' x
      have hk := IntKind.same_eq this.1
      subst hk
      exact ⟨x, rfl, by simpa only [WF] using this.2.1⟩
    have hf : (l.map PV.num).map (PV.int k) = l := by
      rw [List.map_map]
      conv => rhs; rw [← List.map_id l]
      refine List.map_congr_left fun q hql => ?_
      obtain ⟨x, rfl, _⟩ := hq q hql
      rfl
    have hfl : flatL l = l := by
      clear hok hf
      induction l with
      | nil => rfl
      | cons p l ih =>
        obtain ⟨x, rfl, _⟩ := hq p (by simp)
        simp only [flatL, flat]
        rw [ih (by simp only [untupL, Bool.and_eq_true] at hut; exact hut.2) (fun q hq' => hl q (by simp [hq'])) (fun q hq' => hq q (by simp [hq']))]
        rfl
    refine ⟨?_, rfl, rfl, by simp only [elSize]; omega, rfl, by simp only [flat]; rw [hf, hfl], by simp only [Pe.size]; rw [h1, Nat.mul_one]⟩
    simp only [WF, List.length_map, List.mem_map, true_and]
    rintro x ⟨q, hql, rfl⟩
    obtain ⟨x, rfl, hx⟩ := hq q hql
    exact hx
  · refine ⟨?_, rfl, rfl, rfl, by simpa only [Pe.untup] using hut, rfl, rfl⟩
    simp only [WF]
    exact ⟨trivial, WFL_of fun q hq => (hl q hq).2.1, fun q hq => ⟨(hl q hq).2.2.2.2, (hl q hq).1, (hl q hq).2.2.1⟩⟩
theorem opens_array {d n : Nat} {t e : TypeId} {cs : List Value} (hu : P.underlying t = some (.array n e)) (hc : P.cellsOf t = n * P.cellsOf e) (hok : okT P d e = true) (hs : 0 < P.cellsOf e) (hl : cs.length = P.cellsOf t)
    (h : ∀ i, i < n → ∃ p, Opens P w T d e ((cs.drop (i * P.cellsOf e)).take (P.cellsOf e)) p) : ∃ p, Opens P w T (d + 1) t cs p := by
  have hex : ∀ i, ∃ p, i < n → Opens P w T d e ((cs.drop (i * P.cellsOf e)).take (P.cellsOf e)) p := fun i => by
    by_cases hi : i < n
    · obtain ⟨p, hp⟩ := h i hi; exact ⟨p, fun _ => hp⟩
    · exact ⟨.undef, fun h => absurd h hi⟩
  obtain ⟨f, hf⟩ := Classical.axiomOfChoice hex
  have hmem : ∀ q ∈ (List.range n).map f, Pe.conf (shOf P d e) q = true ∧ WF q ∧ Pe.noref q = true ∧ Pe.untup q = true ∧ Pe.size q = P.cellsOf e := by
    intro q hq
    obtain ⟨i, hi, rfl⟩ := List.mem_map.1 hq
    have := hf i (by simpa using hi)
    exact ⟨this.conf, this.wf, this.noref, this.untup, this.size⟩
  obtain ⟨a1, a2, a3, a4, a5, a6, a7⟩ := arrOf_spec hok hmem
  have hlen : ((List.range n).map f).length = n := by simp
  refine ⟨arrOf P d e ((List.range n).map f), ?_, a1, arr_noref a2, a5, by rw [a7, hlen, hc], hl, ?_, fun j q u hq hu' => ?_⟩
  · unfold arrOf
    simp only [shOf, hu]
    cases hk : P.underlying e with
    | none =>
      simp only [Pe.conf, Bool.and_eq_true, hlen]
      exact ⟨⟨Nat.beq_refl _, Nat.beq_refl _⟩, beq_refl _⟩
    | some dsc => cases dsc with
    | int k =>
      simp only [Pe.conf, Bool.and_eq_true, hlen]
      exact ⟨same_refl k, Nat.beq_refl _⟩
    | _ =>
      simp only [Pe.conf, Bool.and_eq_true, hlen]
      exact ⟨⟨Nat.beq_refl _, Nat.beq_refl _⟩, beq_refl _⟩
  · have : Pe.isAgg (arrOf P d e ((List.range n).map f)) = true := by unfold arrOf; split <;> rfl
    rw [this]
    simp only [isAggT, hu]
  · rw [a6] at hq
    have hwl : WFL ((List.range n).map f) := WFL_of fun q hq => (hmem q hq).2.1
    obtain ⟨p, h1, h2⟩ := flatL_nth hs hwl (fun q hq => (hmem q hq).2.2.2.2) hq
    have hjn : j / P.cellsOf e < n := by have := (List.getElem?_eq_some_iff.1 h1).1; simpa using this
    have hp : p = f (j / P.cellsOf e) := by simp [hjn] at h1; exact h1.symm
    subst hp
    refine (hf _ hjn).rel (j % P.cellsOf e) q u h2 ?_
    rw [List.getElem?_take, if_pos (Nat.mod_lt _ hs), List.getElem?_drop, ← hu']
    congr 1
    rw [Nat.mul_comm]
    exact Nat.div_add_mod j (P.cellsOf e)
theorem opens_fields {d tot : Nat} {cs : List Value} (hl : cs.length = tot) : ∀ {fs : List Field} {o : Nat}, laysB P tot o fs = true → (∀ f ∈ fs, okT P d f.type = true ∧ ∃ p, Opens P w T d f.type ((cs.drop f.offset).take (P.cellsOf f.type)) p) →
    ∃ ps, confL (fs.map fun f => shOf P d f.type) ps = true ∧ WFL ps ∧ norefL ps = true ∧ untupL ps = true ∧ o + sizeL ps = tot ∧ ∀ (j : Nat) (q : PV) (u : Value), (flatL ps)[j]? = some q → cs[o + j]? = some u → RC w T u q
  | [], o, h, _ => by
    simp only [laysB] at h
    exact ⟨[], rfl, by simp [WFL], rfl, rfl, by simp only [sizeL]; exact Nat.eq_of_beq_eq_true h, fun j q u hq => by simp [flatL] at hq⟩
  | f :: fs, o, h, hf => by
    simp only [laysB, Bool.and_eq_true] at h
    obtain ⟨h1, h2⟩ := h
    have ho := Nat.eq_of_beq_eq_true h1
    obtain ⟨_, p, hp⟩ := hf f (by simp)
    obtain ⟨ps, g1, g2, g3, g4, g5, g6⟩ := opens_fields hl h2 fun x hx => hf x (by simp [hx])
    refine ⟨p :: ps, by simp only [List.map_cons, confL, Bool.and_eq_true]; exact ⟨hp.conf, g1⟩, by simp only [WFL]; exact ⟨hp.wf, g2⟩, by simp only [norefL, Bool.and_eq_true]; exact ⟨hp.noref, g3⟩, by simp only [untupL, Bool.and_eq_true]; exact ⟨hp.untup, g4⟩, by simp only [sizeL, hp.size]; omega, fun j q u hq hu => ?_⟩
    simp only [flatL] at hq
    have hlp : (flat p).length = P.cellsOf f.type := by rw [flat_length p hp.wf, hp.size]
    by_cases hj : j < P.cellsOf f.type
    · rw [List.getElem?_append_left (by omega)] at hq
      refine hp.rel j q u hq ?_
      rw [List.getElem?_take, if_pos hj, List.getElem?_drop, ho]
      exact hu
    · rw [List.getElem?_append_right (by omega), hlp] at hq
      refine g6 _ q u hq ?_
      rw [← hu]
      congr 1
      omega
end
section
variable {H : Type} {enc : TypeId × Value → H} {P : Program} {w : World} {base : Nat} {spare : Nat → Bool} {held : Bool}
theorem cells?_spec {a : Addr} {n : Nat} {cs : List Value} (h : w.cells? base a n = some cs) : cs.length = n ∧ ∀ j u, cs[j]? = some u → w.cell? (a.add j) = some u := by
  unfold World.cells? at h
  split at h
  · have : ∀ {l : List Nat} {xs : List Value}, l.mapM (fun i => w.cell? (a.add i)) = some xs → xs.length = l.length ∧ ∀ (j : Nat) (i : Nat) (u : Value), l[j]? = some i → xs[j]? = some u → w.cell? (a.add i) = some u := by
      intro l
      induction l with
      | nil => intro xs h; simp at h; subst h; exact ⟨rfl, fun j i u hi => by simp at hi⟩
      | cons b l ih =>
        intro xs h
        rw [List.mapM_cons] at h
        simp only [Option.bind_eq_bind, Option.bind_eq_some_iff, Option.pure_def, Option.some.injEq] at h
        obtain ⟨y, hy, ys, hys, rfl⟩ := h
        obtain ⟨e1, e2⟩ := ih hys
        refine ⟨by simp [e1], fun j i u hi hu => ?_⟩
        cases j with
        | zero => simp at hi hu; subst hi; subst hu; exact hy
        | succ j => simp at hi hu; exact e2 j i u hi hu
    obtain ⟨e1, e2⟩ := this h
    refine ⟨by simpa using e1, fun j u hu => ?_⟩
    have hj : j < n := by have := (List.getElem?_eq_some_iff.1 hu).1; simp at e1; omega
    exact e2 j j u (by simp [hj]) hu
  · cases h
theorem trod_opens : ∀ (d : Nat) (t : TypeId) (fuel : Nat) (cs : List Value) (x : DataW H × List MemPlace), okT P d t = true → DataW.trod enc P w base spare held fuel t cs = some x → ∃ p, Opens P w (fun b _ => b < w.heap.size) d t cs p
  | 0, _, _, _, _, h, _ => by simp [okT] at h
  | d + 1, t, 0, cs, x, _, h => by simp [DataW.trod] at h
  | d + 1, t, fuel + 1, cs, x, hok, h => by
    have hsz : ∀ e, szOk P e = true → 0 < P.cellsOf e := fun e he => Nat.pos_of_ne_zero (szOk_ne he)
    simp only [okT] at hok
    split at hok
    · rename_i hu
      have hc := Nat.eq_of_beq_eq_true hok
      obtain ⟨b, rfl, _⟩ := DataW.trod_bool hu h
      refine ⟨.bool b, by simp only [shOf, hu]; rfl, trivial, rfl, rfl, hc.symm, by rw [hc]; rfl, by simp only [isAggT, hu]; rfl, fun j q u hq hu' => ?_⟩
      cases j with
      | zero => simp [flat] at hq hu'; subst hq; subst hu'; exact .bool b
      | succ j => simp [flat] at hq
    · rename_i k hu
      have hc := Nat.eq_of_beq_eq_true hok
      obtain ⟨n, rfl, _, hwf⟩ := DataW.trod_int hu h
      have hw : k.wrap n = n := by
        rw [wrap_bounds]
        simpa [Lit.wf, IntKind.has] using hwf
      refine ⟨.int k n, by simp only [shOf, hu, conf]; cases k <;> rfl, by simp only [WF]; exact hw, rfl, rfl, hc.symm, by rw [hc]; rfl, by simp only [isAggT, hu]; rfl, fun j q u hq hu' => ?_⟩
      cases j with
      | zero => simp [flat] at hq hu'; subst hq; subst hu'; exact .int k n
      | succ j => simp [flat] at hq
    · rename_i hu
      have hc := Nat.eq_of_beq_eq_true hok
      obtain ⟨s, rfl, _, hs⟩ := DataW.trod_string hu h
      refine ⟨.str s, by simp only [shOf, hu]; rfl, trivial, rfl, rfl, hc.symm, by rw [hc]; rfl, by simp only [isAggT, hu]; rfl, fun j q u hq hu' => ?_⟩
      cases j with
      | zero => simp [flat] at hq hu'; subst hq; subst hu'; exact .str s hs
      | succ j => simp [flat] at hq
    · rename_i fs hu
      simp only [Bool.and_eq_true, List.all_eq_true] at hok
      simp only [DataW.trod, hu] at h
      split at h
      · rename_i hl
        simp only [Option.map_eq_some_iff] at h
        obtain ⟨xs, hxs, _⟩ := h
        obtain ⟨ps, g1, g2, g3, g4, g5, g6⟩ := opens_fields (P := P) (w := w) (T := fun b _ => b < w.heap.size) (d := d) hl hok.1 (fun f hf => ⟨hok.2 f hf, by
          obtain ⟨y, hy⟩ := mapM_get hxs f hf
          exact trod_opens d f.type fuel _ y (hok.2 f hf) hy⟩)
        refine ⟨.st (P.cellsOf t) ps, by simp only [shOf, hu, conf, Bool.and_eq_true]; exact ⟨Nat.beq_refl _, g1⟩, by simp only [WF]; exact ⟨by omega, g2⟩, by simp only [noref]; exact g3, by simp only [untup]; exact g4, rfl, hl, by simp only [isAggT, hu]; rfl, fun j q u hq hu' => ?_⟩
        simp only [flat] at hq
        exact g6 j q u hq (by rw [Nat.zero_add]; exact hu')
      · cases h
    · rename_i n e hu
      simp only [Bool.and_eq_true] at hok
      have hc := Nat.eq_of_beq_eq_true hok.1.1
      simp only [DataW.trod, hu] at h
      split at h
      · rename_i hl
        simp only [Option.map_eq_some_iff] at h
        obtain ⟨xs, hxs, _⟩ := h
        exact opens_array hu hc hok.2 (hsz e hok.1.2) hl fun i hi => by
          obtain ⟨y, hy⟩ := mapM_get hxs i (by simpa using hi)
          exact trod_opens d e fuel _ y hok.2 hy
      · cases h
    · rename_i e hu
      simp only [Bool.and_eq_true] at hok
      have hc := Nat.eq_of_beq_eq_true hok.1.1
      have hpos := hsz e hok.1.2
      have hone : ∀ (v : Value) (c : PV) (nl : Bool), cs = [v] → WF (.vec nl c) → Pe.conf (shOf P (d + 1) t) (.vec nl c) = true → RC w (fun b _ => b < w.heap.size) v (.vec nl c) → ∃ p, Opens P w (fun b _ => b < w.heap.size) (d + 1) t cs p := by
        rintro v c nl rfl h1 h2 h3
        refine ⟨.vec nl c, h2, h1, rfl, rfl, hc.symm, by rw [hc]; rfl, by simp only [isAggT, hu]; rfl, fun j q u hq hu' => ?_⟩
        cases j with
        | zero => simp [flat] at hq hu'; subst hq; subst hu'; exact h3
        | succ j => simp [flat] at hq
      have hshape : ∀ l : List PV, ∀ nl, Pe.conf (shOf P (d + 1) t) (.vec nl (arrOf P d e l)) = true := by
        intro l nl
        obtain ⟨d', rfl⟩ : ∃ d', d = d' + 1 := by cases d with
          | zero => simp [okT] at hok
          | succ d => exact ⟨d, rfl⟩
        have hsh : shOf P (d' + 1 + 1) t = .vec (P.cellsOf e) (shOf P (d' + 1) e) := shOf_slice hu
        rw [hsh]
        by_cases hk : ∃ k, P.underlying e = some (.int k)
        · obtain ⟨k, hk⟩ := hk
          have : arrOf P (d' + 1) e l = .iarr k l.length (l.map PV.num) := by simp only [arrOf, hk]
          rw [this, shOf_int hk]
          simp only [Pe.conf]
          exact same_refl k
        · have : arrOf P (d' + 1) e l = .parr (P.cellsOf e) l.length (shOf P (d' + 1) e) l := by
            unfold arrOf
            split
            · rename_i k hk'; exact absurd ⟨k, hk'⟩ hk
            · rfl
          rw [this]
          have hni : Sh.isInt (shOf P (d' + 1) e) = false := by
            cases he : P.underlying e with
            | none => simp only [shOf, he, Sh.isInt]
            | some dsc => cases dsc with
              | int k => exact absurd ⟨k, he⟩ hk
              | array n e' =>
                simp only [shOf, he]
                split <;> rfl
              | _ => simp only [shOf, he, Sh.isInt]
          cases hs2 : shOf P (d' + 1) e with
          | int k => rw [hs2] at hni; simp [Sh.isInt] at hni
          | _ => simp only [Pe.conf, Bool.and_eq_true, Sh.isInt, Bool.not_false, true_and]; exact ⟨Nat.beq_refl _, beq_refl _⟩
      rcases DataW.trod_slice hu h with ⟨hx, _⟩ | ⟨a, len, cap, elems, rest, n, hf, hx, _, _, h1, h2, h3, h4, _⟩
      · obtain ⟨a1, a2, a3, _⟩ := arrOf_spec (P := P) (d := d) (e := e) (l := []) hok.2 (fun q hq => by cases hq)
        exact hone _ (arrOf P d e []) true hx (by simp only [WF]; exact ⟨a1, a2, fun _ => a3⟩) (hshape [] true) (.vec0 _ _ _ _ a3 rfl (fun _ => rfl))
      · have hfu : n = fuel := by omega
        subst hfu
        have hex : ∀ i, ∃ p, i < len → ∃ cs', w.cells? base (a.add (i * P.cellsOf e)) (P.cellsOf e) = some cs' ∧ Opens P w (fun b _ => b < w.heap.size) d e cs' p := fun i => by
          by_cases hi : i < len
          · have := h4 i hi
            rw [List.getElem?_eq_getElem (by omega), Option.bind_eq_some_iff] at this
            obtain ⟨cs', c1, c2⟩ := this
            obtain ⟨p, hp⟩ := trod_opens d e n cs' _ hok.2 c2
            exact ⟨p, fun _ => ⟨cs', c1, hp⟩⟩
          · exact ⟨.undef, fun h => absurd h hi⟩
        obtain ⟨f, hf⟩ := Classical.axiomOfChoice hex
        have hmem : ∀ q ∈ (List.range len).map f, Pe.conf (shOf P d e) q = true ∧ WF q ∧ Pe.noref q = true ∧ Pe.untup q = true ∧ Pe.size q = P.cellsOf e := by
          intro q hq
          obtain ⟨i, hi, rfl⟩ := List.mem_map.1 hq
          obtain ⟨cs', _, hp⟩ := hf i (by simpa using hi)
          exact ⟨hp.conf, hp.wf, hp.noref, hp.untup, hp.size⟩
        obtain ⟨a1, a2, a3, a4, a5, a6, a7⟩ := arrOf_spec hok.2 hmem
        have hlen : ((List.range len).map f).length = len := by simp
        rw [hlen] at a3
        rcases Nat.eq_zero_or_pos len with h0 | h0
        · subst h0
          exact hone _ (arrOf P d e ((List.range 0).map f)) false hx (by simp only [WF]; exact ⟨a1, a2, fun e => by cases e⟩) (hshape _ false) (.vec0 _ _ _ _ a3 rfl (fun e => by cases e))
        · have hsp : a.spot = none := by
            obtain ⟨cs', c1, hp⟩ := hf 0 h0
            obtain ⟨e1, e2⟩ := cells?_spec c1
            have := e2 0 cs'[0] (List.getElem?_eq_getElem (by omega))
            unfold World.cell? at this
            split at this
            · split at this
              · cases this
              · rename_i hs
                simpa [Addr.add] using hs
            · cases this
          obtain ⟨bk, o, sp⟩ := a
          simp only at hsp
          subst hsp
          have hcell : ∀ j, ∃ u, ∀ q, (flat (arrOf P d e ((List.range len).map f)))[j]? = some q → w.cell? ⟨bk, o + j, none⟩ = some u ∧ RC w (fun b _ => b < w.heap.size) u q := by
            intro j
            cases hj : (flat (arrOf P d e ((List.range len).map f)))[j]? with
            | none => exact ⟨Go.undef, fun q hq => by cases hq⟩
            | some q =>
              rw [a6] at hj
              obtain ⟨p, p1, p2⟩ := flatL_nth hpos (WFL_of fun q hq => (hmem q hq).2.1) (fun q hq => (hmem q hq).2.2.2.2) hj
              have hjn : j / P.cellsOf e < len := by have := (List.getElem?_eq_some_iff.1 p1).1; simpa using this
              have hp : p = f (j / P.cellsOf e) := by simp [hjn] at p1; exact p1.symm
              subst hp
              obtain ⟨cs', c1, hp⟩ := hf _ hjn
              obtain ⟨e1, e2⟩ := cells?_spec c1
              have hm : j % P.cellsOf e < cs'.length := by rw [e1]; exact Nat.mod_lt _ hpos
              refine ⟨cs'[j % P.cellsOf e], fun q' hq' => ?_⟩
              cases hq'
              refine ⟨?_, hp.rel _ q _ p2 (List.getElem?_eq_getElem hm)⟩
              have := e2 _ _ (List.getElem?_eq_getElem hm)
              rw [add_none, add_none] at this
              rw [← this]
              congr 2
              rw [Nat.add_assoc, Nat.mul_comm, Nat.div_add_mod]
          obtain ⟨us, hus⟩ := Classical.axiomOfChoice hcell
          exact hone _ (arrOf P d e ((List.range len).map f)) false hx (by simp only [WF]; exact ⟨a1, a2, fun e => by cases e⟩) (hshape _ false)
            (.vec1 _ _ _ _ _ us a3 h1 h2 (fun j q hq => ⟨lt_of_cell? (hus j q hq).1, (hus j q hq).1⟩) (fun j q hq => (hus j q hq).2))
    · cases hok
end
end Go.Pe
namespace Go.Pe
open Go.ChangeShapes Go.WideShapes Go.ChangeAt Go.RowKit
section
variable {H : Type} {enc : TypeId × Value → H} {P : Program}
theorem post_below {f : Func} {s : ChangeSpec} {apart fresh handsOn again : Bool} {W W' : World} {args : Array Value} {v : Value} {ds gs : List (DataW H)} {before pa pv : List MemPlace}
    (hW : DataW.Whole enc P f.params.toList s.vars apart W args.toList ds gs before)
    (hres : ∀ (b : Nat) (sp : Nat → Bool) (hd : Bool), DataW.TrodAll enc P W' b sp hd f.resultTypes.toList (v.resultList f.resultTypes.size) (s.fn H (ds ++ gs)).results [])
    (hargs : ∀ sp : Nat → Bool, (∀ p ∈ before, sp p.block = true) → DataW.TrodAll enc P W' 0 sp true f.params.toList args.toList (s.fn H (ds ++ gs)).args pa)
    (hvars : ∀ sp : Nat → Bool, (∀ p ∈ before, sp p.block = true) → DataW.TrodVars enc P W' sp s.vars (s.fn H (ds ++ gs)).vars pv)
    (hps : before = pa ++ pv) (hb : Below W.heap.size W W')
    (hok : ∀ (j : Nat) (t : TypeId) (r : Value), f.resultTypes[j]? = some t → (v.resultList f.resultTypes.size)[j]? = some r → Value.okWide P W' .any 0 t r) :
    s.post enc P f apart fresh handsOn again W args v W' := by
  have hlt : ∀ p ∈ before, p.block < W.heap.size := fun p hp => hW.lt p hp
  have hold : ∀ p ∈ before, (fun b => decide (b < W.heap.size)) p.block = true := fun p hp => by simpa using hlt p hp
  refine ⟨ds, gs, before, [], pa, pv, hW, hres _ _ _, hargs _ hold, hvars _ hold, World.keptBut_mono (fun p hp => ⟨hp, ?_⟩) (hb.frame (· ∈ before)), fun _ => ?_⟩
  · rw [hps, List.mem_append] at hp
    exact Or.inr hp
  · obtain ⟨_, _, _, _, _, hz, hn⟩ := hW
    refine ⟨hok, _, _, ([] ++ pa) ++ pv, ⟨[] ++ pa, pv, trodAll_append (hargs _ (fun _ _ => rfl)) (hres _ _ _), hvars _ (fun _ _ => rfl), rfl, ?_, ?_⟩, ?_⟩
    · intro b off hp
      have hin : MemPlace.cell b off ∈ before := by rw [hps]; simpa using hp
      rw [hb.frozen (hlt _ hin)]
      exact hz b off hin
    · intro ha
      have := hn ha
      rw [hps] at this
      simpa using this
    · intro p hp _
      rw [hps]
      simpa using hp
theorem trodAll_stays (hl : laidOutB P = true) {W W' : World} (hb : Below W.heap.size W W') {sp : Nat → Bool} : ∀ {ts : List TypeId} {vs : List Value} {ds : List (DataW H)} {ps : List MemPlace}, (∀ t ∈ ts, P.readableRec t = true ∧ t < P.types.size) →
    DataW.TrodAll enc P W 0 (fun _ => true) true ts vs ds ps → (∀ p ∈ ps, sp p.block = true) → DataW.TrodAll enc P W' 0 sp true ts vs ds ps
  | [], [], [], _, _, h, _ => h
  | t :: ts, v :: vs, d :: ds, ps, ht, h, hs => by
    have hlt := h.lt
    obtain ⟨p, q, h1, h2, rfl⟩ := h
    exact ⟨p, q, WideElems.Trod_stays hl (ht t (by simp)).1 (ht t (by simp)).2 h1 (fun x hx => hb.same (hlt x (by simp [hx]))) (fun x hx => hs x (by simp [hx])),
      trodAll_stays hl hb (fun t ht' => ht t (by simp [ht'])) h2 (fun x hx => hs x (by simp [hx])), rfl⟩
  | [], _ :: _, _, _, _, h, _ => by simp [DataW.TrodAll] at h
  | [], [], _ :: _, _, _, h, _ => by simp [DataW.TrodAll] at h
  | _ :: _, [], _, _, _, h, _ => by simp [DataW.TrodAll] at h
  | _ :: _, _ :: _, [], _, _, h, _ => by simp [DataW.TrodAll] at h
/-- What an input's values stand for. -/
structure Ins (P : Program) (ts : List TypeId) (ps : List PV) : Prop where
  conf : confL (ts.map (shOf P 9)) ps = true
  wf : WFL ps
  untup : untupL ps = true
theorem RV_opens {W : World} {base : Nat} {t : TypeId} {v : Value} {p : PV} (hv : Value.okWide P W .any base t v) (h : Opens P W (fun b _ => b < W.heap.size) 9 t v.cells.toList p) : RV W (fun b _ => b < W.heap.size) (fun _ => none) v p := by
  have hnt : ∀ vs, p ≠ .tup vs := fun vs e => by have := h.untup; subst e; simp [Pe.untup] at this
  cases ha : Pe.isAgg p with
  | true =>
    have hat : isAggT P t = true := by rw [← h.agg]; exact ha
    have : ∃ cs, v = .agg cs := by
      unfold isAggT at hat
      unfold Value.okWide at hv
      split at hat
      · rename_i fs hu
        rw [hu] at hv
        obtain ⟨cs, hc, _⟩ := hv
        exact ⟨cs, hc⟩
      · rename_i n e hu
        rw [hu] at hv
        obtain ⟨cs, hc, _⟩ := hv
        exact ⟨cs, hc⟩
      · cases hat
    obtain ⟨cs, rfl⟩ := this
    refine RV.of_agg ha h.wf ⟨cs, rfl, ?_, fun j q u hq hu => RO.of_closed (h.rel j q u hq ?_)⟩
    · have := h.len
      simp only [Value.cells, Array.length_toList] at this
      rw [this, h.size]
    · simpa [Value.cells] using hu
  | false =>
    have hl : Pe.leaf p = true := by rw [Pe.leaf_agg, ha]; rfl
    have hone : v.cells = #[v] := by
      have hnagg : ∀ cs, v ≠ .agg cs := by
        rintro cs rfl
        have hat : isAggT P t = false := by rw [← h.agg]; exact ha
        unfold Value.okWide at hv
        unfold isAggT at hat
        split at hv
        · rename_i fs hu; rw [hu] at hat; cases hat
        · rename_i n e hu; rw [hu] at hat; cases hat
        · unfold Cell.okWide at hv
          split at hv <;> simp_all [Cell.ok]
      cases v <;> first | rfl | exact absurd rfl (hnagg _)
    refine RV.of_leaf hl hnt h.wf (RO.of_closed (h.rel 0 p v (by rw [flat_leaf hl]; rfl) (by rw [hone]; rfl)))
theorem ins_of {W : World} {base : Nat} : ∀ {ts : List TypeId} {vs : List Value} {ds : List (DataW H)} {ps : List MemPlace}, (∀ t ∈ ts, okT P 9 t = true) → (∀ (j : Nat) t v, ts[j]? = some t → vs[j]? = some v → Value.okWide P W .any base t v) →
    DataW.TrodAll enc P W 0 (fun _ => true) true ts vs ds ps → ∃ qs, Ins P ts qs ∧ qs.length = vs.length ∧ ∀ (j : Nat) (p : PV) (v : Value), qs[j]? = some p → vs[j]? = some v → RV W (fun b _ => b < W.heap.size) (fun _ => none) v p
  | [], [], [], _, _, _, _ => ⟨[], ⟨rfl, by simp [WFL], rfl⟩, rfl, fun j p v hp => by simp at hp⟩
  | t :: ts, v :: vs, d :: ds, ps, ht, hv, h => by
    obtain ⟨p, q, ⟨fuel, h1⟩, h2, rfl⟩ := h
    obtain ⟨x, hx⟩ := trod_opens 9 t fuel _ _ (ht t (by simp)) h1
    obtain ⟨qs, g1, g2, g3⟩ := ins_of (fun t' h' => ht t' (by simp [h'])) (fun j t' v' hj hj' => hv (j + 1) t' v' (by simpa using hj) (by simpa using hj')) h2
    refine ⟨x :: qs, ⟨by simp only [List.map_cons, confL, Bool.and_eq_true]; exact ⟨hx.conf, g1.conf⟩, by simp only [WFL]; exact ⟨hx.wf, g1.wf⟩, by simp only [untupL, Bool.and_eq_true]; exact ⟨hx.untup, g1.untup⟩⟩, by simp [g2], fun j p' v' hp hv' => ?_⟩
    cases j with
    | zero =>
      simp at hp hv'
      subst hp; subst hv'
      exact RV_opens (hv 0 t v rfl rfl) hx
    | succ j => simp at hp hv'; exact g3 j p' v' hp hv'
  | [], _ :: _, _, _, _, _, h => by simp [DataW.TrodAll] at h
  | [], [], _ :: _, _, _, _, h => by simp [DataW.TrodAll] at h
  | _ :: _, [], _, _, _, _, h => by simp [DataW.TrodAll] at h
  | _ :: _, _ :: _, [], _, _, _, h => by simp [DataW.TrodAll] at h
theorem below_of_FR {w w' : World} {M : T2} (hM : ∀ b o, ¬ M b o) (h : FR M w w') : Below w.heap.size w w' := by
  refine ⟨h.os, h.tape, h.output, h.size, fun k hk => ?_⟩
  rcases h.block k hk with e | ⟨cs, cs', t, fz, e1, e2, e3, e4⟩
  · exact e.symm
  · rw [e1, e2]
    have : cs' = cs := by
      apply Array.ext_getElem?
      intro i
      exact e4 i (hM k i)
    rw [this]
/-- THE LAW's STEP: whatever the values are, the law's function returns true. -/
theorem law_calls {f : FuncId} {fn : Func} {s : ChangeSpec} {apart fresh handsOn again : Bool} {tb : TypeId} (hl : laidOutB P = true) (hvars : s.vars = []) (hr : fn.resultTypes = #[tb]) (hb : P.underlying tb = some .bool)
    (hbody : hasBody P f) (hspec : ∀ ds : List (DataW H), ds.length = fn.params.toList.length → s.fn H ds = { results := [.lit (.bool true)], args := ds })
    (ht : fn.params.toList.all (fun t => okT P 9 t && P.readableRec t && Nat.blt t P.types.size) = true)
    (hpc : ∀ ps, Ins P fn.params.toList ps → PC P (fun _ => none) f [] ps [] (.bool true))
    {W : World} {base : Nat} {args : Array Value} {ds gs : List (DataW H)} {before : List MemPlace}
    (hval : ∀ (j : Nat) t v, fn.params[j]? = some t → args[j]? = some v → Value.okWide P W .any base t v)
    (hW : DataW.Whole enc P fn.params.toList s.vars apart W args.toList ds gs before) :
    Calls P f args W fun e W' => ∃ v, e = .returned v ∧ s.post enc P fn apart fresh handsOn again W args v W' := by
  have ht' : ∀ t ∈ fn.params.toList, okT P 9 t = true ∧ P.readableRec t = true ∧ t < P.types.size := by
    intro t h
    have := List.all_eq_true.1 ht t h
    simp only [Bool.and_eq_true] at this
    exact ⟨this.1.1, this.1.2, Nat.blt_eq ▸ this.2⟩
  have hW' := hW
  obtain ⟨p, q, hA, hV, rfl, hz, hn⟩ := hW
  rw [hvars] at hV
  obtain ⟨rfl, rfl⟩ := trodVars_none hV
  obtain ⟨l1, l2⟩ := trodAll_length hA
  obtain ⟨qs, g1, g2, g3⟩ := ins_of (base := base) (fun t h => (ht' t h).1) (fun j t v h1 h2 => hval j t v (by rw [← Array.getElem?_toList]; exact h1) (by rw [← Array.getElem?_toList]; exact h2)) hA
  have hM : ∀ b o, ¬ Mut (fun _ => none) (lookR ([] : List (Nat × Row))) b o := by
    rintro b o ⟨i, r, pl, h1, _⟩
    simp [lookR] at h1
  have hc := hpc qs g1
  refine Calls.mono (Enters.calls hbody (hc (fun b _ => b < W.heap.size) (fun _ => none) W args (fun b o _ => hM b o) ⟨fun i r hi => by simp [lookR] at hi, fun i i' r r' pl pl' _ h1 => by simp [lookR] at h1⟩ (fun _ _ => rfl) (fun g c hg => by cases hg)
    (by rw [g2]; simp) (fun j p v hp hv _ => g3 j p v hp (by rw [Array.getElem?_toList]; exact hv)))) fun e W' he => ?_
  obtain ⟨v, ρ', rfl, r1, _, _, r4, _⟩ := he
  have hvb : v = .bool true := by
    have := r1.to_leaf rfl (fun _ e => by cases e)
    simp only [RO] at this
    cases this
    rfl
  subst hvb
  have hbel := below_of_FR hM r4
  have hsp := hspec ds l2
  refine ⟨_, rfl, post_below (pa := p) (pv := []) hW' ?_ ?_ ?_ (by simp) hbel ?_⟩
  · intro b sp hd
    rw [List.append_nil, hsp, hr]
    exact trodAll_mk1 (shut_bool hb true)
  · intro sp hs
    rw [List.append_nil, hsp]
    exact trodAll_stays hl hbel (fun t h => (ht' t h).2) hA (fun x hx => hs x (by simp [hx]))
  · intro sp hs
    rw [List.append_nil, hsp, hvars]
    rfl
  · rw [hr]
    exact ok_one (f := { fn with resultTypes := #[tb] }) rfl rfl (okWide_bool_mk hb true)
end
end Go.Pe
