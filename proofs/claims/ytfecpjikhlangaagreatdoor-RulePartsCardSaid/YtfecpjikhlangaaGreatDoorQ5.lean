/- Merged texts: the pure machine and what the walks show. Conditions: as each statement says. -/
import Derived.Carry
import Derived.ChangeArms
import Derived.ChangeSame
import Derived.ChangeCalls
import Derived.JoinedOf
import Derived.Handed
import Derived.OpenShut
import Derived.RowKit
import Derived.ProofKit
import Derived.Test.YtfecpjikhlangaaGreatDoorQ4
namespace Go.Proofs
open Go Go.Pe Go.Pm
set_option maxRecDepth 100000
set_option linter.unusedVariables false
theorem nextN_lt {t u n l : Nat} (hu : u < W256) : nextN t u n l < W256 := by
  unfold nextN
  split
  · exact hu
  · split
    · decide
    · split
      · exact hu
      · omega
set_option maxHeartbeats 4000000 in
theorem pc_pbitsA {c u first last : Nat} (p s : Int) (hc : c < 4294967296) (hu : u < 4294967296) (hf : first < 4294967296) (hl : last < 4294967296) (h : tgt c = 0) : PC Tryz.prog G0 42 [] [.int .u32 c, .int .u32 u, .int .i64 p, .int .i64 s, .int .u32 first, .int .u32 last] [] (.tup [.int .u32 0, .int .i64 5]) := by
  refine PC.of (fn := Tryz.f42) (c := bodyOf Tryz.f42) Tryz.func42 (by kernel_rfl) (by kernel_rfl) (by kernel_rfl) (by kernel_rfl) ?_
  by_cases h2 : tgt u = 0
  · refine W.ret [(3, aK (PV.tup [B6 4 (uw 0), I6 5])), (11, aK (PV.tup [B6 4 (uw 0), I6 5]))] [] [PC Tryz.prog G0 34 [] [U3 (c:Int)] [] (PV.tup [B6 4 (uw 0), I6 5]), PC Tryz.prog G0 34 [] [U3 (u:Int)] [] (PV.tup [B6 4 (uw 0), I6 5]), rr (PV.tup [U3 0, I6 5])] (by kernel_rfl) (ac (pc_targetN (by first | omega | decide) (by first | omega | decide)) (ac (pc_targetN (by first | omega | decide) (by first | omega | decide)) (ao rfl)))
  · refine W.ret [(3, aK (PV.tup [B6 4 (uw 0), I6 5])), (11, aK (PV.tup [B6 4 (uw (tgt u)), I6 0]))] [] [PC Tryz.prog G0 34 [] [U3 (c:Int)] [] (PV.tup [B6 4 (uw 0), I6 5]), PC Tryz.prog G0 34 [] [U3 (u:Int)] [] (PV.tup [B6 4 (uw (tgt u)), I6 0]), rr (PV.tup [U3 0, I6 5])] (by kernel_rfl) (ac (pc_targetN (by first | omega | decide) (by first | omega | decide)) (ac (pc_targetY (by first | omega | decide) (by first | omega | decide)) (ao rfl)))
set_option maxHeartbeats 4000000 in
theorem pc_pbitsC {c u first last : Nat} (p s : Int) (hc : c < 4294967296) (hu : u < 4294967296) (hf : first < 4294967296) (hl : last < 4294967296) (h : ¬ tgt c = 0) (h2 : ¬ tgt u = 0) : PC Tryz.prog G0 42 [] [.int .u32 c, .int .u32 u, .int .i64 p, .int .i64 s, .int .u32 first, .int .u32 last] [] (.tup [.int .u32 ((cbits (nextN (tgt c) (tgt u) (idealN p s) (lastedN (idealN p s) first last)) : Nat) : Int), .int .i64 0]) := by
  refine PC.of (fn := Tryz.f42) (c := bodyOf Tryz.f42) Tryz.func42 (by kernel_rfl) (by kernel_rfl) (by kernel_rfl) (by kernel_rfl) ?_
  have g1 := pc_next p s (tgt_lt c) (tgt_lt u) (by omega) hf hl
  have g2 := pc_bits (nextN_lt (t := tgt c) (n := idealN p s) (l := lastedN (idealN p s) first last) (tgt_lt u))
  refine W.ret [(3, aK (PV.tup [B6 4 (uw (tgt c)), I6 0])), (11, aK (PV.tup [B6 4 (uw (tgt u)), I6 0])), (30, aK (B6 4 (uw (nextN (tgt c) (tgt u) (idealN p s) (lastedN (idealN p s) first last))))), (31, aK (U3 (↑(cbits (nextN (tgt c) (tgt u) (idealN p s) (lastedN (idealN p s) first last))) : Int)))] [] [PC Tryz.prog G0 34 [] [U3 (c:Int)] [] (PV.tup [B6 4 (uw (tgt c)), I6 0]), PC Tryz.prog G0 34 [] [U3 (u:Int)] [] (PV.tup [B6 4 (uw (tgt u)), I6 0]), PC Tryz.prog G0 65 [] [B6 4 (uw (tgt c)), B6 4 (uw (tgt u)), I6 p, I6 s, U3 (first:Int), U3 (last:Int)] [] (B6 4 (uw (nextN (tgt c) (tgt u) (idealN p s) (lastedN (idealN p s) first last)))), PC Tryz.prog G0 37 [] [B6 4 (uw (nextN (tgt c) (tgt u) (idealN p s) (lastedN (idealN p s) first last)))] [] (U3 (↑(cbits (nextN (tgt c) (tgt u) (idealN p s) (lastedN (idealN p s) first last))) : Int)), rr (PV.tup [U3 (↑(cbits (nextN (tgt c) (tgt u) (idealN p s) (lastedN (idealN p s) first last))) : Int), I6 0])] (by kernel_rfl) (ac (pc_targetY (by first | omega | decide) (by first | omega | decide)) (ac (pc_targetY (by first | omega | decide) (by first | omega | decide)) (ac (g1) (ac (g2) (ao rfl)))))
end Go.Proofs
namespace Go.Proofs
open Go Go.Pe Go.Pm
set_option maxRecDepth 100000
set_option linter.unusedVariables false
theorem pc_bOf1 {w : Nat} (hw : w < 18446744073709551616) : PC Tryz.prog G0 20 [] [.vec false (.iarr .u64 1 [(w : Int)])] [] (bv false w) := by
  have h := pc_bOf (nl := false) (m := 1) (v := w) (ws := [(w : Int)]) (by omega) (by omega) (by simp [wdn, Nat.mod_eq_of_lt hw]) (by simpa using hw)
  exact h
theorem pc_parts {c : Nat} (hc : c < 4294967296) : PC Tryz.prog G0 39 [] [.int .u32 c] [] (.tup [.int .i64 ((c / 16777216 : Nat) : Int), .bool (decide (c / 8388608 % 2 = 1)), .int .i64 ((c % 8388608 : Nat) : Int)]) := by
  refine PC.of (fn := Tryz.f39) (c := bodyOf Tryz.f39) Tryz.func39 (by kernel_rfl) (by kernel_rfl) (by kernel_rfl) (by kernel_rfl) ?_
  refine W.ret [(4, aV (U3 (↑(c / 16777216) : Int))), (5, aV (I6 (↑(c / 16777216) : Int))), (7, aV (U3 (↑(c / 8388608) : Int))), (8, aV (U3 (↑(c / 8388608 % 2) : Int))), (11, aV (U3 (↑(c % 8388608) : Int))), (12, aV (I6 (↑(c % 8388608) : Int)))] [] [U3 (IntKind.wrap .u32 (Int.tdiv (c:Int) (16777216 : Int))) = U3 (↑(c / 16777216) : Int), (16777216 : Int) ≠ (0 : Int), I6 (IntKind.wrap .i64 (↑(c / 16777216) : Int)) = I6 (↑(c / 16777216) : Int), U3 (IntKind.wrap .u32 (Int.tdiv (c:Int) (8388608 : Int))) = U3 (↑(c / 8388608) : Int), (8388608 : Int) ≠ (0 : Int), U3 (Int.tmod (↑(c / 8388608) : Int) (2 : Int)) = U3 (↑(c / 8388608 % 2) : Int), (2 : Int) ≠ (0 : Int), U3 (Int.tmod (c:Int) (8388608 : Int)) = U3 (↑(c % 8388608) : Int), (8388608 : Int) ≠ (0 : Int), I6 (IntKind.wrap .i64 (↑(c % 8388608) : Int)) = I6 (↑(c % 8388608) : Int), PV.tup [I6 (↑(c / 16777216) : Int), PV.bool ((↑(c / 8388608 % 2) : Int) == 1), I6 (↑(c % 8388608) : Int)] = PV.tup [I6 (↑(c / 16777216) : Int), PV.bool (decide (c / 8388608 % 2 = 1)), I6 (↑(c % 8388608) : Int)]] (by kernel_rfl) (ac (cg (w_u32 rfl (by omega) (by omega))) (ac (by omega) (ac (cg (w_i64 rfl (by omega) (by omega))) (ac (cg (w_u32 rfl (by omega) (by omega))) (ac (by omega) (ac (cg rfl) (ac (by omega) (ac (cg rfl) (ac (by omega) (ac (cg (w_i64 rfl (by omega) (by omega))) (ao ?_)))))))))))
  refine congrArg (fun b => PV.tup [_, PV.bool b, _]) ?_
  rw [Bool.eq_iff_iff, beq_iff_eq, decide_eq_true_eq]
  omega
def dsNum (e m : Nat) : DS := ⟨[(3, .int .i64 e), (5, .int .i64 m)], []⟩
theorem W_num : ∀ (k e m : Nat), (e + k = 3 ∨ (k = 0 ∧ 3 ≤ e)) → e < 256 → m < 8388608 →
    W Tryz.prog G0 Tryz.f40 [] [] (bv false (m / 256 ^ k * 2 ^ (8 * (e + k - 3)))) (loopAt Tryz.f40 0) (dsNum e m)
  | 0, e, m, he, he2, hm => by
    have he3 : 3 ≤ e := by omega
    have h1 := pc_bOf1 (w := m) (by omega)
    have h2 := pc_bPow (k := 8 * (e - 3)) (by omega)
    have hn1 : nd m ≤ 100000 := nd_le_of_le (b := 8388608) (by omega) (by decide)
    have hn2 : nd (2 ^ (8 * (e - 3))) ≤ 100000 := by rw [nd_pow]; omega
    have h3 := pc_bMul (na := false) (nb := false) (a := m) (b := 2 ^ (8 * (e - 3))) hn1 hn2
    have hp : 8 * (e : Int) - 24 = ((8 * (e - 3) : Nat) : Int) := by omega
    rw [Nat.pow_zero, Nat.div_one, Nat.add_zero]
    generalize 8 * (e - 3) = p at *
    refine W.ret [(1, aF), (3, aV (U6 (m:Int))), (5, Ans.call false [] [] (PV.vec false (BI (nd m) (dg m)))), (7, aV (I6 ((e:Int) - 3))), (8, aV (I6 (p:Int))), (9, Ans.call false [] [] (PV.vec false (BI (nd (2 ^ p)) (dg (2 ^ p))))), (10, Ans.call false [] [] (PV.vec false (BI (nd (m * 2 ^ p)) (dg (m * 2 ^ p)))))] [] [decide ((e:Int) < 3) = false, U6 (IntKind.wrap .u64 (m:Int)) = U6 (m:Int), 1 ≤ 1, PC Tryz.prog G0 20 [] [PV.vec false (B6 1 [(m:Int)])] [] (PV.vec false (BI (nd m) (dg m))), I6 (IntKind.wrap .i64 ((e:Int) - 3)) = I6 ((e:Int) - 3), I6 (IntKind.wrap .i64 ((8 : Int) * ((e:Int) - 3))) = I6 (p:Int), PC Tryz.prog G0 61 [] [I6 (p:Int)] [] (PV.vec false (BI (nd (2 ^ p)) (dg (2 ^ p)))), PC Tryz.prog G0 63 [] [PV.vec false (BI (nd m) (dg m)), PV.vec false (BI (nd (2 ^ p)) (dg (2 ^ p)))] [] (PV.vec false (BI (nd (m * 2 ^ p)) (dg (m * 2 ^ p)))), rr (PV.vec false (BI (nd (m * 2 ^ p)) (dg (m * 2 ^ p))))] (by kernel_rfl) (ac (decide_eq_false (by omega)) (ac (cg (w_u64 rfl (by omega) (by omega))) (ac (by omega) (ac (h1) (ac (cg (w_i64 rfl (by omega) (by omega))) (ac (cg (w_i64 (by rw [← hp]; omega) (by omega) (by omega))) (ac (h2) (ac (h3) (ao rfl)))))))))
  | k + 1, e, m, he, he2, hm => by
    refine W.seg [(1, aT), (3, aV (I6 (↑(m / 256) : Int))), (6, aV (I6 (↑(e + 1) : Int)))] [] (dsNum (e + 1) (m / 256)) (todo' := loopAt Tryz.f40 0) [decide ((e:Int) < 3) = true, I6 (IntKind.wrap .i64 (Int.tdiv (m:Int) (256 : Int))) = I6 (↑(m / 256) : Int), (256 : Int) ≠ (0 : Int), I6 (IntKind.wrap .i64 ((e:Int) + 1)) = I6 (↑(e + 1) : Int), rr (I6 (↑(e + 1) : Int)), rr (I6 (↑(m / 256) : Int))] (by kernel_rfl) (ac (decide_eq_true (by omega)) (ac (cg (w_i64 rfl (by omega) (by omega))) (ac (by omega) (ac (cg (w_i64 rfl (by omega) (by omega))) (ac rfl (ao rfl)))))) ?_
    have h := W_num k (e + 1) (m / 256) (by omega) (by omega) (by omega)
    rw [Nat.div_div_eq_div_mul, show e + 1 + k = e + (k + 1) by omega] at h
    rw [Nat.pow_succ, Nat.mul_comm (256 ^ k)]
    exact h
/-- a compact's number -/
def num (c : Nat) : Nat := if c / 16777216 ≤ 3 then c % 8388608 / 2 ^ (8 * (3 - c / 16777216)) else c % 8388608 * 2 ^ (8 * (c / 16777216 - 3))
theorem pc_number {c : Nat} (hc : c < 4294967296) : PC Tryz.prog G0 40 [] [.int .u32 c] [] (bv false (num c)) := by
  refine PC.of (fn := Tryz.f40) (c := bodyOf Tryz.f40) Tryz.func40 (by kernel_rfl) (by kernel_rfl) (by kernel_rfl) (by kernel_rfl) ?_
  have hp := pc_parts hc
  refine W.seg [(2, aK (PV.tup [I6 (↑(c / 16777216) : Int), PV.bool (decide (c / 8388608 % 2 = 1)), I6 (↑(c % 8388608) : Int)]))] [] (dsNum (c / 16777216) (c % 8388608)) (todo' := loopAt Tryz.f40 0) [PC Tryz.prog G0 39 [] [U3 (c:Int)] [] (PV.tup [I6 (↑(c / 16777216) : Int), PV.bool (decide (c / 8388608 % 2 = 1)), I6 (↑(c % 8388608) : Int)]), rr (I6 (↑(c / 16777216) : Int)), rr (I6 (↑(c % 8388608) : Int))] (by kernel_rfl) (ac (hp) (ac rfl (ao rfl))) ?_
  have e8 : ∀ k, 256 ^ k = 2 ^ (8 * k) := fun k => by rw [Nat.pow_mul]
  unfold num
  split
  · rename_i h
    have := W_num (3 - c / 16777216) (c / 16777216) (c % 8388608) (by omega) (by omega) (Nat.mod_lt _ (by omega))
    rw [show 8 * (c / 16777216 + (3 - c / 16777216) - 3) = 0 by omega, Nat.pow_zero, Nat.mul_one, e8] at this
    exact this
  · rename_i h
    have := W_num 0 (c / 16777216) (c % 8388608) (by omega) (by omega) (Nat.mod_lt _ (by omega))
    rw [Nat.pow_zero, Nat.div_one, Nat.add_zero] at this
    exact this
theorem blen_mul_pow {m k : Nat} (hm : 0 < m) : blen (m * 2 ^ k) = blen m + k := by
  refine blen_eq ?_ (.inr ?_)
  · rw [Nat.pow_add]; exact Nat.mul_lt_mul_of_pos_right (lt_blen m) (Nat.two_pow_pos k)
  · have h0 : 0 < blen m := by
      apply Nat.pos_of_ne_zero
      intro e
      have := lt_blen m
      rw [e] at this
      omega
    rw [show blen m + k - 1 = (blen m - 1) + k by omega, Nat.pow_add]
    exact Nat.mul_le_mul_right _ (blen_low hm)
theorem tgt_num {c : Nat} : tgt c = if c / 8388608 % 2 = 1 ∨ num c = 0 ∨ 16 < nd (num c) then 0 else num c := by
  have hm : c % 8388608 < 8388608 := Nat.mod_lt _ (by omega)
  have hb : blen (c % 8388608) ≤ 23 := blen_le.2 hm
  have hnd : ∀ v, 16 < nd v ↔ 256 < blen v := fun v => by unfold nd; omega
  unfold tgt num
  by_cases h1 : c / 8388608 % 2 = 1
  · rw [if_pos h1, if_pos (.inl h1)]
  · rw [if_neg h1]
    by_cases h2 : c / 16777216 ≤ 3
    · rw [if_pos h2, if_pos h2]
      split
      · rename_i h
        rcases h with h | h | h
        · exact absurd h h1
        · exact h
        · exfalso
          rw [hnd] at h
          have : blen (c % 8388608 / 2 ^ (8 * (3 - c / 16777216))) ≤ 23 := blen_le.2 (Nat.lt_of_le_of_lt (Nat.div_le_self _ _) hm)
          omega
      · rfl
    · rw [if_neg h2, if_neg h2]
      by_cases h0 : c % 8388608 = 0
      · rw [h0, Nat.zero_mul]
        split <;> split <;> rfl
      · have hp : 0 < c % 8388608 := by omega
        have e := blen_mul_pow (k := 8 * (c / 16777216 - 3)) hp
        have hne : c % 8388608 * 2 ^ (8 * (c / 16777216 - 3)) ≠ 0 := Nat.mul_ne_zero h0 (Nat.ne_of_gt (Nat.two_pow_pos _))
        have hk := hnd (c % 8388608 * 2 ^ (8 * (c / 16777216 - 3)))
        rw [e] at hk
        by_cases h3 : 256 < blen (c % 8388608) + 8 * (c / 16777216 - 3)
        · rw [if_pos h3, if_pos (.inr (.inr (hk.2 h3)))]
        · rw [if_neg h3, if_neg (by rintro (h | h | h); exact h1 h; exact hne h; exact h3 (hk.1 h))]
theorem nd_num {c : Nat} (hc : c < 4294967296) : nd (num c) ≤ 1000 := by
  have hm : c % 8388608 < 8388608 := Nat.mod_lt _ (by omega)
  unfold num
  split
  · exact nd_le_of_le (b := 8388608) (Nat.le_trans (Nat.div_le_self _ _) (Nat.le_of_lt hm)) (by decide)
  · have h1 := nd_mul (c % 8388608) (2 ^ (8 * (c / 16777216 - 3)))
    rw [nd_pow] at h1
    have h2 : nd (c % 8388608) ≤ 2 := nd_le_of_le (b := 8388608) (Nat.le_of_lt hm) (by decide)
    omega
theorem pc_rTargetN {c : Nat} (hc : c < 4294967296) (h : tgt c = 0) : PC Tryz.prog G0 18 [] [.int .u32 c] [] (.tup [bv true 0, .bool false]) := by
  refine PC.of (fn := Tryz.f18) (c := bodyOf Tryz.f18) Tryz.func18 (by kernel_rfl) (by kernel_rfl) (by kernel_rfl) (by kernel_rfl) ?_
  have h1 := pc_parts hc
  have h2 := pc_number hc
  have hn := nd_num hc
  have e := tgt_num (c := c)
  rw [h] at e
  by_cases hs : c / 8388608 % 2 = 1
  · rw [decide_eq_true hs] at h1
    refine W.ret [(3, aK (PV.tup [I6 (↑(c / 16777216) : Int), PV.bool true, I6 (↑(c % 8388608) : Int)])), (12, Ans.call false [] [] (PV.vec false (BI (nd (num c)) (dg (num c)))))] [] [PC Tryz.prog G0 39 [] [U3 (c:Int)] [] (PV.tup [I6 (↑(c / 16777216) : Int), PV.bool true, I6 (↑(c % 8388608) : Int)]), PC Tryz.prog G0 40 [] [U3 (c:Int)] [] (PV.vec false (BI (nd (num c)) (dg (num c)))), PV.tup [PV.vec true (BI 0 []), PV.bool false] = PV.tup [PV.vec true (BI 0 (dg 0)), PV.bool false]] (by kernel_rfl) (ac (h1) (ac (h2) (ao rfl)))
  · rw [decide_eq_false hs] at h1
    by_cases h0 : nd (num c) = 0
    · refine W.ret [(3, aK (PV.tup [I6 (↑(c / 16777216) : Int), PV.bool false, I6 (↑(c % 8388608) : Int)])), (12, Ans.call false [] [] (PV.vec false (BI (nd (num c)) (dg (num c))))), (18, aT)] [] [PC Tryz.prog G0 39 [] [U3 (c:Int)] [] (PV.tup [I6 (↑(c / 16777216) : Int), PV.bool false, I6 (↑(c % 8388608) : Int)]), PC Tryz.prog G0 40 [] [U3 (c:Int)] [] (PV.vec false (BI (nd (num c)) (dg (num c)))), ((↑(nd (num c)) : Int) == (0 : Int)) = true, PV.tup [PV.vec true (BI 0 []), PV.bool false] = PV.tup [PV.vec true (BI 0 (dg 0)), PV.bool false]] (by kernel_rfl) (ac (h1) (ac (h2) (ac (decide_eq_true (by omega)) (ao rfl))))
    · have h16 : 16 < nd (num c) := by
        apply Nat.lt_of_not_le
        intro hle
        rw [if_neg (by rintro (h | h | h); exact hs h; exact h0 (by rw [h]; rfl); omega)] at e
        exact h0 (by rw [← e]; rfl)
      refine W.ret [(3, aK (PV.tup [I6 (↑(c / 16777216) : Int), PV.bool false, I6 (↑(c % 8388608) : Int)])), (12, Ans.call false [] [] (PV.vec false (BI (nd (num c)) (dg (num c))))), (18, aF), (23, aT)] [] [PC Tryz.prog G0 39 [] [U3 (c:Int)] [] (PV.tup [I6 (↑(c / 16777216) : Int), PV.bool false, I6 (↑(c % 8388608) : Int)]), PC Tryz.prog G0 40 [] [U3 (c:Int)] [] (PV.vec false (BI (nd (num c)) (dg (num c)))), ((↑(nd (num c)) : Int) == (0 : Int)) = false, decide ((↑(nd (num c)) : Int) > (16 : Int)) = true, PV.tup [PV.vec true (BI 0 []), PV.bool false] = PV.tup [PV.vec true (BI 0 (dg 0)), PV.bool false]] (by kernel_rfl) (ac (h1) (ac (h2) (ac (decide_eq_false (by omega)) (ac (decide_eq_true (by omega)) (ao rfl)))))
theorem pc_rTargetY {c : Nat} (hc : c < 4294967296) (h : ¬ tgt c = 0) : PC Tryz.prog G0 18 [] [.int .u32 c] [] (.tup [bv false (tgt c), .bool true]) := by
  refine PC.of (fn := Tryz.f18) (c := bodyOf Tryz.f18) Tryz.func18 (by kernel_rfl) (by kernel_rfl) (by kernel_rfl) (by kernel_rfl) ?_
  have h1 := pc_parts hc
  have h2 := pc_number hc
  have hn := nd_num hc
  have e := tgt_num (c := c)
  split at e
  · contradiction
  · rename_i hh
    have hs : ¬ c / 8388608 % 2 = 1 := fun h => hh (.inl h)
    have h0 : nd (num c) ≠ 0 := fun h => hh (.inr (.inl (nd_eq_zero.1 h)))
    have h16 : nd (num c) ≤ 16 := Nat.le_of_not_lt fun h => hh (.inr (.inr h))
    rw [decide_eq_false hs] at h1
    rw [e]
    refine W.ret [(3, aK (PV.tup [I6 (↑(c / 16777216) : Int), PV.bool false, I6 (↑(c % 8388608) : Int)])), (12, Ans.call false [] [] (PV.vec false (BI (nd (num c)) (dg (num c))))), (18, aF), (23, aF)] [] [PC Tryz.prog G0 39 [] [U3 (c:Int)] [] (PV.tup [I6 (↑(c / 16777216) : Int), PV.bool false, I6 (↑(c % 8388608) : Int)]), PC Tryz.prog G0 40 [] [U3 (c:Int)] [] (PV.vec false (BI (nd (num c)) (dg (num c)))), ((↑(nd (num c)) : Int) == (0 : Int)) = false, decide ((↑(nd (num c)) : Int) > (16 : Int)) = false, rr (PV.tup [PV.vec false (BI (nd (num c)) (dg (num c))), PV.bool true])] (by kernel_rfl) (ac (h1) (ac (h2) (ac (decide_eq_false (by omega)) (ac (decide_eq_false (by omega)) (ao rfl)))))
end Go.Proofs
namespace Go.Proofs
open Go Go.Pe Go.Pm
set_option maxRecDepth 100000
set_option linter.unusedVariables false
def dsRb0 (nt : Bool) (t e : Nat) : DS := ⟨[(0, bv nt t), (3, .int .i64 e)], []⟩
def dsRb1 (nm : Bool) (m e i : Nat) : DS := ⟨[(3, .int .i64 e), (4, bv nm m), (5, .int .i64 i)], []⟩
def dsRb2 (nm : Bool) (m e i : Nat) : DS := ⟨[(3, .int .i64 e), (4, bv nm m), (6, .int .i64 i)], []⟩
def dsRb3 (nm : Bool) (m e i : Nat) : DS := ⟨[(3, .int .i64 e), (4, bv nm m), (7, .int .i64 i)], []⟩
theorem nd_small {m : Nat} (h : m < 16777216 * 65536) : nd m ≤ 3 := nd_le_of_le (b := 16777216 * 65536) (Nat.le_of_lt h) (by decide)
theorem W_rb3 {E : Nat} (hE : E ≤ 32) : ∀ (k i m : Nat) (nm : Bool), i + k = 8 → m < 16777216 →
    W Tryz.prog G0 Tryz.f38 [] [] (.int .u32 (((E + 1) * 16777216 + m / 2 ^ k : Nat) : Int)) (loopAt Tryz.f38 3) (dsRb3 nm m E i)
  | 0, i, m, nm, hk, hm => by
    have h1 := pc_bWords (na := nm) (a := m) (by have := nd_small (m := m) (by omega); omega)
    rw [Nat.pow_zero, Nat.div_one]
    refine W.ret [(1, aF), (3, aV (I6 (↑(E + 1) : Int))), (6, aV (U3 (↑(E + 1) : Int))), (7, aV (U3 (↑(16777216 * E + 16777216) : Int))), (9, aK (B6 4 (uw m))), (10, aV (U6 (↑(m % 18446744073709551616) : Int))), (11, aV (U3 (↑(m % 18446744073709551616) : Int))), (12, aV (U3 (↑(16777216 * E + m % 18446744073709551616 + 16777216) : Int)))] [] [decide ((i:Int) < 8) = false, I6 (IntKind.wrap .i64 ((E:Int) + 1)) = I6 (↑(E + 1) : Int), U3 (IntKind.wrap .u32 (↑(E + 1) : Int)) = U3 (↑(E + 1) : Int), U3 (IntKind.wrap .u32 ((↑(E + 1) : Int) * (16777216 : Int))) = U3 (↑(16777216 * E + 16777216) : Int), PC Tryz.prog G0 64 [] [PV.vec nm (BI (nd m) (dg m))] [] (B6 4 (uw m)), U6 (List.getD (uw m) 0 (0 : Int)) = U6 (↑(m % 18446744073709551616) : Int), (0 : Int) ≤ (0 : Int), 0 < (↑(4 : Nat) : Int), U3 (IntKind.wrap .u32 (↑(m % 18446744073709551616) : Int)) = U3 (↑(m % 18446744073709551616) : Int), U3 (IntKind.wrap .u32 ((↑(16777216 * E + 16777216) : Int) + (↑(m % 18446744073709551616) : Int))) = U3 (↑(16777216 * E + m % 18446744073709551616 + 16777216) : Int), U3 (↑(16777216 * E + m % 18446744073709551616 + 16777216) : Int) = U3 (↑((E + 1) * 16777216 + m) : Int)] (by kernel_rfl) (ac (decide_eq_false (by omega)) (ac (cg (w_i64 rfl (by omega) (by omega))) (ac (cg (w_u32 rfl (by omega) (by omega))) (ac (cg (w_u32 (by omega) (by omega) (by omega))) (ac (h1) (ac (cg rfl) (ac (by omega) (ac (by omega) (ac (cg (w_u32 rfl (by omega) (by omega))) (ac (cg (w_u32 (by omega) (by omega) (by omega))) (ao (cg (by omega)))))))))))))
  | k + 1, i, m, nm, hk, hm => by
    have h1 := pc_bHalf (na := nm) (a := m) (by have := nd_small (m := m) (by omega); omega)
    refine W.seg [(1, aT), (3, Ans.call false [] [] (PV.vec false (BI (nd (m / 2)) (dg (m / 2))))), (6, aV (I6 (↑(i + 1) : Int)))] [] (dsRb3 false (m / 2) E (i + 1)) (todo' := loopAt Tryz.f38 3) [decide ((i:Int) < 8) = true, PC Tryz.prog G0 62 [] [PV.vec nm (BI (nd m) (dg m))] [] (PV.vec false (BI (nd (m / 2)) (dg (m / 2)))), I6 (IntKind.wrap .i64 ((i:Int) + 1)) = I6 (↑(i + 1) : Int), rr (I6 (E:Int)), rr (PV.vec false (BI (nd (m / 2)) (dg (m / 2)))), rr (I6 (↑(i + 1) : Int))] (by kernel_rfl) (ac (decide_eq_true (by omega)) (ac (h1) (ac (cg (w_i64 rfl (by omega) (by omega))) (ac rfl (ac rfl (ao rfl)))))) ?_
    have := W_rb3 hE k (i + 1) (m / 2) false (by omega) (by omega)
    rw [Nat.div_div_eq_div_mul, ← Nat.pow_succ'] at this
    exact this
theorem W_rb2 {E : Nat} (hE : E ≤ 32) : ∀ (k i m : Nat) (nm : Bool), (i + k = 3 ∨ (k = 0 ∧ 3 ≤ i)) → i ≤ 32 → m * 256 ^ k < 16777216 →
    W Tryz.prog G0 Tryz.f38 [] [] (.int .u32 ((cbitsOf E (m * 256 ^ k) : Nat) : Int)) (loopAt Tryz.f38 2) (dsRb2 nm m E i)
  | 0, i, m, nm, hk, hi, hm => by
    rw [Nat.pow_zero, Nat.mul_one] at hm ⊢
    have hn := nd_small (m := m) (by omega)
    have h0 := pc_bLess (na := nm) (nb := false) (a := m) (b := 8388608) (by omega) (by decide)
    have e0 : bv false 8388608 = .vec false (.iarr .i64 2 [0, 128]) := by rfl
    rw [e0] at h0
    have h1 := pc_bWords (na := nm) (a := m) (by omega)
    by_cases h : m < 8388608
    · rw [decide_eq_true h] at h0
      refine W.ret [(1, aF), (4, aK (PV.bool true)), (7, aV (U3 (E:Int))), (8, aV (U3 (↑(16777216 * E) : Int))), (10, aK (B6 4 (uw m))), (11, aV (U6 (↑(m % 18446744073709551616) : Int))), (12, aV (U3 (↑(m % 18446744073709551616) : Int))), (13, aV (U3 (↑(16777216 * E + m % 18446744073709551616) : Int)))] [] [decide ((i:Int) < 3) = false, 2 ≤ 2, PC Tryz.prog G0 19 [] [PV.vec nm (BI (nd m) (dg m)), PV.vec false (BI 2 [(0 : Int), (128 : Int)])] [] (PV.bool true), U3 (IntKind.wrap .u32 (E:Int)) = U3 (E:Int), U3 (IntKind.wrap .u32 ((E:Int) * (16777216 : Int))) = U3 (↑(16777216 * E) : Int), PC Tryz.prog G0 64 [] [PV.vec nm (BI (nd m) (dg m))] [] (B6 4 (uw m)), U6 (List.getD (uw m) 0 (0 : Int)) = U6 (↑(m % 18446744073709551616) : Int), (0 : Int) ≤ (0 : Int), 0 < (↑(4 : Nat) : Int), U3 (IntKind.wrap .u32 (↑(m % 18446744073709551616) : Int)) = U3 (↑(m % 18446744073709551616) : Int), U3 (IntKind.wrap .u32 ((↑(16777216 * E) : Int) + (↑(m % 18446744073709551616) : Int))) = U3 (↑(16777216 * E + m % 18446744073709551616) : Int), U3 (↑(16777216 * E + m % 18446744073709551616) : Int) = U3 (↑(cbitsOf E m) : Int)] (by kernel_rfl) (ac (decide_eq_false (by omega)) (ac (by omega) (ac (h0) (ac (cg (w_u32 rfl (by omega) (by omega))) (ac (cg (w_u32 (by omega) (by omega) (by omega))) (ac (h1) (ac (cg rfl) (ac (by omega) (ac (by omega) (ac (cg (w_u32 rfl (by omega) (by omega))) (ac (cg (w_u32 rfl (by omega) (by omega))) (ao ?_))))))))))))
      refine congrArg (fun x : Nat => PV.int .u32 (x : Int)) ?_
      unfold cbitsOf
      rw [if_neg (by omega)]
      omega
    · rw [decide_eq_false h] at h0
      refine W.seg [(1, aF), (4, aK (PV.bool false))] [] (dsRb3 nm m E 0) (todo' := loopAt Tryz.f38 3) [decide ((i:Int) < 3) = false, 2 ≤ 2, PC Tryz.prog G0 19 [] [PV.vec nm (BI (nd m) (dg m)), PV.vec false (BI 2 [(0 : Int), (128 : Int)])] [] (PV.bool false), rr (I6 (E:Int)), rr (PV.vec nm (BI (nd m) (dg m))), I6 0 = I6 (↑(0 : Nat) : Int)] (by kernel_rfl) (ac (decide_eq_false (by omega)) (ac (by omega) (ac (h0) (ac rfl (ac rfl (ao (cg (by omega)))))))) ?_
      have := W_rb3 hE 8 0 m nm (by omega) hm
      unfold cbitsOf
      rw [if_pos (by omega)]
      exact this
  | k + 1, i, m, nm, hk, hi, hm => by
    have hle : m ≤ m * 256 ^ (k + 1) := Nat.le_mul_of_pos_right m (Nat.pow_pos (by omega))
    have hn := nd_small (m := m) (by omega)
    have h1 := pc_bMul (na := nm) (nb := false) (a := m) (b := 256) (by omega) (by decide)
    have e0 : bv false 256 = .vec false (.iarr .i64 1 [256]) := by rfl
    rw [e0] at h1
    refine W.seg [(1, aT), (4, Ans.call false [] [] (PV.vec false (BI (nd (m * 256)) (dg (m * 256))))), (7, aV (I6 (↑(i + 1) : Int)))] [] (dsRb2 false (m * 256) E (i + 1)) (todo' := loopAt Tryz.f38 2) [decide ((i:Int) < 3) = true, 1 ≤ 1, PC Tryz.prog G0 63 [] [PV.vec nm (BI (nd m) (dg m)), PV.vec false (BI 1 [(256 : Int)])] [] (PV.vec false (BI (nd (m * 256)) (dg (m * 256)))), I6 (IntKind.wrap .i64 ((i:Int) + 1)) = I6 (↑(i + 1) : Int), rr (I6 (E:Int)), rr (PV.vec false (BI (nd (m * 256)) (dg (m * 256)))), rr (I6 (↑(i + 1) : Int))] (by kernel_rfl) (ac (decide_eq_true (by omega)) (ac (by omega) (ac (h1) (ac (cg (w_i64 rfl (by omega) (by omega))) (ac rfl (ac rfl (ao rfl))))))) ?_
    have e : m * 256 ^ (k + 1) = m * 256 * 256 ^ k := by rw [Nat.pow_succ, Nat.mul_comm (256 ^ k), Nat.mul_assoc]
    rw [e] at hm ⊢
    exact W_rb2 hE k (i + 1) (m * 256) false (by omega) (by omega) hm
theorem W_rb1 {E : Nat} (hE : E ≤ 32) : ∀ (k i m : Nat) (nm : Bool), i + k = 8 * (E - 3) → nd m ≤ 1000 → m / 2 ^ k * 256 ^ (3 - E) < 16777216 →
    W Tryz.prog G0 Tryz.f38 [] [] (.int .u32 ((cbitsOf E (m / 2 ^ k * 256 ^ (3 - E)) : Nat) : Int)) (loopAt Tryz.f38 1) (dsRb1 nm m E i)
  | 0, i, m, nm, hk, hm, hlt => by
    rw [Nat.pow_zero, Nat.div_one] at hlt ⊢
    refine W.seg [(2, aV (I6 ((E:Int) - 3))), (3, aV (I6 (8 * (E:Int) - 24))), (4, aF)] [] (dsRb2 nm m E E) (todo' := loopAt Tryz.f38 2) [I6 (IntKind.wrap .i64 ((E:Int) - 3)) = I6 ((E:Int) - 3), I6 (IntKind.wrap .i64 ((8 : Int) * ((E:Int) - 3))) = I6 (8 * (E:Int) - 24), decide ((i:Int) < 8 * (E:Int) - 24) = false, rr (I6 (E:Int)), rr (PV.vec nm (BI (nd m) (dg m))), rr (I6 (E:Int))] (by kernel_rfl) (ac (cg (w_i64 rfl (by omega) (by omega))) (ac (cg (w_i64 (by omega) (by omega) (by omega))) (ac (decide_eq_false (by omega)) (ac rfl (ac rfl (ao rfl)))))) ?_
    exact W_rb2 hE (3 - E) E m nm (by omega) hE hlt
  | k + 1, i, m, nm, hk, hm, hlt => by
    have h1 := pc_bHalf (na := nm) (a := m) (by omega)
    refine W.seg [(2, aV (I6 ((E:Int) - 3))), (3, aV (I6 (8 * (E:Int) - 24))), (4, aT), (6, Ans.call false [] [] (PV.vec false (BI (nd (m / 2)) (dg (m / 2))))), (9, aV (I6 (↑(i + 1) : Int)))] [] (dsRb1 false (m / 2) E (i + 1)) (todo' := loopAt Tryz.f38 1) [I6 (IntKind.wrap .i64 ((E:Int) - 3)) = I6 ((E:Int) - 3), I6 (IntKind.wrap .i64 ((8 : Int) * ((E:Int) - 3))) = I6 (8 * (E:Int) - 24), decide ((i:Int) < 8 * (E:Int) - 24) = true, PC Tryz.prog G0 62 [] [PV.vec nm (BI (nd m) (dg m))] [] (PV.vec false (BI (nd (m / 2)) (dg (m / 2)))), I6 (IntKind.wrap .i64 ((i:Int) + 1)) = I6 (↑(i + 1) : Int), rr (I6 (E:Int)), rr (PV.vec false (BI (nd (m / 2)) (dg (m / 2)))), rr (I6 (↑(i + 1) : Int))] (by kernel_rfl) (ac (cg (w_i64 rfl (by omega) (by omega))) (ac (cg (w_i64 (by omega) (by omega) (by omega))) (ac (decide_eq_true (by omega)) (ac (h1) (ac (cg (w_i64 rfl (by omega) (by omega))) (ac rfl (ac rfl (ao rfl)))))))) ?_
    have e : m / 2 ^ (k + 1) = m / 2 / 2 ^ k := by rw [Nat.pow_succ', Nat.div_div_eq_div_mul]
    rw [e] at hlt ⊢
    exact W_rb1 hE k (i + 1) (m / 2) false (by omega) (nd_le_of_le (Nat.div_le_self _ _) hm) hlt
theorem W_rb0 {nt : Bool} {t E : Nat} (hE : E = (blen t + 7) / 8) (hE2 : E ≤ 32) (ht : nd t ≤ 1000) (hlt : t / 2 ^ (8 * (E - 3)) * 256 ^ (3 - E) < 16777216) : ∀ (k e : Nat), e + k = E →
    W Tryz.prog G0 Tryz.f38 [] [] (.int .u32 ((cbitsOf E (t / 2 ^ (8 * (E - 3)) * 256 ^ (3 - E)) : Nat) : Int)) (loopAt Tryz.f38 0) (dsRb0 nt t e)
  | 0, e, hk => by
    have he : e = E := by omega
    subst he
    by_cases h32 : e < 32
    · have h1 := pc_bPow (k := 8 * e) (by omega)
      have h2 := pc_bLess (na := nt) (nb := false) (a := t) (b := 2 ^ (8 * e)) (by omega) (by rw [nd_pow]; omega)
      have hd : t < 2 ^ (8 * e) := blen_le.1 (by omega)
      rw [decide_eq_true hd] at h2
      refine W.seg [(1, aT), (5, aV (I6 (↑(8 * e) : Int))), (6, Ans.call false [] [] (PV.vec false (BI (nd (2 ^ (8 * e))) (dg (2 ^ (8 * e)))))), (7, aK (PV.bool true))] [] (dsRb1 nt t e 0) (todo' := loopAt Tryz.f38 1) [decide ((e:Int) < 32) = true, I6 (IntKind.wrap .i64 (8 * (e:Int))) = I6 (↑(8 * e) : Int), PC Tryz.prog G0 61 [] [I6 (↑(8 * e) : Int)] [] (PV.vec false (BI (nd (2 ^ (8 * e))) (dg (2 ^ (8 * e))))), PC Tryz.prog G0 19 [] [PV.vec nt (BI (nd t) (dg t)), PV.vec false (BI (nd (2 ^ (8 * e))) (dg (2 ^ (8 * e))))] [] (PV.bool true), rr (I6 (e:Int)), rr (PV.vec nt (BI (nd t) (dg t))), I6 0 = I6 (↑(0 : Nat) : Int)] (by kernel_rfl) (ac (decide_eq_true (by omega)) (ac (cg (w_i64 rfl (by omega) (by omega))) (ac (h1) (ac (h2) (ac rfl (ac rfl (ao (cg (by omega))))))))) ?_
      exact W_rb1 hE2 _ 0 t nt (Nat.zero_add _) ht hlt
    · refine W.seg [(1, aF)] [] (dsRb1 nt t e 0) (todo' := loopAt Tryz.f38 1) [decide ((e:Int) < 32) = false, rr (I6 (e:Int)), rr (PV.vec nt (BI (nd t) (dg t))), I6 0 = I6 (↑(0 : Nat) : Int)] (by kernel_rfl) (ac (decide_eq_false (by omega)) (ac rfl (ac rfl (ao (cg (by omega)))))) ?_
      exact W_rb1 hE2 _ 0 t nt (Nat.zero_add _) ht hlt
  | k + 1, e, hk => by
    have h1 := pc_bPow (k := 8 * e) (by omega)
    have h2 := pc_bLess (na := nt) (nb := false) (a := t) (b := 2 ^ (8 * e)) (by omega) (by rw [nd_pow]; omega)
    have hd : ¬ t < 2 ^ (8 * e) := fun h => by have := blen_le.2 h; omega
    rw [decide_eq_false hd] at h2
    refine W.seg [(1, aT), (5, aV (I6 (↑(8 * e) : Int))), (6, Ans.call false [] [] (PV.vec false (BI (nd (2 ^ (8 * e))) (dg (2 ^ (8 * e)))))), (7, aK (PV.bool false)), (11, aV (I6 (↑(e + 1) : Int)))] [] (dsRb0 nt t (e + 1)) (todo' := loopAt Tryz.f38 0) [decide ((e:Int) < 32) = true, I6 (IntKind.wrap .i64 (8 * (e:Int))) = I6 (↑(8 * e) : Int), PC Tryz.prog G0 61 [] [I6 (↑(8 * e) : Int)] [] (PV.vec false (BI (nd (2 ^ (8 * e))) (dg (2 ^ (8 * e))))), PC Tryz.prog G0 19 [] [PV.vec nt (BI (nd t) (dg t)), PV.vec false (BI (nd (2 ^ (8 * e))) (dg (2 ^ (8 * e))))] [] (PV.bool false), I6 (IntKind.wrap .i64 ((e:Int) + 1)) = I6 (↑(e + 1) : Int), rr (PV.vec nt (BI (nd t) (dg t))), rr (I6 (↑(e + 1) : Int))] (by kernel_rfl) (ac (decide_eq_true (by omega)) (ac (cg (w_i64 rfl (by omega) (by omega))) (ac (h1) (ac (h2) (ac (cg (w_i64 rfl (by omega) (by omega))) (ac rfl (ao rfl))))))) ?_
    exact W_rb0 hE hE2 ht hlt k (e + 1) (by omega)
theorem pc_rBits5 {nt : Bool} {t : Nat} (ht : t < W256) : PC Tryz.prog G0 38 [] [bv nt t] [] (.int .u32 ((cbits t : Nat) : Int)) := by
  refine PC.of (fn := Tryz.f38) (c := bodyOf Tryz.f38) Tryz.func38 (by kernel_rfl) (by kernel_rfl) (by kernel_rfl) (by kernel_rfl) ?_
  have hbl : blen t ≤ 256 := blen_le.2 (Nat.lt_of_lt_of_le ht (by decide))
  have hnd : nd t ≤ 16 := nd_W256.2 ht
  have hlt := cm_lt t
  have e : t * 2 ^ (8 * (3 - (blen t + 7) / 8)) / 2 ^ (8 * ((blen t + 7) / 8 - 3)) = t / 2 ^ (8 * ((blen t + 7) / 8 - 3)) * 256 ^ (3 - (blen t + 7) / 8) := by
    rw [show (256 : Nat) = 2 ^ 8 by decide, ← Nat.pow_mul]
    by_cases h3 : (blen t + 7) / 8 ≤ 3
    · rw [show 8 * ((blen t + 7) / 8 - 3) = 0 by omega, Nat.pow_zero, Nat.div_one, Nat.div_one]
    · rw [show 8 * (3 - (blen t + 7) / 8) = 0 by omega, Nat.pow_zero, Nat.mul_one, Nat.mul_one]
  unfold cbits
  rw [e] at hlt ⊢
  refine W.seg [] [] (dsRb0 nt t 0) (todo' := loopAt Tryz.f38 0) [rr (PV.vec nt (BI (nd t) (dg t))), I6 0 = I6 (↑(0 : Nat) : Int)] (by kernel_rfl) (ac rfl (ao (cg (by omega)))) ?_
  exact W_rb0 rfl (by omega) (by omega) hlt _ 0 (Nat.zero_add _)
theorem pc_rHeld18 (x : Int) : PC Tryz.prog G0 92 [] [.int .i64 x] [] (.int .i64 ((clampP x : Nat) : Int)) := by
  refine PC.of (fn := Tryz.f92) (c := bodyOf Tryz.f92) Tryz.func92 (by kernel_rfl) (by kernel_rfl) (by kernel_rfl) (by kernel_rfl) ?_
  have h := clampP_eq x
  rw [← h]
  by_cases h1 : x < 1
  · have e : mn (mx x 1) 65536 = 1 := by unfold mn mx; (repeat' split) <;> omega
    rw [e]
    refine W.ret [(2, aT)] [] [decide (x < (1 : Int)) = true, rr (I6 1)] (by kernel_rfl) (ac (decide_eq_true (by omega)) (ao rfl))
  · by_cases h2 : x > 65536
    · have e : mn (mx x 1) 65536 = 65536 := by unfold mn mx; (repeat' split) <;> omega
      rw [e]
      refine W.ret [(2, aF), (4, aT)] [] [decide (x < (1 : Int)) = false, decide (x > (65536 : Int)) = true, rr (I6 65536)] (by kernel_rfl) (ac (decide_eq_false (by omega)) (ac (decide_eq_true (by omega)) (ao rfl)))
    · have e : mn (mx x 1) 65536 = x := by unfold mn mx; (repeat' split) <;> omega
      rw [e]
      refine W.ret [(2, aF), (4, aF)] [] [decide (x < (1 : Int)) = false, decide (x > (65536 : Int)) = false, rr (I6 x)] (by kernel_rfl) (ac (decide_eq_false (by omega)) (ac (decide_eq_false (by omega)) (ao rfl)))
theorem pc_rLasted {p s : Int} {first last : Nat} (hf : first < 4294967296) (hl : last < 4294967296) : PC Tryz.prog G0 90 [] [.int .i64 p, .int .i64 s, .int .u32 first, .int .u32 last] [] (.int .i64 ((lastedN (idealN p s) first last : Nat) : Int)) := by
  refine PC.of (fn := Tryz.f90) (c := bodyOf Tryz.f90) Tryz.func90 (by kernel_rfl) (by kernel_rfl) (by kernel_rfl) (by kernel_rfl) ?_
  have h1 := idealN_pos p s
  have h2 := idealN_le p s
  have h3 := lastedN_eq (first := first) (last := last) h1
  have c1 := pc_rHeld18 p
  have c2 := pc_rHeld18 s
  have hi : ((clampP p * clampP s : Nat) : Int) = ((idealN p s : Nat) : Int) := rfl
  generalize hres : lastedN (idealN p s) first last = r at *
  generalize idealN p s = n at *
  by_cases g1 : (last : Int) - first < ((n / 4 : Nat) : Int)
  · by_cases g2 : n / 4 < 1
    · refine W.ret [(2, aK (I6 (↑(clampP p) : Int))), (4, aK (I6 (↑(clampP s) : Int))), (5, aV (I6 (n:Int))), (8, aV (I6 (last:Int))), (10, aV (I6 (first:Int))), (11, aV (I6 ((last:Int) - (first:Int)))), (15, aV (I6 (↑(n / 4) : Int))), (16, aT), (18, aV (I6 (↑(n / 4) : Int))), (21, aT), (25, aV (I6 (↑(4 * n) : Int))), (26, aF)] [] [PC Tryz.prog G0 92 [] [I6 p] [] (I6 (↑(clampP p) : Int)), PC Tryz.prog G0 92 [] [I6 s] [] (I6 (↑(clampP s) : Int)), I6 (IntKind.wrap .i64 ((↑(clampP p) : Int) * (↑(clampP s) : Int))) = I6 (n:Int), I6 (IntKind.wrap .i64 (last:Int)) = I6 (last:Int), I6 (IntKind.wrap .i64 (first:Int)) = I6 (first:Int), I6 (IntKind.wrap .i64 ((last:Int) - (first:Int))) = I6 ((last:Int) - (first:Int)), I6 (IntKind.wrap .i64 (Int.tdiv (n:Int) (4 : Int))) = I6 (↑(n / 4) : Int), (4 : Int) ≠ (0 : Int), decide ((last:Int) - (first:Int) < (↑(n / 4) : Int)) = true, I6 (IntKind.wrap .i64 (Int.tdiv (n:Int) (4 : Int))) = I6 (↑(n / 4) : Int), (4 : Int) ≠ (0 : Int), decide ((↑(n / 4) : Int) < 1) = true, I6 (IntKind.wrap .i64 (4 * (n:Int))) = I6 (↑(4 * n) : Int), decide (1 > (↑(4 * n) : Int)) = false, I6 1 = I6 (r:Int)] (by kernel_rfl) (ac (c1) (ac (c2) (ac (cg (w_i64 hi (by omega) (by omega))) (ac (cg (w_i64 rfl (by omega) (by omega))) (ac (cg (w_i64 rfl (by omega) (by omega))) (ac (cg (w_i64 rfl (by omega) (by omega))) (ac (cg (w_i64 rfl (by omega) (by omega))) (ac (by omega) (ac (decide_eq_true (by omega)) (ac (cg (w_i64 rfl (by omega) (by omega))) (ac (by omega) (ac (decide_eq_true (by omega)) (ac (cg (w_i64 rfl (by omega) (by omega))) (ac (decide_eq_false (by omega)) (ao ?_)))))))))))))))
      refine congrArg (PV.int .i64) ?_
      rw [← h3]; unfold mn mx; (repeat' split) <;> omega
    · refine W.ret [(2, aK (I6 (↑(clampP p) : Int))), (4, aK (I6 (↑(clampP s) : Int))), (5, aV (I6 (n:Int))), (8, aV (I6 (last:Int))), (10, aV (I6 (first:Int))), (11, aV (I6 ((last:Int) - (first:Int)))), (15, aV (I6 (↑(n / 4) : Int))), (16, aT), (18, aV (I6 (↑(n / 4) : Int))), (21, aF), (24, aV (I6 (↑(4 * n) : Int))), (25, aF)] [] [PC Tryz.prog G0 92 [] [I6 p] [] (I6 (↑(clampP p) : Int)), PC Tryz.prog G0 92 [] [I6 s] [] (I6 (↑(clampP s) : Int)), I6 (IntKind.wrap .i64 ((↑(clampP p) : Int) * (↑(clampP s) : Int))) = I6 (n:Int), I6 (IntKind.wrap .i64 (last:Int)) = I6 (last:Int), I6 (IntKind.wrap .i64 (first:Int)) = I6 (first:Int), I6 (IntKind.wrap .i64 ((last:Int) - (first:Int))) = I6 ((last:Int) - (first:Int)), I6 (IntKind.wrap .i64 (Int.tdiv (n:Int) (4 : Int))) = I6 (↑(n / 4) : Int), (4 : Int) ≠ (0 : Int), decide ((last:Int) - (first:Int) < (↑(n / 4) : Int)) = true, I6 (IntKind.wrap .i64 (Int.tdiv (n:Int) (4 : Int))) = I6 (↑(n / 4) : Int), (4 : Int) ≠ (0 : Int), decide ((↑(n / 4) : Int) < 1) = false, I6 (IntKind.wrap .i64 (4 * (n:Int))) = I6 (↑(4 * n) : Int), decide ((↑(n / 4) : Int) > (↑(4 * n) : Int)) = false, I6 (↑(n / 4) : Int) = I6 (r:Int)] (by kernel_rfl) (ac (c1) (ac (c2) (ac (cg (w_i64 hi (by omega) (by omega))) (ac (cg (w_i64 rfl (by omega) (by omega))) (ac (cg (w_i64 rfl (by omega) (by omega))) (ac (cg (w_i64 rfl (by omega) (by omega))) (ac (cg (w_i64 rfl (by omega) (by omega))) (ac (by omega) (ac (decide_eq_true (by omega)) (ac (cg (w_i64 rfl (by omega) (by omega))) (ac (by omega) (ac (decide_eq_false (by omega)) (ac (cg (w_i64 rfl (by omega) (by omega))) (ac (decide_eq_false (by omega)) (ao ?_)))))))))))))))
      refine congrArg (PV.int .i64) ?_
      rw [← h3]; unfold mn mx; (repeat' split) <;> omega
  · by_cases g2 : (last : Int) - first < 1
    · refine W.ret [(2, aK (I6 (↑(clampP p) : Int))), (4, aK (I6 (↑(clampP s) : Int))), (5, aV (I6 (n:Int))), (8, aV (I6 (last:Int))), (10, aV (I6 (first:Int))), (11, aV (I6 ((last:Int) - (first:Int)))), (15, aV (I6 (↑(n / 4) : Int))), (16, aF), (18, aT), (22, aV (I6 (↑(4 * n) : Int))), (23, aF)] [] [PC Tryz.prog G0 92 [] [I6 p] [] (I6 (↑(clampP p) : Int)), PC Tryz.prog G0 92 [] [I6 s] [] (I6 (↑(clampP s) : Int)), I6 (IntKind.wrap .i64 ((↑(clampP p) : Int) * (↑(clampP s) : Int))) = I6 (n:Int), I6 (IntKind.wrap .i64 (last:Int)) = I6 (last:Int), I6 (IntKind.wrap .i64 (first:Int)) = I6 (first:Int), I6 (IntKind.wrap .i64 ((last:Int) - (first:Int))) = I6 ((last:Int) - (first:Int)), I6 (IntKind.wrap .i64 (Int.tdiv (n:Int) (4 : Int))) = I6 (↑(n / 4) : Int), (4 : Int) ≠ (0 : Int), decide ((last:Int) - (first:Int) < (↑(n / 4) : Int)) = false, decide ((last:Int) - (first:Int) < 1) = true, I6 (IntKind.wrap .i64 (4 * (n:Int))) = I6 (↑(4 * n) : Int), decide (1 > (↑(4 * n) : Int)) = false, I6 1 = I6 (r:Int)] (by kernel_rfl) (ac (c1) (ac (c2) (ac (cg (w_i64 hi (by omega) (by omega))) (ac (cg (w_i64 rfl (by omega) (by omega))) (ac (cg (w_i64 rfl (by omega) (by omega))) (ac (cg (w_i64 rfl (by omega) (by omega))) (ac (cg (w_i64 rfl (by omega) (by omega))) (ac (by omega) (ac (decide_eq_false (by omega)) (ac (decide_eq_true (by omega)) (ac (cg (w_i64 rfl (by omega) (by omega))) (ac (decide_eq_false (by omega)) (ao ?_)))))))))))))
      refine congrArg (PV.int .i64) ?_
      rw [← h3]; unfold mn mx; (repeat' split) <;> omega
    · by_cases g3 : (last : Int) - first > 4 * (n : Int)
      · refine W.ret [(2, aK (I6 (↑(clampP p) : Int))), (4, aK (I6 (↑(clampP s) : Int))), (5, aV (I6 (n:Int))), (8, aV (I6 (last:Int))), (10, aV (I6 (first:Int))), (11, aV (I6 ((last:Int) - (first:Int)))), (15, aV (I6 (↑(n / 4) : Int))), (16, aF), (18, aF), (21, aV (I6 (↑(4 * n) : Int))), (22, aT), (24, aV (I6 (↑(4 * n) : Int)))] [] [PC Tryz.prog G0 92 [] [I6 p] [] (I6 (↑(clampP p) : Int)), PC Tryz.prog G0 92 [] [I6 s] [] (I6 (↑(clampP s) : Int)), I6 (IntKind.wrap .i64 ((↑(clampP p) : Int) * (↑(clampP s) : Int))) = I6 (n:Int), I6 (IntKind.wrap .i64 (last:Int)) = I6 (last:Int), I6 (IntKind.wrap .i64 (first:Int)) = I6 (first:Int), I6 (IntKind.wrap .i64 ((last:Int) - (first:Int))) = I6 ((last:Int) - (first:Int)), I6 (IntKind.wrap .i64 (Int.tdiv (n:Int) (4 : Int))) = I6 (↑(n / 4) : Int), (4 : Int) ≠ (0 : Int), decide ((last:Int) - (first:Int) < (↑(n / 4) : Int)) = false, decide ((last:Int) - (first:Int) < 1) = false, I6 (IntKind.wrap .i64 (4 * (n:Int))) = I6 (↑(4 * n) : Int), decide ((last:Int) - (first:Int) > (↑(4 * n) : Int)) = true, I6 (IntKind.wrap .i64 (4 * (n:Int))) = I6 (↑(4 * n) : Int), I6 (↑(4 * n) : Int) = I6 (r:Int)] (by kernel_rfl) (ac (c1) (ac (c2) (ac (cg (w_i64 hi (by omega) (by omega))) (ac (cg (w_i64 rfl (by omega) (by omega))) (ac (cg (w_i64 rfl (by omega) (by omega))) (ac (cg (w_i64 rfl (by omega) (by omega))) (ac (cg (w_i64 rfl (by omega) (by omega))) (ac (by omega) (ac (decide_eq_false (by omega)) (ac (decide_eq_false (by omega)) (ac (cg (w_i64 rfl (by omega) (by omega))) (ac (decide_eq_true (by omega)) (ac (cg (w_i64 rfl (by omega) (by omega))) (ao ?_))))))))))))))
        refine congrArg (PV.int .i64) ?_
        rw [← h3]; unfold mn mx; (repeat' split) <;> omega
      · refine W.ret [(2, aK (I6 (↑(clampP p) : Int))), (4, aK (I6 (↑(clampP s) : Int))), (5, aV (I6 (n:Int))), (8, aV (I6 (last:Int))), (10, aV (I6 (first:Int))), (11, aV (I6 ((last:Int) - (first:Int)))), (15, aV (I6 (↑(n / 4) : Int))), (16, aF), (18, aF), (21, aV (I6 (↑(4 * n) : Int))), (22, aF)] [] [PC Tryz.prog G0 92 [] [I6 p] [] (I6 (↑(clampP p) : Int)), PC Tryz.prog G0 92 [] [I6 s] [] (I6 (↑(clampP s) : Int)), I6 (IntKind.wrap .i64 ((↑(clampP p) : Int) * (↑(clampP s) : Int))) = I6 (n:Int), I6 (IntKind.wrap .i64 (last:Int)) = I6 (last:Int), I6 (IntKind.wrap .i64 (first:Int)) = I6 (first:Int), I6 (IntKind.wrap .i64 ((last:Int) - (first:Int))) = I6 ((last:Int) - (first:Int)), I6 (IntKind.wrap .i64 (Int.tdiv (n:Int) (4 : Int))) = I6 (↑(n / 4) : Int), (4 : Int) ≠ (0 : Int), decide ((last:Int) - (first:Int) < (↑(n / 4) : Int)) = false, decide ((last:Int) - (first:Int) < 1) = false, I6 (IntKind.wrap .i64 (4 * (n:Int))) = I6 (↑(4 * n) : Int), decide ((last:Int) - (first:Int) > (↑(4 * n) : Int)) = false, I6 ((last:Int) - (first:Int)) = I6 (r:Int)] (by kernel_rfl) (ac (c1) (ac (c2) (ac (cg (w_i64 hi (by omega) (by omega))) (ac (cg (w_i64 rfl (by omega) (by omega))) (ac (cg (w_i64 rfl (by omega) (by omega))) (ac (cg (w_i64 rfl (by omega) (by omega))) (ac (cg (w_i64 rfl (by omega) (by omega))) (ac (by omega) (ac (decide_eq_false (by omega)) (ac (decide_eq_false (by omega)) (ac (cg (w_i64 rfl (by omega) (by omega))) (ac (decide_eq_false (by omega)) (ao ?_)))))))))))))
        refine congrArg (PV.int .i64) ?_
        rw [← h3]; unfold mn mx; (repeat' split) <;> omega
theorem nextN_eq {t u n l : Nat} (hn : 0 < n) (hu : u < W256) (hu0 : 0 < u) : nextN t u n l = if t * l / n = 0 then (if u < 1 then u else 1) else if u < t * l / n then u else t * l / n := by
  unfold nextN
  by_cases h1 : n ≤ t * l / W256
  · have h2 : W256 ≤ t * l / n := by
      rw [Nat.le_div_iff_mul_le hn]
      rw [Nat.le_div_iff_mul_le W256_pos] at h1
      rw [Nat.mul_comm]
      exact h1
    have h3 := W256_pos
    rw [if_pos h1, if_neg (by omega), if_pos (by omega)]
  · rw [if_neg h1]
    by_cases h2 : t * l / n = 0
    · rw [if_pos h2, if_pos h2]
      rw [if_neg (by omega)]
    · rw [if_neg h2, if_neg h2]
theorem pc_rNext {na : Bool} {t u first last : Nat} (p s : Int) (ht : t < W256) (hu : u < W256) (hu0 : 0 < u) (hf : first < 4294967296) (hl : last < 4294967296) : PC Tryz.prog G0 74 [] [bv na t, bv false u, .int .i64 p, .int .i64 s, .int .u32 first, .int .u32 last] [] (bv false (nextN t u (idealN p s) (lastedN (idealN p s) first last))) := by
  refine PC.of (fn := Tryz.f74) (c := bodyOf Tryz.f74) Tryz.func74 (by kernel_rfl) (by kernel_rfl) (by kernel_rfl) (by kernel_rfl) ?_
  have h1 := idealN_pos p s
  have h2 := idealN_le p s
  have h4 := lastedN_le (n := idealN p s) (first := first) (last := last)
  have c1 := pc_rHeld18 p
  have c2 := pc_rHeld18 s
  have c3 := pc_rLasted (p := p) (s := s) hf hl
  have e := nextN_eq (t := t) (l := lastedN (idealN p s) first last) h1 hu hu0
  rw [e]
  have hi : ((clampP p * clampP s : Nat) : Int) = ((idealN p s : Nat) : Int) := rfl
  generalize hll : lastedN (idealN p s) first last = l at *
  generalize idealN p s = n at *
  have n1 : nd t ≤ 16 := nd_W256.2 ht
  have n2 : nd l ≤ 3 := nd_small (by omega)
  have n3 : nd n ≤ 3 := nd_small (by omega)
  have n4 : nd u ≤ 16 := nd_W256.2 hu
  have c4 := pc_bOf1 (w := l) (by omega)
  have c5 := pc_bOf1 (w := n) (by omega)
  have c6 := pc_bMul (na := na) (nb := false) (a := t) (b := l) (by omega) (by omega)
  have n5 : nd (t * l) ≤ 19 := by have := nd_mul t l; omega
  have c7 := pc_bQuo (na := false) (nb := false) (a := t * l) (b := n) (by omega) (by omega) h1
  have n6 : nd (t * l / n) ≤ 19 := nd_le_of_le (Nat.div_le_self _ _) n5
  have z := nd_eq_zero (v := t * l / n)
  generalize t * l / n = q at *
  by_cases h0 : q = 0
  · rw [decide_eq_true h0] at c7
    rw [if_pos h0, if_neg (by omega)]
    have c8 := pc_bLess (na := false) (nb := false) (a := u) (b := 1) (by omega) (by decide)
    have e1 : bv false 1 = .vec false (.iarr .i64 1 [1]) := by rfl
    rw [decide_eq_false (by omega), e1] at c8
    rw [e1]
    have z0 := z.2 h0
    refine W.ret [(5, aK (I6 (l:Int))), (6, aV (U6 (l:Int))), (8, Ans.call false [] [] (PV.vec false (BI (nd l) (dg l)))), (12, Ans.call false [] [] (PV.vec false (BI (nd (t * l)) (dg (t * l))))), (14, aK (I6 (↑(clampP p) : Int))), (16, aK (I6 (↑(clampP s) : Int))), (17, aV (I6 (n:Int))), (18, aV (U6 (n:Int))), (20, Ans.call false [] [] (PV.vec false (BI (nd n) (dg n)))), (21, Ans.call false [] [] (PV.tup [PV.vec true (BI (nd q) (dg q)), PV.vec (qf (t * l) n 0) (BI (nd (t * l % n)) (dg (t * l % n)))])), (29, aT), (34, aK (PV.bool false))] [] [PC Tryz.prog G0 90 [] [I6 p, I6 s, U3 (first:Int), U3 (last:Int)] [] (I6 (l:Int)), U6 (IntKind.wrap .u64 (l:Int)) = U6 (l:Int), 1 ≤ 1, PC Tryz.prog G0 20 [] [PV.vec false (B6 1 [(l:Int)])] [] (PV.vec false (BI (nd l) (dg l))), PC Tryz.prog G0 63 [] [PV.vec na (BI (nd t) (dg t)), PV.vec false (BI (nd l) (dg l))] [] (PV.vec false (BI (nd (t * l)) (dg (t * l)))), PC Tryz.prog G0 92 [] [I6 p] [] (I6 (↑(clampP p) : Int)), PC Tryz.prog G0 92 [] [I6 s] [] (I6 (↑(clampP s) : Int)), I6 (IntKind.wrap .i64 ((↑(clampP p) : Int) * (↑(clampP s) : Int))) = I6 (n:Int), U6 (IntKind.wrap .u64 (n:Int)) = U6 (n:Int), 1 ≤ 1, PC Tryz.prog G0 20 [] [PV.vec false (B6 1 [(n:Int)])] [] (PV.vec false (BI (nd n) (dg n))), PC Tryz.prog G0 91 [] [PV.vec false (BI (nd (t * l)) (dg (t * l))), PV.vec false (BI (nd n) (dg n))] [] (PV.tup [PV.vec true (BI (nd q) (dg q)), PV.vec (qf (t * l) n 0) (BI (nd (t * l % n)) (dg (t * l % n)))]), ((↑(nd q) : Int) == 0) = true, 1 ≤ 1, PC Tryz.prog G0 19 [] [PV.vec false (BI (nd u) (dg u)), PV.vec false (BI 1 [(1 : Int)])] [] (PV.bool false), 1 ≤ 1, rr (PV.vec false (BI 1 [(1 : Int)]))] (by kernel_rfl) (ac (c3) (ac (cg (w_u64 rfl (by omega) (by omega))) (ac (by omega) (ac (c4) (ac (c6) (ac (c1) (ac (c2) (ac (cg (w_i64 hi (by omega) (by omega))) (ac (cg (w_u64 rfl (by omega) (by omega))) (ac (by omega) (ac (c5) (ac (c7) (ac (decide_eq_true (by omega)) (ac (by omega) (ac (c8) (ac (by omega) (ao rfl)))))))))))))))))
  · rw [decide_eq_false h0] at c7
    rw [if_neg h0]
    have z0 : ¬ nd q = 0 := fun h => h0 (z.1 h)
    have c8 := pc_bLess (na := false) (nb := false) (a := u) (b := q) (by omega) (by omega)
    by_cases hq : u < q
    · rw [decide_eq_true hq] at c8
      rw [if_pos hq]
      refine W.ret [(5, aK (I6 (l:Int))), (6, aV (U6 (l:Int))), (8, Ans.call false [] [] (PV.vec false (BI (nd l) (dg l)))), (12, Ans.call false [] [] (PV.vec false (BI (nd (t * l)) (dg (t * l))))), (14, aK (I6 (↑(clampP p) : Int))), (16, aK (I6 (↑(clampP s) : Int))), (17, aV (I6 (n:Int))), (18, aV (U6 (n:Int))), (20, Ans.call false [] [] (PV.vec false (BI (nd n) (dg n)))), (21, Ans.call false [] [] (PV.tup [PV.vec false (BI (nd q) (dg q)), PV.vec (qf (t * l) n 0) (BI (nd (t * l % n)) (dg (t * l % n)))])), (29, aF), (32, aK (PV.bool true))] [] [PC Tryz.prog G0 90 [] [I6 p, I6 s, U3 (first:Int), U3 (last:Int)] [] (I6 (l:Int)), U6 (IntKind.wrap .u64 (l:Int)) = U6 (l:Int), 1 ≤ 1, PC Tryz.prog G0 20 [] [PV.vec false (B6 1 [(l:Int)])] [] (PV.vec false (BI (nd l) (dg l))), PC Tryz.prog G0 63 [] [PV.vec na (BI (nd t) (dg t)), PV.vec false (BI (nd l) (dg l))] [] (PV.vec false (BI (nd (t * l)) (dg (t * l)))), PC Tryz.prog G0 92 [] [I6 p] [] (I6 (↑(clampP p) : Int)), PC Tryz.prog G0 92 [] [I6 s] [] (I6 (↑(clampP s) : Int)), I6 (IntKind.wrap .i64 ((↑(clampP p) : Int) * (↑(clampP s) : Int))) = I6 (n:Int), U6 (IntKind.wrap .u64 (n:Int)) = U6 (n:Int), 1 ≤ 1, PC Tryz.prog G0 20 [] [PV.vec false (B6 1 [(n:Int)])] [] (PV.vec false (BI (nd n) (dg n))), PC Tryz.prog G0 91 [] [PV.vec false (BI (nd (t * l)) (dg (t * l))), PV.vec false (BI (nd n) (dg n))] [] (PV.tup [PV.vec false (BI (nd q) (dg q)), PV.vec (qf (t * l) n 0) (BI (nd (t * l % n)) (dg (t * l % n)))]), ((↑(nd q) : Int) == 0) = false, PC Tryz.prog G0 19 [] [PV.vec false (BI (nd u) (dg u)), PV.vec false (BI (nd q) (dg q))] [] (PV.bool true), rr (PV.vec false (BI (nd u) (dg u)))] (by kernel_rfl) (ac (c3) (ac (cg (w_u64 rfl (by omega) (by omega))) (ac (by omega) (ac (c4) (ac (c6) (ac (c1) (ac (c2) (ac (cg (w_i64 hi (by omega) (by omega))) (ac (cg (w_u64 rfl (by omega) (by omega))) (ac (by omega) (ac (c5) (ac (c7) (ac (decide_eq_false (by omega)) (ac (c8) (ao rfl)))))))))))))))
    · rw [decide_eq_false hq] at c8
      rw [if_neg hq]
      refine W.ret [(5, aK (I6 (l:Int))), (6, aV (U6 (l:Int))), (8, Ans.call false [] [] (PV.vec false (BI (nd l) (dg l)))), (12, Ans.call false [] [] (PV.vec false (BI (nd (t * l)) (dg (t * l))))), (14, aK (I6 (↑(clampP p) : Int))), (16, aK (I6 (↑(clampP s) : Int))), (17, aV (I6 (n:Int))), (18, aV (U6 (n:Int))), (20, Ans.call false [] [] (PV.vec false (BI (nd n) (dg n)))), (21, Ans.call false [] [] (PV.tup [PV.vec false (BI (nd q) (dg q)), PV.vec (qf (t * l) n 0) (BI (nd (t * l % n)) (dg (t * l % n)))])), (29, aF), (32, aK (PV.bool false))] [] [PC Tryz.prog G0 90 [] [I6 p, I6 s, U3 (first:Int), U3 (last:Int)] [] (I6 (l:Int)), U6 (IntKind.wrap .u64 (l:Int)) = U6 (l:Int), 1 ≤ 1, PC Tryz.prog G0 20 [] [PV.vec false (B6 1 [(l:Int)])] [] (PV.vec false (BI (nd l) (dg l))), PC Tryz.prog G0 63 [] [PV.vec na (BI (nd t) (dg t)), PV.vec false (BI (nd l) (dg l))] [] (PV.vec false (BI (nd (t * l)) (dg (t * l)))), PC Tryz.prog G0 92 [] [I6 p] [] (I6 (↑(clampP p) : Int)), PC Tryz.prog G0 92 [] [I6 s] [] (I6 (↑(clampP s) : Int)), I6 (IntKind.wrap .i64 ((↑(clampP p) : Int) * (↑(clampP s) : Int))) = I6 (n:Int), U6 (IntKind.wrap .u64 (n:Int)) = U6 (n:Int), 1 ≤ 1, PC Tryz.prog G0 20 [] [PV.vec false (B6 1 [(n:Int)])] [] (PV.vec false (BI (nd n) (dg n))), PC Tryz.prog G0 91 [] [PV.vec false (BI (nd (t * l)) (dg (t * l))), PV.vec false (BI (nd n) (dg n))] [] (PV.tup [PV.vec false (BI (nd q) (dg q)), PV.vec (qf (t * l) n 0) (BI (nd (t * l % n)) (dg (t * l % n)))]), ((↑(nd q) : Int) == 0) = false, PC Tryz.prog G0 19 [] [PV.vec false (BI (nd u) (dg u)), PV.vec false (BI (nd q) (dg q))] [] (PV.bool false), rr (PV.vec false (BI (nd q) (dg q)))] (by kernel_rfl) (ac (c3) (ac (cg (w_u64 rfl (by omega) (by omega))) (ac (by omega) (ac (c4) (ac (c6) (ac (c1) (ac (c2) (ac (cg (w_i64 hi (by omega) (by omega))) (ac (cg (w_u64 rfl (by omega) (by omega))) (ac (by omega) (ac (c5) (ac (c7) (ac (decide_eq_false (by omega)) (ac (c8) (ao rfl)))))))))))))))
theorem pc_rBits18N {c u first last : Nat} (p s : Int) (hc : c < 4294967296) (hu : u < 4294967296) (h : tgt c = 0 ∨ tgt u = 0) : PC Tryz.prog G0 48 [] [.int .u32 c, .int .u32 u, .int .i64 p, .int .i64 s, .int .u32 first, .int .u32 last] [] (.tup [.int .u32 0, .bool false]) := by
  refine PC.of (fn := Tryz.f48) (c := bodyOf Tryz.f48) Tryz.func48 (by kernel_rfl) (by kernel_rfl) (by kernel_rfl) (by kernel_rfl) ?_
  by_cases h1 : tgt c = 0
  · by_cases h2 : tgt u = 0
    · refine W.ret [(3, aK (PV.tup [PV.vec true (BI 0 (dg 0)), PV.bool false])), (10, aK (PV.tup [PV.vec true (BI 0 (dg 0)), PV.bool false]))] [] [PC Tryz.prog G0 18 [] [U3 (c:Int)] [] (PV.tup [PV.vec true (BI 0 (dg 0)), PV.bool false]), PC Tryz.prog G0 18 [] [U3 (u:Int)] [] (PV.tup [PV.vec true (BI 0 (dg 0)), PV.bool false]), rr (PV.tup [U3 0, PV.bool false])] (by kernel_rfl) (ac (pc_rTargetN (by first | omega | decide) (by first | omega | decide)) (ac (pc_rTargetN (by first | omega | decide) (by first | omega | decide)) (ao rfl)))
    · refine W.ret [(3, aK (PV.tup [PV.vec true (BI 0 (dg 0)), PV.bool false])), (10, Ans.call false [] [] (PV.tup [PV.vec false (BI (nd (tgt u)) (dg (tgt u))), PV.bool true]))] [] [PC Tryz.prog G0 18 [] [U3 (c:Int)] [] (PV.tup [PV.vec true (BI 0 (dg 0)), PV.bool false]), PC Tryz.prog G0 18 [] [U3 (u:Int)] [] (PV.tup [PV.vec false (BI (nd (tgt u)) (dg (tgt u))), PV.bool true]), rr (PV.tup [U3 0, PV.bool false])] (by kernel_rfl) (ac (pc_rTargetN (by first | omega | decide) (by first | omega | decide)) (ac (pc_rTargetY (by first | omega | decide) (by first | omega | decide)) (ao rfl)))
  · have h2 : tgt u = 0 := by omega
    refine W.ret [(3, Ans.call false [] [] (PV.tup [PV.vec false (BI (nd (tgt c)) (dg (tgt c))), PV.bool true])), (10, aK (PV.tup [PV.vec true (BI 0 (dg 0)), PV.bool false]))] [] [PC Tryz.prog G0 18 [] [U3 (c:Int)] [] (PV.tup [PV.vec false (BI (nd (tgt c)) (dg (tgt c))), PV.bool true]), PC Tryz.prog G0 18 [] [U3 (u:Int)] [] (PV.tup [PV.vec true (BI 0 (dg 0)), PV.bool false]), rr (PV.tup [U3 0, PV.bool false])] (by kernel_rfl) (ac (pc_rTargetY (by first | omega | decide) (by first | omega | decide)) (ac (pc_rTargetN (by first | omega | decide) (by first | omega | decide)) (ao rfl)))
theorem pc_rBits18Y {c u first last : Nat} (p s : Int) (hc : c < 4294967296) (hu : u < 4294967296) (hf : first < 4294967296) (hl : last < 4294967296) (h1 : ¬ tgt c = 0) (h2 : ¬ tgt u = 0) : PC Tryz.prog G0 48 [] [.int .u32 c, .int .u32 u, .int .i64 p, .int .i64 s, .int .u32 first, .int .u32 last] [] (.tup [.int .u32 ((cbits (nextN (tgt c) (tgt u) (idealN p s) (lastedN (idealN p s) first last)) : Nat) : Int), .bool true]) := by
  refine PC.of (fn := Tryz.f48) (c := bodyOf Tryz.f48) Tryz.func48 (by kernel_rfl) (by kernel_rfl) (by kernel_rfl) (by kernel_rfl) ?_
  have g1 := pc_rNext (na := false) p s (tgt_lt c) (tgt_lt u) (by omega) hf hl
  have g2 := pc_rBits5 (nt := false) (nextN_lt (t := tgt c) (n := idealN p s) (l := lastedN (idealN p s) first last) (tgt_lt u))
  refine W.ret [(3, Ans.call false [] [] (PV.tup [PV.vec false (BI (nd (tgt c)) (dg (tgt c))), PV.bool true])), (10, Ans.call false [] [] (PV.tup [PV.vec false (BI (nd (tgt u)) (dg (tgt u))), PV.bool true])), (28, Ans.call false [] [] (PV.vec false (BI (nd (nextN (tgt c) (tgt u) (idealN p s) (lastedN (idealN p s) first last))) (dg (nextN (tgt c) (tgt u) (idealN p s) (lastedN (idealN p s) first last)))))), (29, aK (U3 (↑(cbits (nextN (tgt c) (tgt u) (idealN p s) (lastedN (idealN p s) first last))) : Int)))] [] [PC Tryz.prog G0 18 [] [U3 (c:Int)] [] (PV.tup [PV.vec false (BI (nd (tgt c)) (dg (tgt c))), PV.bool true]), PC Tryz.prog G0 18 [] [U3 (u:Int)] [] (PV.tup [PV.vec false (BI (nd (tgt u)) (dg (tgt u))), PV.bool true]), PC Tryz.prog G0 74 [] [PV.vec false (BI (nd (tgt c)) (dg (tgt c))), PV.vec false (BI (nd (tgt u)) (dg (tgt u))), I6 p, I6 s, U3 (first:Int), U3 (last:Int)] [] (PV.vec false (BI (nd (nextN (tgt c) (tgt u) (idealN p s) (lastedN (idealN p s) first last))) (dg (nextN (tgt c) (tgt u) (idealN p s) (lastedN (idealN p s) first last))))), PC Tryz.prog G0 38 [] [PV.vec false (BI (nd (nextN (tgt c) (tgt u) (idealN p s) (lastedN (idealN p s) first last))) (dg (nextN (tgt c) (tgt u) (idealN p s) (lastedN (idealN p s) first last))))] [] (U3 (↑(cbits (nextN (tgt c) (tgt u) (idealN p s) (lastedN (idealN p s) first last))) : Int)), rr (PV.tup [U3 (↑(cbits (nextN (tgt c) (tgt u) (idealN p s) (lastedN (idealN p s) first last))) : Int), PV.bool true])] (by kernel_rfl) (ac (pc_rTargetY (by first | omega | decide) (by first | omega | decide)) (ac (pc_rTargetY (by first | omega | decide) (by first | omega | decide)) (ac (g1) (ac (g2) (ao rfl)))))
end Go.Proofs
namespace Go.Proofs
open Go Go.Pe Go.Pm
set_option maxRecDepth 100000
set_option linter.unusedVariables false
/-- a header -/
structure Hd where
  ver : Nat
  prev : List Int
  root : List Int
  time : Nat
  bits : Nat
  nonce : Nat
def Hd.pv (h : Hd) : PV := .st 68 [.int .u32 h.ver, .iarr .u8 32 h.prev, .iarr .u8 32 h.root, .int .u32 h.time, .int .u32 h.bits, .int .u32 h.nonce]
structure Hd.Ok (h : Hd) : Prop where
  ver : h.ver < 4294967296
  time : h.time < 4294967296
  bits : h.bits < 4294967296
  nonce : h.nonce < 4294967296
  prev : h.prev.length = 32
  root : h.root.length = 32
  prevB : ∀ x ∈ h.prev, 0 ≤ x ∧ x ≤ 255
  rootB : ∀ x ∈ h.root, 0 ≤ x ∧ x ≤ 255
/-- params -/
structure Prm where
  lim : Nat
  per : Int
  sp : Int
  fu : Int
  cap : Int
  gen : Hd
  sum : Nat
def Prm.pv (p : Prm) : PV := .st 77 [.int .u32 p.lim, .int .i64 p.per, .int .i64 p.sp, .int .i64 p.fu, .int .i64 p.cap, p.gen.pv, .iarr .u64 4 (uw p.sum)]
def Prm.rpv (p : Prm) : PV := .st 74 [.int .u32 p.lim, .int .i64 p.per, .int .i64 p.sp, .int .i64 p.fu, .int .i64 p.cap, p.gen.pv, bv false p.sum]
structure Prm.Ok (p : Prm) : Prop where
  lim : p.lim < 4294967296
  gen : p.gen.Ok
  sum : p.sum < W256
/-- may they be? -/
structure Prm.May (p : Prm) : Prop where
  c1 : canon p.lim = true
  c2 : canon p.gen.bits = true
  le : tgt p.gen.bits ≤ tgt p.lim
  per : 1 ≤ p.per ∧ p.per ≤ 65536
  sp : 1 ≤ p.sp ∧ p.sp ≤ 65536
  fu : 0 ≤ p.fu ∧ p.fu ≤ 4294967296
  cap : 1 ≤ p.cap ∧ p.cap ≤ 4096
theorem pc_withinT {x lo hi : Int} (h : lo ≤ x ∧ x ≤ hi) : PC Tryz.prog G0 43 [] [.int .i64 x, .int .i64 lo, .int .i64 hi] [] (.bool true) := by
  refine PC.of (fn := Tryz.f43) (c := bodyOf Tryz.f43) Tryz.func43 (by kernel_rfl) (by kernel_rfl) (by kernel_rfl) (by kernel_rfl) ?_
  refine W.ret [(3, aT), (7, aT)] [] [decide (x ≥ lo) = true, decide (x ≤ hi) = true, rr (PV.bool true)] (by kernel_rfl) (ac (decide_eq_true (by omega)) (ac (decide_eq_true (by omega)) (ao rfl)))
theorem pc_withinF {x lo hi : Int} (h : ¬ (lo ≤ x ∧ x ≤ hi)) : PC Tryz.prog G0 43 [] [.int .i64 x, .int .i64 lo, .int .i64 hi] [] (.bool false) := by
  refine PC.of (fn := Tryz.f43) (c := bodyOf Tryz.f43) Tryz.func43 (by kernel_rfl) (by kernel_rfl) (by kernel_rfl) (by kernel_rfl) ?_
  by_cases h1 : lo ≤ x
  · refine W.ret [(3, aT), (7, aF)] [] [decide (x ≥ lo) = true, decide (x ≤ hi) = false, rr (PV.bool false)] (by kernel_rfl) (ac (decide_eq_true (by omega)) (ac (decide_eq_false (by omega)) (ao rfl)))
  · refine W.ret [(3, aF)] [] [decide (x ≥ lo) = false, rr (PV.bool false)] (by kernel_rfl) (ac (decide_eq_false (by omega)) (ao rfl))
theorem pc_targetE {c : Nat} (hc : c < 4294967296) : ∃ e : Int, PC Tryz.prog G0 34 [] [.int .u32 c] [] (.tup [.iarr .u64 4 (uw (tgt c)), .int .i64 e]) := ⟨_, pc_target hc⟩
theorem cmpN_gt {a b : Nat} (h : b < a) : cmpN a b = 1 := by unfold cmpN; rw [if_neg (by omega), if_pos h]
theorem cmpN_le {a b : Nat} (h : a ≤ b) : ∃ z : Int, cmpN a b = z ∧ z ≤ 0 := ⟨_, rfl, by unfold cmpN; split <;> (try split) <;> omega⟩
set_option maxHeartbeats 4000000 in
theorem pc_checkY {p : Prm} (ho : p.Ok) (h : p.May) : PC Tryz.prog G0 23 [] [p.pv] [] (.int .i64 0) := by
  refine PC.of (fn := Tryz.f23) (c := bodyOf Tryz.f23) Tryz.func23 (by kernel_rfl) (by kernel_rfl) (by kernel_rfl) (by kernel_rfl) ?_
  obtain ⟨e1, g1⟩ := pc_targetE ho.lim
  obtain ⟨e2, g2⟩ := pc_targetE ho.gen.bits
  have g3 := pc_canon ho.lim
  have g4 := pc_canon ho.gen.bits
  rw [h.c1] at g3
  rw [h.c2] at g4
  have g5 := pc_wCmp (tgt_lt p.gen.bits) (tgt_lt p.lim)
  obtain ⟨z, hz, hz0⟩ := cmpN_le h.le
  rw [hz] at g5
  have g6 := pc_withinT h.per
  have g7 := pc_withinT h.sp
  have g8 := pc_withinT h.fu
  have g9 := pc_withinT h.cap
  refine W.ret [(4, aK (PV.tup [B6 4 (uw (tgt (Prm.lim p))), I6 e1])), (14, aK (PV.tup [B6 4 (uw (tgt (Hd.bits (Prm.gen p)))), I6 e2])), (23, aK (PV.bool true)), (29, aK (PV.bool true)), (34, aK (I6 z)), (35, aF), (39, aK (PV.bool true)), (44, aK (PV.bool true)), (49, aK (PV.bool true)), (54, aK (PV.bool true))] [] [PC Tryz.prog G0 34 [] [U3 (↑(Prm.lim p) : Int)] [] (PV.tup [B6 4 (uw (tgt (Prm.lim p))), I6 e1]), PC Tryz.prog G0 34 [] [U3 (↑(Hd.bits (Prm.gen p)) : Int)] [] (PV.tup [B6 4 (uw (tgt (Hd.bits (Prm.gen p)))), I6 e2]), PC Tryz.prog G0 16 [] [U3 (↑(Prm.lim p) : Int)] [] (PV.bool true), PC Tryz.prog G0 16 [] [U3 (↑(Hd.bits (Prm.gen p)) : Int)] [] (PV.bool true), PC Tryz.prog G0 15 [] [B6 4 (uw (tgt (Hd.bits (Prm.gen p)))), B6 4 (uw (tgt (Prm.lim p)))] [] (I6 z), decide (z > (0 : Int)) = false, PC Tryz.prog G0 43 [] [I6 (Prm.per p), I6 1, I6 65536] [] (PV.bool true), PC Tryz.prog G0 43 [] [I6 (Prm.sp p), I6 1, I6 65536] [] (PV.bool true), PC Tryz.prog G0 43 [] [I6 (Prm.fu p), I6 0, I6 4294967296] [] (PV.bool true), PC Tryz.prog G0 43 [] [I6 (Prm.cap p), I6 1, I6 4096] [] (PV.bool true), rr (I6 0)] (by kernel_rfl) (ac (g1) (ac (g2) (ac (g3) (ac (g4) (ac (g5) (ac (decide_eq_false (by omega)) (ac (g6) (ac (g7) (ac (g8) (ac (g9) (ao rfl)))))))))))
set_option maxHeartbeats 4000000 in
theorem pc_checkN {p : Prm} (ho : p.Ok) (h : ¬ p.May) : PC Tryz.prog G0 23 [] [p.pv] [] (.int .i64 1) := by
  refine PC.of (fn := Tryz.f23) (c := bodyOf Tryz.f23) Tryz.func23 (by kernel_rfl) (by kernel_rfl) (by kernel_rfl) (by kernel_rfl) ?_
  obtain ⟨e1, g1⟩ := pc_targetE ho.lim
  obtain ⟨e2, g2⟩ := pc_targetE ho.gen.bits
  have g3 := pc_canon ho.lim
  have g4 := pc_canon ho.gen.bits
  have g5 := pc_wCmp (tgt_lt p.gen.bits) (tgt_lt p.lim)
  by_cases c1 : canon p.lim = true
  · rw [c1] at g3
    by_cases c2 : canon p.gen.bits = true
    · rw [c2] at g4
      by_cases c3 : tgt p.gen.bits ≤ tgt p.lim
      · obtain ⟨z, hz, hz0⟩ := cmpN_le c3
        rw [hz] at g5
        by_cases c4 : 1 ≤ p.per ∧ p.per ≤ 65536
        · have g6 := pc_withinT c4
          by_cases c5 : 1 ≤ p.sp ∧ p.sp ≤ 65536
          · have g7 := pc_withinT c5
            by_cases c6 : 0 ≤ p.fu ∧ p.fu ≤ 4294967296
            · have g8 := pc_withinT c6
              by_cases c7 : 1 ≤ p.cap ∧ p.cap ≤ 4096
              · exact absurd ⟨c1, c2, c3, c4, c5, c6, c7⟩ h
              · have g9 := pc_withinF c7
                refine W.ret [(4, aK (PV.tup [B6 4 (uw (tgt (Prm.lim p))), I6 e1])), (14, aK (PV.tup [B6 4 (uw (tgt (Hd.bits (Prm.gen p)))), I6 e2])), (23, aK (PV.bool true)), (29, aK (PV.bool true)), (34, aK (I6 z)), (35, aF), (39, aK (PV.bool true)), (44, aK (PV.bool true)), (49, aK (PV.bool true)), (54, aK (PV.bool false))] [] [PC Tryz.prog G0 34 [] [U3 (↑(Prm.lim p) : Int)] [] (PV.tup [B6 4 (uw (tgt (Prm.lim p))), I6 e1]), PC Tryz.prog G0 34 [] [U3 (↑(Hd.bits (Prm.gen p)) : Int)] [] (PV.tup [B6 4 (uw (tgt (Hd.bits (Prm.gen p)))), I6 e2]), PC Tryz.prog G0 16 [] [U3 (↑(Prm.lim p) : Int)] [] (PV.bool true), PC Tryz.prog G0 16 [] [U3 (↑(Hd.bits (Prm.gen p)) : Int)] [] (PV.bool true), PC Tryz.prog G0 15 [] [B6 4 (uw (tgt (Hd.bits (Prm.gen p)))), B6 4 (uw (tgt (Prm.lim p)))] [] (I6 z), decide (z > (0 : Int)) = false, PC Tryz.prog G0 43 [] [I6 (Prm.per p), I6 1, I6 65536] [] (PV.bool true), PC Tryz.prog G0 43 [] [I6 (Prm.sp p), I6 1, I6 65536] [] (PV.bool true), PC Tryz.prog G0 43 [] [I6 (Prm.fu p), I6 0, I6 4294967296] [] (PV.bool true), PC Tryz.prog G0 43 [] [I6 (Prm.cap p), I6 1, I6 4096] [] (PV.bool false), rr (I6 1)] (by kernel_rfl) (ac (g1) (ac (g2) (ac (g3) (ac (g4) (ac (g5) (ac (decide_eq_false (by omega)) (ac (g6) (ac (g7) (ac (g8) (ac (g9) (ao rfl)))))))))))
            · have g8 := pc_withinF c6
              refine W.ret [(4, aK (PV.tup [B6 4 (uw (tgt (Prm.lim p))), I6 e1])), (14, aK (PV.tup [B6 4 (uw (tgt (Hd.bits (Prm.gen p)))), I6 e2])), (23, aK (PV.bool true)), (29, aK (PV.bool true)), (34, aK (I6 z)), (35, aF), (39, aK (PV.bool true)), (44, aK (PV.bool true)), (49, aK (PV.bool false))] [] [PC Tryz.prog G0 34 [] [U3 (↑(Prm.lim p) : Int)] [] (PV.tup [B6 4 (uw (tgt (Prm.lim p))), I6 e1]), PC Tryz.prog G0 34 [] [U3 (↑(Hd.bits (Prm.gen p)) : Int)] [] (PV.tup [B6 4 (uw (tgt (Hd.bits (Prm.gen p)))), I6 e2]), PC Tryz.prog G0 16 [] [U3 (↑(Prm.lim p) : Int)] [] (PV.bool true), PC Tryz.prog G0 16 [] [U3 (↑(Hd.bits (Prm.gen p)) : Int)] [] (PV.bool true), PC Tryz.prog G0 15 [] [B6 4 (uw (tgt (Hd.bits (Prm.gen p)))), B6 4 (uw (tgt (Prm.lim p)))] [] (I6 z), decide (z > (0 : Int)) = false, PC Tryz.prog G0 43 [] [I6 (Prm.per p), I6 1, I6 65536] [] (PV.bool true), PC Tryz.prog G0 43 [] [I6 (Prm.sp p), I6 1, I6 65536] [] (PV.bool true), PC Tryz.prog G0 43 [] [I6 (Prm.fu p), I6 0, I6 4294967296] [] (PV.bool false), rr (I6 1)] (by kernel_rfl) (ac (g1) (ac (g2) (ac (g3) (ac (g4) (ac (g5) (ac (decide_eq_false (by omega)) (ac (g6) (ac (g7) (ac (g8) (ao rfl))))))))))
          · have g7 := pc_withinF c5
            refine W.ret [(4, aK (PV.tup [B6 4 (uw (tgt (Prm.lim p))), I6 e1])), (14, aK (PV.tup [B6 4 (uw (tgt (Hd.bits (Prm.gen p)))), I6 e2])), (23, aK (PV.bool true)), (29, aK (PV.bool true)), (34, aK (I6 z)), (35, aF), (39, aK (PV.bool true)), (44, aK (PV.bool false))] [] [PC Tryz.prog G0 34 [] [U3 (↑(Prm.lim p) : Int)] [] (PV.tup [B6 4 (uw (tgt (Prm.lim p))), I6 e1]), PC Tryz.prog G0 34 [] [U3 (↑(Hd.bits (Prm.gen p)) : Int)] [] (PV.tup [B6 4 (uw (tgt (Hd.bits (Prm.gen p)))), I6 e2]), PC Tryz.prog G0 16 [] [U3 (↑(Prm.lim p) : Int)] [] (PV.bool true), PC Tryz.prog G0 16 [] [U3 (↑(Hd.bits (Prm.gen p)) : Int)] [] (PV.bool true), PC Tryz.prog G0 15 [] [B6 4 (uw (tgt (Hd.bits (Prm.gen p)))), B6 4 (uw (tgt (Prm.lim p)))] [] (I6 z), decide (z > (0 : Int)) = false, PC Tryz.prog G0 43 [] [I6 (Prm.per p), I6 1, I6 65536] [] (PV.bool true), PC Tryz.prog G0 43 [] [I6 (Prm.sp p), I6 1, I6 65536] [] (PV.bool false), rr (I6 1)] (by kernel_rfl) (ac (g1) (ac (g2) (ac (g3) (ac (g4) (ac (g5) (ac (decide_eq_false (by omega)) (ac (g6) (ac (g7) (ao rfl)))))))))
        · have g6 := pc_withinF c4
          refine W.ret [(4, aK (PV.tup [B6 4 (uw (tgt (Prm.lim p))), I6 e1])), (14, aK (PV.tup [B6 4 (uw (tgt (Hd.bits (Prm.gen p)))), I6 e2])), (23, aK (PV.bool true)), (29, aK (PV.bool true)), (34, aK (I6 z)), (35, aF), (39, aK (PV.bool false))] [] [PC Tryz.prog G0 34 [] [U3 (↑(Prm.lim p) : Int)] [] (PV.tup [B6 4 (uw (tgt (Prm.lim p))), I6 e1]), PC Tryz.prog G0 34 [] [U3 (↑(Hd.bits (Prm.gen p)) : Int)] [] (PV.tup [B6 4 (uw (tgt (Hd.bits (Prm.gen p)))), I6 e2]), PC Tryz.prog G0 16 [] [U3 (↑(Prm.lim p) : Int)] [] (PV.bool true), PC Tryz.prog G0 16 [] [U3 (↑(Hd.bits (Prm.gen p)) : Int)] [] (PV.bool true), PC Tryz.prog G0 15 [] [B6 4 (uw (tgt (Hd.bits (Prm.gen p)))), B6 4 (uw (tgt (Prm.lim p)))] [] (I6 z), decide (z > (0 : Int)) = false, PC Tryz.prog G0 43 [] [I6 (Prm.per p), I6 1, I6 65536] [] (PV.bool false), rr (I6 1)] (by kernel_rfl) (ac (g1) (ac (g2) (ac (g3) (ac (g4) (ac (g5) (ac (decide_eq_false (by omega)) (ac (g6) (ao rfl))))))))
      · rw [cmpN_gt (by omega)] at g5
        refine W.ret [(4, aK (PV.tup [B6 4 (uw (tgt (Prm.lim p))), I6 e1])), (14, aK (PV.tup [B6 4 (uw (tgt (Hd.bits (Prm.gen p)))), I6 e2])), (23, aK (PV.bool true)), (29, aK (PV.bool true)), (34, aK (I6 1))] [] [PC Tryz.prog G0 34 [] [U3 (↑(Prm.lim p) : Int)] [] (PV.tup [B6 4 (uw (tgt (Prm.lim p))), I6 e1]), PC Tryz.prog G0 34 [] [U3 (↑(Hd.bits (Prm.gen p)) : Int)] [] (PV.tup [B6 4 (uw (tgt (Hd.bits (Prm.gen p)))), I6 e2]), PC Tryz.prog G0 16 [] [U3 (↑(Prm.lim p) : Int)] [] (PV.bool true), PC Tryz.prog G0 16 [] [U3 (↑(Hd.bits (Prm.gen p)) : Int)] [] (PV.bool true), PC Tryz.prog G0 15 [] [B6 4 (uw (tgt (Hd.bits (Prm.gen p)))), B6 4 (uw (tgt (Prm.lim p)))] [] (I6 1), rr (I6 1)] (by kernel_rfl) (ac (g1) (ac (g2) (ac (g3) (ac (g4) (ac (g5) (ao rfl))))))
    · rw [Bool.not_eq_true] at c2
      rw [c2] at g4
      refine W.ret [(4, aK (PV.tup [B6 4 (uw (tgt (Prm.lim p))), I6 e1])), (14, aK (PV.tup [B6 4 (uw (tgt (Hd.bits (Prm.gen p)))), I6 e2])), (23, aK (PV.bool true)), (29, aK (PV.bool false))] [] [PC Tryz.prog G0 34 [] [U3 (↑(Prm.lim p) : Int)] [] (PV.tup [B6 4 (uw (tgt (Prm.lim p))), I6 e1]), PC Tryz.prog G0 34 [] [U3 (↑(Hd.bits (Prm.gen p)) : Int)] [] (PV.tup [B6 4 (uw (tgt (Hd.bits (Prm.gen p)))), I6 e2]), PC Tryz.prog G0 16 [] [U3 (↑(Prm.lim p) : Int)] [] (PV.bool true), PC Tryz.prog G0 16 [] [U3 (↑(Hd.bits (Prm.gen p)) : Int)] [] (PV.bool false), rr (I6 1)] (by kernel_rfl) (ac (g1) (ac (g2) (ac (g3) (ac (g4) (ao rfl)))))
  · rw [Bool.not_eq_true] at c1
    rw [c1] at g3
    refine W.ret [(4, aK (PV.tup [B6 4 (uw (tgt (Prm.lim p))), I6 e1])), (14, aK (PV.tup [B6 4 (uw (tgt (Hd.bits (Prm.gen p)))), I6 e2])), (23, aK (PV.bool false))] [] [PC Tryz.prog G0 34 [] [U3 (↑(Prm.lim p) : Int)] [] (PV.tup [B6 4 (uw (tgt (Prm.lim p))), I6 e1]), PC Tryz.prog G0 34 [] [U3 (↑(Hd.bits (Prm.gen p)) : Int)] [] (PV.tup [B6 4 (uw (tgt (Hd.bits (Prm.gen p)))), I6 e2]), PC Tryz.prog G0 16 [] [U3 (↑(Prm.lim p) : Int)] [] (PV.bool false), rr (I6 1)] (by kernel_rfl) (ac (g1) (ac (g2) (ac (g3) (ao rfl))))
theorem pc_canonical {c : Nat} (hc : c < 4294967296) : PC Tryz.prog G0 17 [] [.int .u32 c] [] (.bool (canon c)) := by
  refine PC.of (fn := Tryz.f17) (c := bodyOf Tryz.f17) Tryz.func17 (by kernel_rfl) (by kernel_rfl) (by kernel_rfl) (by kernel_rfl) ?_
  by_cases h : tgt c = 0
  · have g := pc_rTargetN hc h
    refine W.ret [(2, aK (PV.tup [PV.vec true (BI 0 (dg 0)), PV.bool false]))] [] [PC Tryz.prog G0 18 [] [U3 (c:Int)] [] (PV.tup [PV.vec true (BI 0 (dg 0)), PV.bool false]), PV.bool false = PV.bool (canon c)] (by kernel_rfl) (ac (g) (ao ?_))
    unfold canon
    simp [h]
  · have g := pc_rTargetY hc h
    have g2 := pc_rBits5 (nt := false) (tgt_lt c)
    refine W.ret [(2, Ans.call false [] [] (PV.tup [PV.vec false (BI (nd (tgt c)) (dg (tgt c))), PV.bool true])), (11, aK (U3 (↑(cbits (tgt c)) : Int)))] [] [PC Tryz.prog G0 18 [] [U3 (c:Int)] [] (PV.tup [PV.vec false (BI (nd (tgt c)) (dg (tgt c))), PV.bool true]), PC Tryz.prog G0 38 [] [PV.vec false (BI (nd (tgt c)) (dg (tgt c)))] [] (U3 (↑(cbits (tgt c)) : Int)), PV.bool ((↑(cbits (tgt c)) : Int) == (c:Int)) = PV.bool (canon c)] (by kernel_rfl) (ac (g) (ac (g2) (ao ?_)))
    refine congrArg PV.bool ?_
    unfold canon
    rw [Bool.eq_iff_iff]
    simp only [beq_iff_eq, Int.natCast_inj, decide_eq_true_eq]
    exact ⟨fun e => ⟨h, e⟩, fun e => e.2⟩
theorem canon_ne {c : Nat} (h : canon c = true) : ¬ tgt c = 0 := by
  unfold canon at h
  simp only [decide_eq_true_eq] at h
  exact h.1
set_option maxHeartbeats 4000000 in
theorem pc_mayY {p : Prm} (ho : p.Ok) (h : p.May) : PC Tryz.prog G0 6 [] [p.rpv] [] (.bool true) := by
  refine PC.of (fn := Tryz.f6) (c := bodyOf Tryz.f6) Tryz.func6 (by kernel_rfl) (by kernel_rfl) (by kernel_rfl) (by kernel_rfl) ?_
  have g1 := pc_rTargetY ho.lim (canon_ne h.c1)
  have g2 := pc_rTargetY ho.gen.bits (canon_ne h.c2)
  have g3 := pc_canonical ho.lim
  have g4 := pc_canonical ho.gen.bits
  rw [h.c1] at g3
  rw [h.c2] at g4
  have n1 := nd_W256.2 (tgt_lt p.lim)
  have n2 := nd_W256.2 (tgt_lt p.gen.bits)
  have g5 := pc_bLess (na := false) (nb := false) (a := tgt p.lim) (b := tgt p.gen.bits) (by omega) (by omega)
  rw [decide_eq_false (by have := h.le; omega)] at g5
  obtain ⟨q1, q2⟩ := h.per
  obtain ⟨q3, q4⟩ := h.sp
  obtain ⟨q5, q6⟩ := h.fu
  obtain ⟨q7, q8⟩ := h.cap
  refine W.ret [(4, aK (PV.bool true)), (10, aK (PV.bool true)), (16, Ans.call false [] [] (PV.tup [PV.vec false (BI (nd (tgt (Hd.bits (Prm.gen p)))) (dg (tgt (Hd.bits (Prm.gen p))))), PV.bool true])), (24, Ans.call false [] [] (PV.tup [PV.vec false (BI (nd (tgt (Prm.lim p))) (dg (tgt (Prm.lim p)))), PV.bool true])), (32, aK (PV.bool false)), (35, aT), (39, aT), (44, aT), (49, aT), (54, aT), (59, aT), (64, aT), (69, aT)] [] [PC Tryz.prog G0 17 [] [U3 (↑(Prm.lim p) : Int)] [] (PV.bool true), PC Tryz.prog G0 17 [] [U3 (↑(Hd.bits (Prm.gen p)) : Int)] [] (PV.bool true), PC Tryz.prog G0 18 [] [U3 (↑(Hd.bits (Prm.gen p)) : Int)] [] (PV.tup [PV.vec false (BI (nd (tgt (Hd.bits (Prm.gen p)))) (dg (tgt (Hd.bits (Prm.gen p))))), PV.bool true]), PC Tryz.prog G0 18 [] [U3 (↑(Prm.lim p) : Int)] [] (PV.tup [PV.vec false (BI (nd (tgt (Prm.lim p))) (dg (tgt (Prm.lim p)))), PV.bool true]), PC Tryz.prog G0 19 [] [PV.vec false (BI (nd (tgt (Prm.lim p))) (dg (tgt (Prm.lim p)))), PV.vec false (BI (nd (tgt (Hd.bits (Prm.gen p)))) (dg (tgt (Hd.bits (Prm.gen p)))))] [] (PV.bool false), decide (Prm.per p ≥ (1 : Int)) = true, decide (Prm.per p ≤ (65536 : Int)) = true, decide (Prm.sp p ≥ (1 : Int)) = true, decide (Prm.sp p ≤ (65536 : Int)) = true, decide (Prm.fu p ≥ (0 : Int)) = true, decide (Prm.fu p ≤ (4294967296 : Int)) = true, decide (Prm.cap p ≥ (1 : Int)) = true, decide (Prm.cap p ≤ (4096 : Int)) = true, rr (PV.bool true)] (by kernel_rfl) (ac (g3) (ac (g4) (ac (g2) (ac (g1) (ac (g5) (ac (decide_eq_true (by omega)) (ac (decide_eq_true (by omega)) (ac (decide_eq_true (by omega)) (ac (decide_eq_true (by omega)) (ac (decide_eq_true (by omega)) (ac (decide_eq_true (by omega)) (ac (decide_eq_true (by omega)) (ac (decide_eq_true (by omega)) (ao rfl))))))))))))))
set_option maxHeartbeats 4000000 in
theorem pc_mayN {p : Prm} (ho : p.Ok) (h : ¬ p.May) : PC Tryz.prog G0 6 [] [p.rpv] [] (.bool false) := by
  refine PC.of (fn := Tryz.f6) (c := bodyOf Tryz.f6) Tryz.func6 (by kernel_rfl) (by kernel_rfl) (by kernel_rfl) (by kernel_rfl) ?_
  have g3 := pc_canonical ho.lim
  have g4 := pc_canonical ho.gen.bits
  have n1 := nd_W256.2 (tgt_lt p.lim)
  have n2 := nd_W256.2 (tgt_lt p.gen.bits)
  have g5 := pc_bLess (na := false) (nb := false) (a := tgt p.lim) (b := tgt p.gen.bits) (by omega) (by omega)
  by_cases c1 : canon p.lim = true
  · rw [c1] at g3
    have g1 := pc_rTargetY ho.lim (canon_ne c1)
    by_cases c2 : canon p.gen.bits = true
    · rw [c2] at g4
      have g2 := pc_rTargetY ho.gen.bits (canon_ne c2)
      by_cases c3 : tgt p.gen.bits ≤ tgt p.lim
      · rw [decide_eq_false (by omega)] at g5
        by_cases c4 : 1 ≤ p.per
        · by_cases c4' : p.per ≤ 65536
          · by_cases c5 : 1 ≤ p.sp
            · by_cases c5' : p.sp ≤ 65536
              · by_cases c6 : 0 ≤ p.fu
                · by_cases c6' : p.fu ≤ 4294967296
                  · by_cases c7 : 1 ≤ p.cap
                    · by_cases c7' : p.cap ≤ 4096
                      · exact absurd ⟨c1, c2, c3, ⟨c4, c4'⟩, ⟨c5, c5'⟩, ⟨c6, c6'⟩, ⟨c7, c7'⟩⟩ h
                      · refine W.ret [(4, aK (PV.bool true)), (10, aK (PV.bool true)), (16, Ans.call false [] [] (PV.tup [PV.vec false (BI (nd (tgt (Hd.bits (Prm.gen p)))) (dg (tgt (Hd.bits (Prm.gen p))))), PV.bool true])), (24, Ans.call false [] [] (PV.tup [PV.vec false (BI (nd (tgt (Prm.lim p))) (dg (tgt (Prm.lim p)))), PV.bool true])), (32, aK (PV.bool false)), (35, aT), (39, aT), (44, aT), (49, aT), (54, aT), (59, aT), (64, aT), (69, aF)] [] [PC Tryz.prog G0 17 [] [U3 (↑(Prm.lim p) : Int)] [] (PV.bool true), PC Tryz.prog G0 17 [] [U3 (↑(Hd.bits (Prm.gen p)) : Int)] [] (PV.bool true), PC Tryz.prog G0 18 [] [U3 (↑(Hd.bits (Prm.gen p)) : Int)] [] (PV.tup [PV.vec false (BI (nd (tgt (Hd.bits (Prm.gen p)))) (dg (tgt (Hd.bits (Prm.gen p))))), PV.bool true]), PC Tryz.prog G0 18 [] [U3 (↑(Prm.lim p) : Int)] [] (PV.tup [PV.vec false (BI (nd (tgt (Prm.lim p))) (dg (tgt (Prm.lim p)))), PV.bool true]), PC Tryz.prog G0 19 [] [PV.vec false (BI (nd (tgt (Prm.lim p))) (dg (tgt (Prm.lim p)))), PV.vec false (BI (nd (tgt (Hd.bits (Prm.gen p)))) (dg (tgt (Hd.bits (Prm.gen p)))))] [] (PV.bool false), decide (Prm.per p ≥ (1 : Int)) = true, decide (Prm.per p ≤ (65536 : Int)) = true, decide (Prm.sp p ≥ (1 : Int)) = true, decide (Prm.sp p ≤ (65536 : Int)) = true, decide (Prm.fu p ≥ (0 : Int)) = true, decide (Prm.fu p ≤ (4294967296 : Int)) = true, decide (Prm.cap p ≥ (1 : Int)) = true, decide (Prm.cap p ≤ (4096 : Int)) = false, rr (PV.bool false)] (by kernel_rfl) (ac (g3) (ac (g4) (ac (g2) (ac (g1) (ac (g5) (ac (decide_eq_true (by omega)) (ac (decide_eq_true (by omega)) (ac (decide_eq_true (by omega)) (ac (decide_eq_true (by omega)) (ac (decide_eq_true (by omega)) (ac (decide_eq_true (by omega)) (ac (decide_eq_true (by omega)) (ac (decide_eq_false (by omega)) (ao rfl))))))))))))))
                    · refine W.ret [(4, aK (PV.bool true)), (10, aK (PV.bool true)), (16, Ans.call false [] [] (PV.tup [PV.vec false (BI (nd (tgt (Hd.bits (Prm.gen p)))) (dg (tgt (Hd.bits (Prm.gen p))))), PV.bool true])), (24, Ans.call false [] [] (PV.tup [PV.vec false (BI (nd (tgt (Prm.lim p))) (dg (tgt (Prm.lim p)))), PV.bool true])), (32, aK (PV.bool false)), (35, aT), (39, aT), (44, aT), (49, aT), (54, aT), (59, aT), (64, aF)] [] [PC Tryz.prog G0 17 [] [U3 (↑(Prm.lim p) : Int)] [] (PV.bool true), PC Tryz.prog G0 17 [] [U3 (↑(Hd.bits (Prm.gen p)) : Int)] [] (PV.bool true), PC Tryz.prog G0 18 [] [U3 (↑(Hd.bits (Prm.gen p)) : Int)] [] (PV.tup [PV.vec false (BI (nd (tgt (Hd.bits (Prm.gen p)))) (dg (tgt (Hd.bits (Prm.gen p))))), PV.bool true]), PC Tryz.prog G0 18 [] [U3 (↑(Prm.lim p) : Int)] [] (PV.tup [PV.vec false (BI (nd (tgt (Prm.lim p))) (dg (tgt (Prm.lim p)))), PV.bool true]), PC Tryz.prog G0 19 [] [PV.vec false (BI (nd (tgt (Prm.lim p))) (dg (tgt (Prm.lim p)))), PV.vec false (BI (nd (tgt (Hd.bits (Prm.gen p)))) (dg (tgt (Hd.bits (Prm.gen p)))))] [] (PV.bool false), decide (Prm.per p ≥ (1 : Int)) = true, decide (Prm.per p ≤ (65536 : Int)) = true, decide (Prm.sp p ≥ (1 : Int)) = true, decide (Prm.sp p ≤ (65536 : Int)) = true, decide (Prm.fu p ≥ (0 : Int)) = true, decide (Prm.fu p ≤ (4294967296 : Int)) = true, decide (Prm.cap p ≥ (1 : Int)) = false, rr (PV.bool false)] (by kernel_rfl) (ac (g3) (ac (g4) (ac (g2) (ac (g1) (ac (g5) (ac (decide_eq_true (by omega)) (ac (decide_eq_true (by omega)) (ac (decide_eq_true (by omega)) (ac (decide_eq_true (by omega)) (ac (decide_eq_true (by omega)) (ac (decide_eq_true (by omega)) (ac (decide_eq_false (by omega)) (ao rfl)))))))))))))
                  · refine W.ret [(4, aK (PV.bool true)), (10, aK (PV.bool true)), (16, Ans.call false [] [] (PV.tup [PV.vec false (BI (nd (tgt (Hd.bits (Prm.gen p)))) (dg (tgt (Hd.bits (Prm.gen p))))), PV.bool true])), (24, Ans.call false [] [] (PV.tup [PV.vec false (BI (nd (tgt (Prm.lim p))) (dg (tgt (Prm.lim p)))), PV.bool true])), (32, aK (PV.bool false)), (35, aT), (39, aT), (44, aT), (49, aT), (54, aT), (59, aF)] [] [PC Tryz.prog G0 17 [] [U3 (↑(Prm.lim p) : Int)] [] (PV.bool true), PC Tryz.prog G0 17 [] [U3 (↑(Hd.bits (Prm.gen p)) : Int)] [] (PV.bool true), PC Tryz.prog G0 18 [] [U3 (↑(Hd.bits (Prm.gen p)) : Int)] [] (PV.tup [PV.vec false (BI (nd (tgt (Hd.bits (Prm.gen p)))) (dg (tgt (Hd.bits (Prm.gen p))))), PV.bool true]), PC Tryz.prog G0 18 [] [U3 (↑(Prm.lim p) : Int)] [] (PV.tup [PV.vec false (BI (nd (tgt (Prm.lim p))) (dg (tgt (Prm.lim p)))), PV.bool true]), PC Tryz.prog G0 19 [] [PV.vec false (BI (nd (tgt (Prm.lim p))) (dg (tgt (Prm.lim p)))), PV.vec false (BI (nd (tgt (Hd.bits (Prm.gen p)))) (dg (tgt (Hd.bits (Prm.gen p)))))] [] (PV.bool false), decide (Prm.per p ≥ (1 : Int)) = true, decide (Prm.per p ≤ (65536 : Int)) = true, decide (Prm.sp p ≥ (1 : Int)) = true, decide (Prm.sp p ≤ (65536 : Int)) = true, decide (Prm.fu p ≥ (0 : Int)) = true, decide (Prm.fu p ≤ (4294967296 : Int)) = false, rr (PV.bool false)] (by kernel_rfl) (ac (g3) (ac (g4) (ac (g2) (ac (g1) (ac (g5) (ac (decide_eq_true (by omega)) (ac (decide_eq_true (by omega)) (ac (decide_eq_true (by omega)) (ac (decide_eq_true (by omega)) (ac (decide_eq_true (by omega)) (ac (decide_eq_false (by omega)) (ao rfl))))))))))))
                · refine W.ret [(4, aK (PV.bool true)), (10, aK (PV.bool true)), (16, Ans.call false [] [] (PV.tup [PV.vec false (BI (nd (tgt (Hd.bits (Prm.gen p)))) (dg (tgt (Hd.bits (Prm.gen p))))), PV.bool true])), (24, Ans.call false [] [] (PV.tup [PV.vec false (BI (nd (tgt (Prm.lim p))) (dg (tgt (Prm.lim p)))), PV.bool true])), (32, aK (PV.bool false)), (35, aT), (39, aT), (44, aT), (49, aT), (54, aF)] [] [PC Tryz.prog G0 17 [] [U3 (↑(Prm.lim p) : Int)] [] (PV.bool true), PC Tryz.prog G0 17 [] [U3 (↑(Hd.bits (Prm.gen p)) : Int)] [] (PV.bool true), PC Tryz.prog G0 18 [] [U3 (↑(Hd.bits (Prm.gen p)) : Int)] [] (PV.tup [PV.vec false (BI (nd (tgt (Hd.bits (Prm.gen p)))) (dg (tgt (Hd.bits (Prm.gen p))))), PV.bool true]), PC Tryz.prog G0 18 [] [U3 (↑(Prm.lim p) : Int)] [] (PV.tup [PV.vec false (BI (nd (tgt (Prm.lim p))) (dg (tgt (Prm.lim p)))), PV.bool true]), PC Tryz.prog G0 19 [] [PV.vec false (BI (nd (tgt (Prm.lim p))) (dg (tgt (Prm.lim p)))), PV.vec false (BI (nd (tgt (Hd.bits (Prm.gen p)))) (dg (tgt (Hd.bits (Prm.gen p)))))] [] (PV.bool false), decide (Prm.per p ≥ (1 : Int)) = true, decide (Prm.per p ≤ (65536 : Int)) = true, decide (Prm.sp p ≥ (1 : Int)) = true, decide (Prm.sp p ≤ (65536 : Int)) = true, decide (Prm.fu p ≥ (0 : Int)) = false, rr (PV.bool false)] (by kernel_rfl) (ac (g3) (ac (g4) (ac (g2) (ac (g1) (ac (g5) (ac (decide_eq_true (by omega)) (ac (decide_eq_true (by omega)) (ac (decide_eq_true (by omega)) (ac (decide_eq_true (by omega)) (ac (decide_eq_false (by omega)) (ao rfl)))))))))))
              · refine W.ret [(4, aK (PV.bool true)), (10, aK (PV.bool true)), (16, Ans.call false [] [] (PV.tup [PV.vec false (BI (nd (tgt (Hd.bits (Prm.gen p)))) (dg (tgt (Hd.bits (Prm.gen p))))), PV.bool true])), (24, Ans.call false [] [] (PV.tup [PV.vec false (BI (nd (tgt (Prm.lim p))) (dg (tgt (Prm.lim p)))), PV.bool true])), (32, aK (PV.bool false)), (35, aT), (39, aT), (44, aT), (49, aF)] [] [PC Tryz.prog G0 17 [] [U3 (↑(Prm.lim p) : Int)] [] (PV.bool true), PC Tryz.prog G0 17 [] [U3 (↑(Hd.bits (Prm.gen p)) : Int)] [] (PV.bool true), PC Tryz.prog G0 18 [] [U3 (↑(Hd.bits (Prm.gen p)) : Int)] [] (PV.tup [PV.vec false (BI (nd (tgt (Hd.bits (Prm.gen p)))) (dg (tgt (Hd.bits (Prm.gen p))))), PV.bool true]), PC Tryz.prog G0 18 [] [U3 (↑(Prm.lim p) : Int)] [] (PV.tup [PV.vec false (BI (nd (tgt (Prm.lim p))) (dg (tgt (Prm.lim p)))), PV.bool true]), PC Tryz.prog G0 19 [] [PV.vec false (BI (nd (tgt (Prm.lim p))) (dg (tgt (Prm.lim p)))), PV.vec false (BI (nd (tgt (Hd.bits (Prm.gen p)))) (dg (tgt (Hd.bits (Prm.gen p)))))] [] (PV.bool false), decide (Prm.per p ≥ (1 : Int)) = true, decide (Prm.per p ≤ (65536 : Int)) = true, decide (Prm.sp p ≥ (1 : Int)) = true, decide (Prm.sp p ≤ (65536 : Int)) = false, rr (PV.bool false)] (by kernel_rfl) (ac (g3) (ac (g4) (ac (g2) (ac (g1) (ac (g5) (ac (decide_eq_true (by omega)) (ac (decide_eq_true (by omega)) (ac (decide_eq_true (by omega)) (ac (decide_eq_false (by omega)) (ao rfl))))))))))
            · refine W.ret [(4, aK (PV.bool true)), (10, aK (PV.bool true)), (16, Ans.call false [] [] (PV.tup [PV.vec false (BI (nd (tgt (Hd.bits (Prm.gen p)))) (dg (tgt (Hd.bits (Prm.gen p))))), PV.bool true])), (24, Ans.call false [] [] (PV.tup [PV.vec false (BI (nd (tgt (Prm.lim p))) (dg (tgt (Prm.lim p)))), PV.bool true])), (32, aK (PV.bool false)), (35, aT), (39, aT), (44, aF)] [] [PC Tryz.prog G0 17 [] [U3 (↑(Prm.lim p) : Int)] [] (PV.bool true), PC Tryz.prog G0 17 [] [U3 (↑(Hd.bits (Prm.gen p)) : Int)] [] (PV.bool true), PC Tryz.prog G0 18 [] [U3 (↑(Hd.bits (Prm.gen p)) : Int)] [] (PV.tup [PV.vec false (BI (nd (tgt (Hd.bits (Prm.gen p)))) (dg (tgt (Hd.bits (Prm.gen p))))), PV.bool true]), PC Tryz.prog G0 18 [] [U3 (↑(Prm.lim p) : Int)] [] (PV.tup [PV.vec false (BI (nd (tgt (Prm.lim p))) (dg (tgt (Prm.lim p)))), PV.bool true]), PC Tryz.prog G0 19 [] [PV.vec false (BI (nd (tgt (Prm.lim p))) (dg (tgt (Prm.lim p)))), PV.vec false (BI (nd (tgt (Hd.bits (Prm.gen p)))) (dg (tgt (Hd.bits (Prm.gen p)))))] [] (PV.bool false), decide (Prm.per p ≥ (1 : Int)) = true, decide (Prm.per p ≤ (65536 : Int)) = true, decide (Prm.sp p ≥ (1 : Int)) = false, rr (PV.bool false)] (by kernel_rfl) (ac (g3) (ac (g4) (ac (g2) (ac (g1) (ac (g5) (ac (decide_eq_true (by omega)) (ac (decide_eq_true (by omega)) (ac (decide_eq_false (by omega)) (ao rfl)))))))))
          · refine W.ret [(4, aK (PV.bool true)), (10, aK (PV.bool true)), (16, Ans.call false [] [] (PV.tup [PV.vec false (BI (nd (tgt (Hd.bits (Prm.gen p)))) (dg (tgt (Hd.bits (Prm.gen p))))), PV.bool true])), (24, Ans.call false [] [] (PV.tup [PV.vec false (BI (nd (tgt (Prm.lim p))) (dg (tgt (Prm.lim p)))), PV.bool true])), (32, aK (PV.bool false)), (35, aT), (39, aF)] [] [PC Tryz.prog G0 17 [] [U3 (↑(Prm.lim p) : Int)] [] (PV.bool true), PC Tryz.prog G0 17 [] [U3 (↑(Hd.bits (Prm.gen p)) : Int)] [] (PV.bool true), PC Tryz.prog G0 18 [] [U3 (↑(Hd.bits (Prm.gen p)) : Int)] [] (PV.tup [PV.vec false (BI (nd (tgt (Hd.bits (Prm.gen p)))) (dg (tgt (Hd.bits (Prm.gen p))))), PV.bool true]), PC Tryz.prog G0 18 [] [U3 (↑(Prm.lim p) : Int)] [] (PV.tup [PV.vec false (BI (nd (tgt (Prm.lim p))) (dg (tgt (Prm.lim p)))), PV.bool true]), PC Tryz.prog G0 19 [] [PV.vec false (BI (nd (tgt (Prm.lim p))) (dg (tgt (Prm.lim p)))), PV.vec false (BI (nd (tgt (Hd.bits (Prm.gen p)))) (dg (tgt (Hd.bits (Prm.gen p)))))] [] (PV.bool false), decide (Prm.per p ≥ (1 : Int)) = true, decide (Prm.per p ≤ (65536 : Int)) = false, rr (PV.bool false)] (by kernel_rfl) (ac (g3) (ac (g4) (ac (g2) (ac (g1) (ac (g5) (ac (decide_eq_true (by omega)) (ac (decide_eq_false (by omega)) (ao rfl))))))))
        · refine W.ret [(4, aK (PV.bool true)), (10, aK (PV.bool true)), (16, Ans.call false [] [] (PV.tup [PV.vec false (BI (nd (tgt (Hd.bits (Prm.gen p)))) (dg (tgt (Hd.bits (Prm.gen p))))), PV.bool true])), (24, Ans.call false [] [] (PV.tup [PV.vec false (BI (nd (tgt (Prm.lim p))) (dg (tgt (Prm.lim p)))), PV.bool true])), (32, aK (PV.bool false)), (35, aF)] [] [PC Tryz.prog G0 17 [] [U3 (↑(Prm.lim p) : Int)] [] (PV.bool true), PC Tryz.prog G0 17 [] [U3 (↑(Hd.bits (Prm.gen p)) : Int)] [] (PV.bool true), PC Tryz.prog G0 18 [] [U3 (↑(Hd.bits (Prm.gen p)) : Int)] [] (PV.tup [PV.vec false (BI (nd (tgt (Hd.bits (Prm.gen p)))) (dg (tgt (Hd.bits (Prm.gen p))))), PV.bool true]), PC Tryz.prog G0 18 [] [U3 (↑(Prm.lim p) : Int)] [] (PV.tup [PV.vec false (BI (nd (tgt (Prm.lim p))) (dg (tgt (Prm.lim p)))), PV.bool true]), PC Tryz.prog G0 19 [] [PV.vec false (BI (nd (tgt (Prm.lim p))) (dg (tgt (Prm.lim p)))), PV.vec false (BI (nd (tgt (Hd.bits (Prm.gen p)))) (dg (tgt (Hd.bits (Prm.gen p)))))] [] (PV.bool false), decide (Prm.per p ≥ (1 : Int)) = false, rr (PV.bool false)] (by kernel_rfl) (ac (g3) (ac (g4) (ac (g2) (ac (g1) (ac (g5) (ac (decide_eq_false (by omega)) (ao rfl)))))))
      · rw [decide_eq_true (by omega)] at g5
        refine W.ret [(4, aK (PV.bool true)), (10, aK (PV.bool true)), (16, Ans.call false [] [] (PV.tup [PV.vec false (BI (nd (tgt (Hd.bits (Prm.gen p)))) (dg (tgt (Hd.bits (Prm.gen p))))), PV.bool true])), (24, Ans.call false [] [] (PV.tup [PV.vec false (BI (nd (tgt (Prm.lim p))) (dg (tgt (Prm.lim p)))), PV.bool true])), (32, aK (PV.bool true))] [] [PC Tryz.prog G0 17 [] [U3 (↑(Prm.lim p) : Int)] [] (PV.bool true), PC Tryz.prog G0 17 [] [U3 (↑(Hd.bits (Prm.gen p)) : Int)] [] (PV.bool true), PC Tryz.prog G0 18 [] [U3 (↑(Hd.bits (Prm.gen p)) : Int)] [] (PV.tup [PV.vec false (BI (nd (tgt (Hd.bits (Prm.gen p)))) (dg (tgt (Hd.bits (Prm.gen p))))), PV.bool true]), PC Tryz.prog G0 18 [] [U3 (↑(Prm.lim p) : Int)] [] (PV.tup [PV.vec false (BI (nd (tgt (Prm.lim p))) (dg (tgt (Prm.lim p)))), PV.bool true]), PC Tryz.prog G0 19 [] [PV.vec false (BI (nd (tgt (Prm.lim p))) (dg (tgt (Prm.lim p)))), PV.vec false (BI (nd (tgt (Hd.bits (Prm.gen p)))) (dg (tgt (Hd.bits (Prm.gen p)))))] [] (PV.bool true), rr (PV.bool false)] (by kernel_rfl) (ac (g3) (ac (g4) (ac (g2) (ac (g1) (ac (g5) (ao rfl))))))
    · rw [Bool.not_eq_true] at c2
      rw [c2] at g4
      refine W.ret [(4, aK (PV.bool true)), (10, aK (PV.bool false))] [] [PC Tryz.prog G0 17 [] [U3 (↑(Prm.lim p) : Int)] [] (PV.bool true), PC Tryz.prog G0 17 [] [U3 (↑(Hd.bits (Prm.gen p)) : Int)] [] (PV.bool false), rr (PV.bool false)] (by kernel_rfl) (ac (g3) (ac (g4) (ao rfl)))
  · rw [Bool.not_eq_true] at c1
    rw [c1] at g3
    refine W.ret [(4, aK (PV.bool false))] [] [PC Tryz.prog G0 17 [] [U3 (↑(Prm.lim p) : Int)] [] (PV.bool false), rr (PV.bool false)] (by kernel_rfl) (ac (g3) (ao rfl))
end Go.Proofs
namespace Go.Proofs
open Go Go.Pe Go.Pm
set_option maxRecDepth 100000
set_option linter.unusedVariables false
theorem pc_cloneB {nl : Bool} {n : Nat} (h0 : 0 < n) (hn : n ≤ 1000000000) {l : List Int} (hl : l.length = n) : PC Tryz.prog G0 87 [] [.vec false (.iarr .u8 n l)] [(1, rowB n l)] (.ref 1 [] 1 0 n) := by
  refine PC.of (fn := Tryz.f87) (c := bodyOf Tryz.f87) Tryz.func87 (by kernel_rfl) (by kernel_rfl) (by kernel_rfl) (by kernel_rfl) ?_
  refine W.ret [(5, Ans.vu (PV.ref 144 [] 1 0 n) [(112, none), (144, some (Row.mk (B8 n l) false))])] [(144, 1)] [([(112, none), (144, some (Row.mk (B8 (0 + n) l) false))] : List (Nat × Option Row)) = [(112, none), (144, some (Row.mk (B8 n l) false))], PV.ref 144 [] 1 0 (0 + n) = PV.ref 144 [] 1 0 n, rr (0), (0 + n) * 1 ≤ 140737488355328, 0 + n ≤ 9223372036854775807, rr (B8 n l), rr (PV.ref 1 [] 1 0 n)] (by kernel_rfl) (ac (by simp only [Nat.zero_add]) (ac (by simp only [Nat.zero_add]) (ac rfl (ac (by omega) (ac (by omega) (ac rfl (ao rfl)))))))
/-- a writer -/
def wrN : Row := ⟨.st 1 [.vec true (.iarr .u8 0 [])], false⟩
def wrR (i n : Nat) : Row := ⟨.st 1 [.ref i [] 1 0 n], false⟩
theorem pc_wrNew : PC Tryz.prog G0 67 [] [] [(1, wrN)] (.at 1 []) := by
  refine PC.of (fn := Tryz.f67) (c := bodyOf Tryz.f67) Tryz.func67 (by kernel_rfl) (by kernel_rfl) (by kernel_rfl) (by kernel_rfl) ?_
  refine W.ret [] [(96, 1)] [rr (PV.st 1 [PV.vec true (B8 0 [])]), rr (PV.at 1 [])] (by kernel_rfl) (ac rfl (ao rfl))
theorem pc_wrNumN {x w : Nat} (hx : x < 18446744073709551616) (hw : w ≤ 8) (hw0 : 0 < w) : PC Tryz.prog G0 68 [(0, wrN)] [.at 0 [], .int .u64 x, .int .i64 w] [(0, wrR 2 w), (2, rowB w (le x w))] (.tup []) := by
  refine PC.of (fn := Tryz.f68) (c := bodyOf Tryz.f68) Tryz.func68 (by kernel_rfl) (by kernel_rfl) (by kernel_rfl) (by kernel_rfl) ?_
  have c1 := pc_little hx hw
  have hl := le_length x w
  generalize le x w = l at *
  refine W.ret [(7, Ans.call true [] [(1, Row.mk (B8 w l) false)] (PV.ref 1 [] 1 0 w)), (8, Ans.ups [(192, some (Row.mk (B8 w l) false))])] [(0, 0), (192, 2)] [PC Tryz.prog G0 86 [] [U6 (x:Int), I6 (w:Int)] [(1, Row.mk (B8 w l) false)] (PV.ref 1 [] 1 0 w), ([(192, some (Row.mk (B8 w (List.take w l)) false))] : List (Nat × Option Row)) = [(192, some (Row.mk (B8 w l) false))], 0 + w ≤ w, 0 < w, w * 1 ≤ 140737488355328, w ≤ 9223372036854775807, rr (PV.st 1 [PV.ref 2 [] 1 0 w]), rr (B8 w l), rr (PV.tup [])] (by kernel_rfl) (ac (c1) (ac (by rw [List.take_of_length_le (show List.length l ≤ w by omega)]) (ac (by omega) (ac (by omega) (ac (by omega) (ac (by omega) (ac rfl (ac rfl (ao rfl)))))))))
theorem pc_wrNum {x w n : Nat} {l : List Int} (hx : x < 18446744073709551616) (hw : w ≤ 8) (hl : l.length = n) (hn : n ≤ 1000000000) : PC Tryz.prog G0 68 [(0, wrR 1 n), (1, rowB n l)] [.at 0 [], .int .u64 x, .int .i64 w] [(0, wrR 2 (n + w)), (2, rowB (n + w) (l ++ le x w))] (.tup []) := by
  refine PC.of (fn := Tryz.f68) (c := bodyOf Tryz.f68) Tryz.func68 (by kernel_rfl) (by kernel_rfl) (by kernel_rfl) (by kernel_rfl) ?_
  have c1 := pc_little hx hw
  have hl2 := le_length x w
  generalize le x w = m at *
  refine W.ret [(7, Ans.call true [] [(1, Row.mk (B8 w m) false)] (PV.ref 1 [] 1 0 w)), (8, Ans.ups [(1, none), (192, some (Row.mk (B8 (n + w) (l ++ m)) false))])] [(0, 0), (1, 1), (192, 2)] [PC Tryz.prog G0 86 [] [U6 (x:Int), I6 (w:Int)] [(1, Row.mk (B8 w m) false)] (PV.ref 1 [] 1 0 w), ([(1, none), (192, some (Row.mk (B8 (n + w) (List.take n l ++ List.take w m)) false))] : List (Nat × Option Row)) = [(1, none), (192, some (Row.mk (B8 (n + w) (l ++ m)) false))], 0 + w ≤ w, 0 + n = n, (n + w) * 1 ≤ 140737488355328, n + w ≤ 9223372036854775807, rr (PV.st 1 [PV.ref 2 [] 1 0 (n + w)]), rr (B8 (n + w) (l ++ m)), rr (PV.tup [])] (by kernel_rfl) (ac (c1) (ac (by rw [List.take_of_length_le (show List.length l ≤ n by omega), List.take_of_length_le (show List.length m ≤ w by omega)]) (ac (by omega) (ac (by omega) (ac (by omega) (ac (by omega) (ac rfl (ac rfl (ao rfl)))))))))
def dsPut0 (nl : Bool) (c : Nat) (L : List PV) (n : Nat) (b : List Int) : DS := ⟨[(0, .at 0 []), (6, .vec nl (.parr 1 c bsh L)), (7, .int .i64 c), (8, .int .i64 0)], [(0, wrR 1 n), (1, rowB n b)]⟩
def dsPut (nl : Bool) (c : Nat) (L : List PV) (n : Nat) (b : List Int) (i : Nat) : DS := ⟨[(0, .at 0 []), (6, .vec nl (.parr 1 c bsh L)), (7, .int .i64 c), (8, .int .i64 i)], [(0, wrR 2 n), (2, rowB n b)]⟩
theorem W_put {nl : Bool} {l : List (Bool × Nat × List Int)} {c : Nat} {q : List Int} (hc : l.length = c) (ho : ∀ x ∈ l, BsOk x) (hq : q.length ≤ 1000000000) (hcc : c ≤ 1000000) : ∀ (k i n : Nat) (b : List Int), i + k = c → b.length = n → b ++ cat (l.drop i) = q →
    W Tryz.prog G0 Tryz.f69 [0, 1] [(0, wrR 2 q.length), (2, rowB q.length q)] (.tup []) (loopAt Tryz.f69 0) (dsPut nl c (l.map bsPV) n b i)
  | 0, i, n, b, hk, hb, hpq => by
    have e : b = q := by rw [← hpq, List.drop_of_length_le (by omega)]; simp [cat]
    subst e
    subst hb
    refine W.ret [(0, aF)] [(0, 0), (1, 1), (2, 2)] [decide ((i:Int) < (c:Int)) = false, rr (PV.st 1 [PV.ref 2 [] 1 0 (List.length b)]), rr (B8 (List.length b) b), rr (PV.tup [])] (by kernel_rfl) (ac (decide_eq_false (by omega)) (ac rfl (ac rfl (ao rfl))))
  | k + 1, i, n, b, hk, hb, hpq => by
    have hx := bs_ok ho (i := i) (by omega)
    have g := bs_get (l := l) (i := i) (by omega)
    rw [cat_drop (by omega), ← List.append_assoc] at hpq
    generalize l.getD i default = x at *
    obtain ⟨xn, xm, xl⟩ := x
    have hxl := hx.len
    dsimp only at hxl hpq
    have hlen := congrArg List.length hpq
    rw [List.length_append, List.length_append, hb, hxl] at hlen
    have hw := W_put (nl := nl) hc ho hq hcc k (i + 1) (n + xm) (b ++ xl) (by omega) (by rw [List.length_append, hb, hxl]) hpq
    generalize l.map bsPV = L at *
    generalize q.length = ql at *
    refine W.seg [(0, aT), (2, aV (PV.vec xn (B8 xm xl))), (10, Ans.ups [(2, none), (224, some (Row.mk (B8 (n + xm) (b ++ xl)) false))]), (14, aV (I6 (↑(i + 1) : Int)))] [(0, 0), (1, 1), (224, 2)] (dsPut nl c L (n + xm) (b ++ xl) (i + 1)) (todo' := loopAt Tryz.f69 0) [decide ((i:Int) < (c:Int)) = true, 0 ≤ (i:Int), (i:Int) < (c:Int), PV.vec (PV.nil? (List.getD L i PV.undef)) (B8 (PV.len (PV.els (List.getD L i PV.undef))) (PV.nums (PV.els (List.getD L i PV.undef)))) = PV.vec xn (B8 xm xl), i < c, ([(2, none), (224, some (Row.mk (B8 (n + xm) (List.take n b ++ xl)) false))] : List (Nat × Option Row)) = [(2, none), (224, some (Row.mk (B8 (n + xm) (b ++ xl)) false))], 0 + n = n, (n + xm) * 1 ≤ 140737488355328, n + xm ≤ 9223372036854775807, I6 (IntKind.wrap .i64 ((i:Int) + 1)) = I6 (↑(i + 1) : Int), rr (PV.at 0 []), rr (PV.vec nl (PV.parr 1 c (Sh.vec 1 (Sh.int IntKind.u8)) L)), rr (I6 (c:Int)), rr (I6 (↑(i + 1) : Int)), rr (PV.st 1 [PV.ref 2 [] 1 0 (n + xm)]), rr (B8 (n + xm) (b ++ xl))] (by kernel_rfl) (ac (decide_eq_true (by omega)) (ac (by omega) (ac (by omega) (ac (by (rw [g]; rfl)) (ac (by omega) (ac (by rw [List.take_of_length_le (show List.length b ≤ n by omega)]) (ac (by omega) (ac (by omega) (ac (by omega) (ac (cg (w_i64 rfl (by omega) (by omega))) (ac rfl (ac rfl (ac rfl (ac rfl (ac rfl (ao rfl)))))))))))))))) ?_
    exact hw
theorem pc_wrPut {nl : Bool} {l : List (Bool × Nat × List Int)} {c n m : Nat} {b q : List Int} (hc : l.length = c) (hc0 : 0 < c) (ho : ∀ x ∈ l, BsOk x) (hm : m ≤ 1000000000) (hcc : c ≤ 1000000) (hb : b.length = n) (hq : b ++ cat l = q) (hql : q.length = m) :
    PC Tryz.prog G0 69 [(0, wrR 1 n), (1, rowB n b)] [.at 0 [], .vec nl (.parr 1 c bsh (l.map bsPV))] [(0, wrR 2 m), (2, rowB m q)] (.tup []) := by
  refine PC.of (fn := Tryz.f69) (c := bodyOf Tryz.f69) Tryz.func69 (by kernel_rfl) (by kernel_rfl) (by kernel_rfl) (by kernel_rfl) ?_
  have hx := bs_ok ho (i := 0) (by omega)
  have g := bs_get (l := l) (i := 0) (by omega)
  have hpq : b ++ cat (l.drop 0) = q := hq
  rw [cat_drop (by omega), ← List.append_assoc] at hpq
  generalize l.getD 0 default = x at *
  obtain ⟨xn, xm, xl⟩ := x
  have hxl := hx.len
  dsimp only at hxl hpq
  have hlen := congrArg List.length hpq
  rw [List.length_append, List.length_append, hb, hxl] at hlen
  have hw := W_put (nl := nl) hc ho (by rw [hql]; exact hm) hcc (c - 1) 1 (n + xm) (b ++ xl) (by omega) (by rw [List.length_append, hb, hxl]) hpq
  rw [hql] at hw hlen
  generalize l.map bsPV = L at *
  refine W.seg [] [(0, 0), (1, 1)] (dsPut0 nl c L n b) (todo' := loopAt Tryz.f69 0) [rr (PV.at 0 []), rr (PV.vec nl (PV.parr 1 c (Sh.vec 1 (Sh.int IntKind.u8)) L)), rr (I6 (c:Int)), rr (I6 0), rr (PV.st 1 [PV.ref 1 [] 1 0 n]), rr (B8 n b)] (by kernel_rfl) (ac rfl (ac rfl (ac rfl (ac rfl (ac rfl (ao rfl)))))) ?_
  refine W.seg [(0, aT), (2, aV (PV.vec xn (B8 xm xl))), (10, Ans.ups [(1, none), (224, some (Row.mk (B8 (n + xm) (b ++ xl)) false))]), (14, aV (I6 1))] [(0, 0), (1, 1), (224, 2)] (dsPut nl c L (n + xm) (b ++ xl) 1) (todo' := loopAt Tryz.f69 0) [decide (0 < (c:Int)) = true, (0 : Int) ≤ (0 : Int), 0 < (c:Int), PV.vec (PV.nil? (List.getD L 0 PV.undef)) (B8 (PV.len (PV.els (List.getD L 0 PV.undef))) (PV.nums (PV.els (List.getD L 0 PV.undef)))) = PV.vec xn (B8 xm xl), 0 < c, ([(1, none), (224, some (Row.mk (B8 (n + xm) (List.take n b ++ xl)) false))] : List (Nat × Option Row)) = [(1, none), (224, some (Row.mk (B8 (n + xm) (b ++ xl)) false))], 0 + n = n, (n + xm) * 1 ≤ 140737488355328, n + xm ≤ 9223372036854775807, I6 (IntKind.wrap .i64 ((0 : Int) + (1 : Int))) = I6 1, rr (PV.at 0 []), rr (PV.vec nl (PV.parr 1 c (Sh.vec 1 (Sh.int IntKind.u8)) L)), rr (I6 (c:Int)), I6 1 = I6 (↑(1 : Nat) : Int), rr (PV.st 1 [PV.ref 2 [] 1 0 (n + xm)]), rr (B8 (n + xm) (b ++ xl))] (by kernel_rfl) (ac (decide_eq_true (by omega)) (ac (by omega) (ac (by omega) (ac (by (rw [g]; rfl)) (ac (by omega) (ac (by rw [List.take_of_length_le (show List.length b ≤ n by omega)]) (ac (by omega) (ac (by omega) (ac (by omega) (ac (cg (w_i64 rfl (by omega) (by omega))) (ac rfl (ac rfl (ac rfl (ac (cg (by omega)) (ac rfl (ao rfl)))))))))))))))) ?_
  exact hw
theorem pc_wrBytes {n : Nat} {l : List Int} (h0 : 0 < n) (hn : n ≤ 1000000000) (hl : l.length = n) : PC Tryz.prog G0 70 [(0, wrR 1 n), (1, rowB n l)] [.at 0 []] [(0, wrR 1 n), (1, rowB n l), (2, rowB n l)] (.ref 2 [] 1 0 n) := by
  refine PC.of (fn := Tryz.f70) (c := bodyOf Tryz.f70) Tryz.func70 (by kernel_rfl) (by kernel_rfl) (by kernel_rfl) (by kernel_rfl) ?_
  have c1 := pc_cloneB (nl := false) h0 hn hl
  refine W.ret [(5, Ans.calla true [] [] [PV.vec false (B8 n l)] [(1, Row.mk (B8 n l) false)] (PV.ref 1 [] 1 0 n))] [(0, 0), (1, 1), (145, 2)] [0 + n ≤ n, rr ([] : List (Nat × Row)), ([PV.vec false (B8 n (List.take n l))] : List PV) = [PV.vec false (B8 n l)], PC Tryz.prog G0 87 [] [PV.vec false (B8 n l)] [(1, Row.mk (B8 n l) false)] (PV.ref 1 [] 1 0 n), rr (PV.st 1 [PV.ref 1 [] 1 0 n]), rr (B8 n l), rr (B8 n l), rr (PV.ref 2 [] 1 0 n)] (by kernel_rfl) (ac (by omega) (ac rfl (ac (by rw [List.take_of_length_le (show List.length l ≤ n by omega)]) (ac (c1) (ac rfl (ac rfl (ac rfl (ao rfl))))))))
end Go.Proofs
namespace Go.Proofs
open Go Go.Pe Go.Pm
set_option maxRecDepth 100000
set_option linter.unusedVariables false
/-- a header's bytes -/
def hb (h : Hd) : List Int := (((le h.ver 4 ++ (h.prev ++ h.root)) ++ le h.time 4) ++ le h.bits 4) ++ le h.nonce 4
/-- a header's hash -/
def hhash (h : Hd) : List Int := dsha (hb h)
theorem hb_length {h : Hd} (ho : h.Ok) : (hb h).length = 80 := by
  unfold hb
  simp only [List.length_append, le_length, ho.prev, ho.root]
theorem hb_bytes {h : Hd} (ho : h.Ok) : Bytes (hb h) := by
  unfold hb
  exact (((((le_bytes _ _).append (Bytes.append ho.prevB ho.rootB)).append (le_bytes _ _)).append (le_bytes _ _)).append (le_bytes _ _))
theorem hhash_length (h : Hd) : (hhash h).length = 32 := sha_length _
theorem hhash_bytes (h : Hd) : Bytes (hhash h) := sha_bytes _
def dsHb (ns : List Int) (n : Nat) (b : List Int) (i : Nat) : DS := ⟨[(3, .at 2 []), (25, .iarr .u32 3 ns), (26, .int .i64 i)], [(2, wrR 3 n), (3, rowB n b)]⟩
set_option maxHeartbeats 4000000 in
theorem pc_hdBytes {h : Hd} (ho : h.Ok) : PC Tryz.prog G0 45 [] [h.pv] [(1, rowB 80 (hb h))] (.ref 1 [] 1 0 80) := by
  refine PC.of (fn := Tryz.f45) (c := bodyOf Tryz.f45) Tryz.func45 (by kernel_rfl) (by kernel_rfl) (by kernel_rfl) (by kernel_rfl) ?_
  have hlen := hb_length ho
  have p1 := ho.ver
  have p2 := ho.time
  have p3 := ho.bits
  have p4 := ho.nonce
  have p5 := ho.prev
  have p6 := ho.root
  have c1 := pc_wrNew
  have c2 := pc_wrNumN (x := h.ver) (w := 4) (by omega) (by omega) (by omega)
  have l1 := le_length h.ver 4
  have c3 := pc_wrPut (nl := false) (l := [(false, 32, h.prev), (false, 32, h.root)]) (c := 2) (n := 4) (m := 68) (b := le h.ver 4) (q := le h.ver 4 ++ (h.prev ++ h.root)) rfl (by omega) (by
    intro x hx
    simp only [List.mem_cons, List.not_mem_nil, or_false] at hx
    rcases hx with rfl | rfl
    · exact ⟨ho.prev, ho.prevB⟩
    · exact ⟨ho.root, ho.rootB⟩) (by omega) (by omega) l1 (by simp [cat]) (by simp only [List.length_append, l1, p5, p6])
  have l2 : (le h.ver 4 ++ (h.prev ++ h.root)).length = 68 := by simp only [List.length_append, l1, p5, p6]
  have c4 := pc_wrNum (x := h.time) (w := 4) (by omega) (by omega) l2 (by omega)
  have l3 : ((le h.ver 4 ++ (h.prev ++ h.root)) ++ le h.time 4).length = 72 := by rw [List.length_append, l2, le_length]
  have c5 := pc_wrNum (x := h.bits) (w := 4) (by omega) (by omega) l3 (by omega)
  have l4 : (((le h.ver 4 ++ (h.prev ++ h.root)) ++ le h.time 4) ++ le h.bits 4).length = 76 := by rw [List.length_append, l3, le_length]
  have c6 := pc_wrNum (x := h.nonce) (w := 4) (by omega) (by omega) l4 (by omega)
  have c7 := pc_wrBytes (n := 80) (l := hb h) (by omega) (by omega) hlen
  unfold hb at c7 hlen ⊢
  unfold bsPV at c3
  dsimp only [List.map] at c3
  generalize le h.ver 4 ++ (h.prev ++ h.root) = b1 at *
  generalize b1 ++ le h.time 4 = b2 at *
  generalize b2 ++ le h.bits 4 = b3 at *
  generalize b3 ++ le h.nonce 4 = b4 at *
  generalize le h.ver 4 = b0 at *
  obtain ⟨ver, prev, root, time, bits, nonce⟩ := h
  unfold Hd.pv
  dsimp only at *
  refine W.seg [(2, Ans.call true [] [(1, Row.mk (PV.st 1 [PV.vec true (B8 0 [])]) false)] (PV.at 1 [])), (7, aV (U6 (ver:Int))), (8, Ans.call true [(97, 0)] [(0, Row.mk (PV.st 1 [PV.ref 2 [] 1 0 4]) false), (2, Row.mk (B8 4 b0) false)] (PV.tup [])), (14, Ans.frz [64]), (15, Ans.calla true [(97, 0), (194, 1)] [(0, wrR 1 4), (1, rowB 4 b0)] [PV.at 0 [], PV.vec false (PV.parr 1 2 bsh [PV.vec false (B8 32 prev), PV.vec false (B8 32 root)])] [(0, Row.mk (PV.st 1 [PV.ref 2 [] 1 0 68]) false), (2, Row.mk (B8 68 b1) false)] (PV.tup []))] [(97, 2), (306, 3)] (dsHb [(time:Int), (bits:Int), (nonce:Int)] 68 b1 0) (todo' := loopAt Tryz.f45 0) [PC Tryz.prog G0 67 [] [] [(1, Row.mk (PV.st 1 [PV.vec true (B8 0 [])]) false)] (PV.at 1 []), U6 (IntKind.wrap .u64 (ver:Int)) = U6 (ver:Int), PC Tryz.prog G0 68 [(0, Row.mk (PV.st 1 [PV.vec true (B8 0 [])]) false)] [PV.at 0 [], U6 (ver:Int), I6 4] [(0, Row.mk (PV.st 1 [PV.ref 2 [] 1 0 4]) false), (2, Row.mk (B8 4 b0) false)] (PV.tup []), (0 : Int) ≤ (0 : Int), 0 ≤ (↑(32 : Nat) : Int), (↑(32 : Nat) : Int) ≤ (↑(32 : Nat) : Int), (0 : Int) ≤ (0 : Int), 0 ≤ (↑(32 : Nat) : Int), (↑(32 : Nat) : Int) ≤ (↑(32 : Nat) : Int), 32 ≤ 32, 32 ≤ 32, 2 ≤ 2, rr ([(0, Row.mk (PV.st 1 [PV.ref 1 [] 1 0 4]) false), (1, Row.mk (B8 4 b0) false)] : List (Nat × Row)), ([PV.at 0 [], PV.vec false (PV.parr 1 2 (Sh.vec 1 (Sh.int IntKind.u8)) [PV.vec false (B8 32 (List.take 32 prev)), PV.vec false (B8 32 (List.take 32 root))])] : List PV) = [PV.at 0 [], PV.vec false (PV.parr 1 2 (Sh.vec 1 (Sh.int IntKind.u8)) [PV.vec false (B8 32 prev), PV.vec false (B8 32 root)])], PC Tryz.prog G0 69 [(0, Row.mk (PV.st 1 [PV.ref 1 [] 1 0 4]) false), (1, Row.mk (B8 4 b0) false)] [PV.at 0 [], PV.vec false (PV.parr 1 2 (Sh.vec 1 (Sh.int IntKind.u8)) [PV.vec false (B8 32 prev), PV.vec false (B8 32 root)])] [(0, Row.mk (PV.st 1 [PV.ref 2 [] 1 0 68]) false), (2, Row.mk (B8 68 b1) false)] (PV.tup []), rr (PV.at 2 []), rr (B3 3 [(time:Int), (bits:Int), (nonce:Int)]), I6 0 = I6 (↑(0 : Nat) : Int), rr (PV.st 1 [PV.ref 3 [] 1 0 68]), rr (B8 68 b1)] (by kernel_rfl) (ac (c1) (ac (cg (w_u64 rfl (by omega) (by omega))) (ac (c2) (ac (by omega) (ac (by omega) (ac (by omega) (ac (by omega) (ac (by omega) (ac (by omega) (ac (by omega) (ac (by omega) (ac (by omega) (ac rfl (ac (by rw [List.take_of_length_le (show List.length prev ≤ 32 by omega), List.take_of_length_le (show List.length root ≤ 32 by omega)]) (ac (c3) (ac rfl (ac rfl (ac (cg (by omega)) (ac rfl (ao rfl)))))))))))))))))))) ?_
  refine W.seg [(5, aV (U6 (time:Int))), (6, Ans.call true [(2, 0), (3, 1)] [(0, Row.mk (PV.st 1 [PV.ref 2 [] 1 0 72]) false), (2, Row.mk (B8 72 b2) false)] (PV.tup [])), (7, aV (I6 1))] [(2, 2), (162, 3)] (dsHb [(time:Int), (bits:Int), (nonce:Int)] 72 b2 1) (todo' := loopAt Tryz.f45 0) [0 ≤ (↑(0 : Nat) : Int), (↑(0 : Nat) : Int) < (↑(3 : Nat) : Int), U6 (IntKind.wrap .u64 (time:Int)) = U6 (time:Int), PC Tryz.prog G0 68 [(0, Row.mk (PV.st 1 [PV.ref 1 [] 1 0 68]) false), (1, Row.mk (B8 68 b1) false)] [PV.at 0 [], U6 (time:Int), I6 4] [(0, Row.mk (PV.st 1 [PV.ref 2 [] 1 0 72]) false), (2, Row.mk (B8 72 b2) false)] (PV.tup []), I6 (IntKind.wrap .i64 ((↑(0 : Nat) : Int) + 1)) = I6 1, rr (PV.at 2 []), rr (B3 3 [(time:Int), (bits:Int), (nonce:Int)]), I6 1 = I6 (↑(1 : Nat) : Int), rr (PV.st 1 [PV.ref 3 [] 1 0 72]), rr (B8 72 b2)] (by kernel_rfl) (ac (by omega) (ac (by omega) (ac (cg (w_u64 rfl (by omega) (by omega))) (ac (c4) (ac (cg (w_i64 rfl (by omega) (by omega))) (ac rfl (ac rfl (ac (cg (by omega)) (ac rfl (ao rfl)))))))))) ?_
  refine W.seg [(5, aV (U6 (bits:Int))), (6, Ans.call true [(2, 0), (3, 1)] [(0, Row.mk (PV.st 1 [PV.ref 2 [] 1 0 76]) false), (2, Row.mk (B8 76 b3) false)] (PV.tup [])), (7, aV (I6 2))] [(2, 2), (162, 3)] (dsHb [(time:Int), (bits:Int), (nonce:Int)] 76 b3 2) (todo' := loopAt Tryz.f45 0) [0 ≤ (↑(1 : Nat) : Int), (↑(1 : Nat) : Int) < (↑(3 : Nat) : Int), U6 (IntKind.wrap .u64 (bits:Int)) = U6 (bits:Int), PC Tryz.prog G0 68 [(0, Row.mk (PV.st 1 [PV.ref 1 [] 1 0 72]) false), (1, Row.mk (B8 72 b2) false)] [PV.at 0 [], U6 (bits:Int), I6 4] [(0, Row.mk (PV.st 1 [PV.ref 2 [] 1 0 76]) false), (2, Row.mk (B8 76 b3) false)] (PV.tup []), I6 (IntKind.wrap .i64 ((↑(1 : Nat) : Int) + 1)) = I6 2, rr (PV.at 2 []), rr (B3 3 [(time:Int), (bits:Int), (nonce:Int)]), I6 2 = I6 (↑(2 : Nat) : Int), rr (PV.st 1 [PV.ref 3 [] 1 0 76]), rr (B8 76 b3)] (by kernel_rfl) (ac (by omega) (ac (by omega) (ac (cg (w_u64 rfl (by omega) (by omega))) (ac (c5) (ac (cg (w_i64 rfl (by omega) (by omega))) (ac rfl (ac rfl (ac (cg (by omega)) (ac rfl (ao rfl)))))))))) ?_
  refine W.seg [(5, aV (U6 (nonce:Int))), (6, Ans.call true [(2, 0), (3, 1)] [(0, Row.mk (PV.st 1 [PV.ref 2 [] 1 0 80]) false), (2, Row.mk (B8 80 b4) false)] (PV.tup [])), (7, aV (I6 3))] [(2, 2), (162, 3)] (dsHb [(time:Int), (bits:Int), (nonce:Int)] 80 b4 3) (todo' := loopAt Tryz.f45 0) [0 ≤ (↑(2 : Nat) : Int), (↑(2 : Nat) : Int) < (↑(3 : Nat) : Int), U6 (IntKind.wrap .u64 (nonce:Int)) = U6 (nonce:Int), PC Tryz.prog G0 68 [(0, Row.mk (PV.st 1 [PV.ref 1 [] 1 0 76]) false), (1, Row.mk (B8 76 b3) false)] [PV.at 0 [], U6 (nonce:Int), I6 4] [(0, Row.mk (PV.st 1 [PV.ref 2 [] 1 0 80]) false), (2, Row.mk (B8 80 b4) false)] (PV.tup []), I6 (IntKind.wrap .i64 ((↑(2 : Nat) : Int) + 1)) = I6 3, rr (PV.at 2 []), rr (B3 3 [(time:Int), (bits:Int), (nonce:Int)]), I6 3 = I6 (↑(3 : Nat) : Int), rr (PV.st 1 [PV.ref 3 [] 1 0 80]), rr (B8 80 b4)] (by kernel_rfl) (ac (by omega) (ac (by omega) (ac (cg (w_u64 rfl (by omega) (by omega))) (ac (c6) (ac (cg (w_i64 rfl (by omega) (by omega))) (ac rfl (ac rfl (ac (cg (by omega)) (ac rfl (ao rfl)))))))))) ?_
  refine W.ret [(2, Ans.call true [(2, 0), (3, 1)] [(0, Row.mk (PV.st 1 [PV.ref 1 [] 1 0 80]) false), (1, Row.mk (B8 80 b4) false), (2, Row.mk (B8 80 b4) false)] (PV.ref 2 [] 1 0 80))] [(98, 1)] [PC Tryz.prog G0 70 [(0, Row.mk (PV.st 1 [PV.ref 1 [] 1 0 80]) false), (1, Row.mk (B8 80 b4) false)] [PV.at 0 []] [(0, Row.mk (PV.st 1 [PV.ref 1 [] 1 0 80]) false), (1, Row.mk (B8 80 b4) false), (2, Row.mk (B8 80 b4) false)] (PV.ref 2 [] 1 0 80), rr (B8 80 b4), rr (PV.ref 1 [] 1 0 80)] (by kernel_rfl) (ac (c7) (ac rfl (ao rfl)))
theorem pc_hdHash {h : Hd} (ho : h.Ok) : PC Tryz.prog G0 24 [] [h.pv] [] (.iarr .u8 32 (hhash h)) := by
  refine PC.of (fn := Tryz.f24) (c := bodyOf Tryz.f24) Tryz.func24 (by kernel_rfl) (by kernel_rfl) (by kernel_rfl) (by kernel_rfl) ?_
  have c1 := pc_hdBytes ho
  have hl := hb_length ho
  have e : cat [(false, 80, hb h)] = hb h := by simp [cat]
  have c2 := pc_twice (nl := false) (l := [(false, 80, hb h)]) (c := 1) rfl (by intro x hx; simp at hx; subst hx; exact ⟨hl, hb_bytes ho⟩) (by rw [e]; omega) (by omega)
  rw [e] at c2
  unfold bsPV at c2
  dsimp only [List.map] at c2
  unfold hhash
  generalize dsha (hb h) = res at *
  generalize hb h = b at *
  refine W.ret [(3, Ans.call true [] [(1, Row.mk (B8 80 b) false)] (PV.ref 1 [] 1 0 80)), (4, Ans.frz [113]), (5, Ans.calla true [] [] [PV.vec false (PV.parr 1 1 bsh [PV.vec false (B8 80 b)])] [] (B8 32 res))] [] [PC Tryz.prog G0 45 [] [Hd.pv h] [(1, Row.mk (B8 80 b) false)] (PV.ref 1 [] 1 0 80), 80 ≤ 80, 1 ≤ 1, rr ([] : List (Nat × Row)), ([PV.vec false (PV.parr 1 1 (Sh.vec 1 (Sh.int IntKind.u8)) [PV.vec false (B8 80 (List.take 80 b))])] : List PV) = [PV.vec false (PV.parr 1 1 (Sh.vec 1 (Sh.int IntKind.u8)) [PV.vec false (B8 80 b)])], PC Tryz.prog G0 44 [] [PV.vec false (PV.parr 1 1 (Sh.vec 1 (Sh.int IntKind.u8)) [PV.vec false (B8 80 b)])] [] (B8 32 res), rr (B8 32 res)] (by kernel_rfl) (ac (c1) (ac (by omega) (ac (by omega) (ac rfl (ac (by rw [List.take_of_length_le (show List.length b ≤ 80 by omega)]) (ac (c2) (ao rfl)))))))
end Go.Proofs
namespace Go.Pm
/-- the number of the first k bytes -/
def lv (l : List Int) : Nat → Nat
  | 0 => 0
  | k + 1 => lv l k + at0 l k * 2 ^ (8 * k)
theorem pow8 (k : Nat) : 2 ^ (8 * (k + 1)) = 256 * 2 ^ (8 * k) := by rw [Nat.mul_add, Nat.pow_add, Nat.mul_comm]
theorem lv_lt {l : List Int} (h : Bytes l) : ∀ k, lv l k < 2 ^ (8 * k)
  | 0 => by simp [lv]
  | k + 1 => by
    have h1 := lv_lt h k
    have h2 := (h.get k).2
    have h3 : at0 l k * 2 ^ (8 * k) ≤ 255 * 2 ^ (8 * k) := Nat.mul_le_mul_right _ (by omega)
    rw [lv, pow8]
    omega
theorem lv_or {l : List Int} (h : Bytes l) (k : Nat) : lv l k ||| at0 l k * 2 ^ (8 * k) = lv l (k + 1) := by
  have h1 := lv_lt h k
  rw [lv, Nat.or_comm, Nat.mul_comm (at0 l k), ← Nat.two_pow_add_eq_or_of_lt h1, Nat.add_comm]
theorem at0_drop (l : List Int) (a i : Nat) : at0 (l.drop a) i = at0 l (a + i) := by
  unfold at0
  rw [List.getD_eq_getElem?_getD, List.getElem?_drop, List.getD_eq_getElem?_getD]
theorem at0_take {l : List Int} {a i : Nat} (h : i < a) : at0 (l.take a) i = at0 l i := by
  unfold at0
  rw [List.getD_eq_getElem?_getD, List.getElem?_take_of_lt h, List.getD_eq_getElem?_getD]
theorem lv_add (l : List Int) (a : Nat) : ∀ b, lv l (a + b) = lv l a + 2 ^ (8 * a) * lv (l.drop a) b
  | 0 => by simp [lv]
  | b + 1 => by
    rw [← Nat.add_assoc, lv, lv_add l a b, lv, at0_drop, Nat.mul_add 8 a b, Nat.pow_add, Nat.mul_add (2 ^ (8 * a)), Nat.add_assoc, Nat.mul_left_comm (at0 l (a + b))]
theorem lv_take {l : List Int} {a : Nat} : ∀ {k : Nat}, k ≤ a → lv (l.take a) k = lv l k
  | 0, _ => rfl
  | k + 1, h => by rw [lv, lv, lv_take (by omega), at0_take (by omega)]
theorem lv32_lt {l : List Int} (h : Bytes l) : lv l 32 < W256 := lv_lt h 32
/-- the four words of 32 bytes -/
theorem lv_uw {l : List Int} (h : Bytes l) : uw (lv l 32) = [((lv l 8 : Nat) : Int), ((lv (l.drop 8) 8 : Nat) : Int), ((lv (l.drop 16) 8 : Nat) : Int), ((lv (l.drop 24) 8 : Nat) : Int)] := by
  have e : lv l 32 = wu (lv l 8) (lv (l.drop 8) 8) (lv (l.drop 16) 8) (lv (l.drop 24) 8) := by
    have a1 := lv_add l 8 24
    have a2 := lv_add (l.drop 8) 8 16
    have a3 := lv_add (l.drop 16) 8 8
    rw [List.drop_drop] at a2 a3
    simp only [Nat.reduceAdd, Nat.reduceMul, Nat.reducePow] at a1 a2 a3
    unfold wu
    rw [a1, a2, a3]
  have b1 : ∀ n, lv (l.drop n) 8 < 18446744073709551616 := fun n => lv_lt (h.drop n) 8
  rw [e]
  exact uw_wu (b1 0) (b1 8) (b1 16) (b1 24)
def bwat (v n j : Nat) : Nat := v / 256 ^ (max n (8 * j)) % 256 ^ (8 * j + 8 - max n (8 * j))
def bwsn (v n : Nat) : List Int := [((bwat v n 0 : Nat) : Int), ((bwat v n 1 : Nat) : Int), ((bwat v n 2 : Nat) : Int), ((bwat v n 3 : Nat) : Int)]
end Go.Pm
namespace Go.Proofs
open Go Go.Pe Go.Pm
set_option maxRecDepth 100000
set_option linter.unusedVariables false
def dsNum8 (nl : Bool) (n c : Nat) (l : List Int) (x i : Nat) : DS := ⟨[(0, .vec nl (.iarr .u8 n l)), (3, .int .u64 x), (7, .int .i64 c), (8, .int .i64 i)], []⟩
theorem W_num8 {nl : Bool} {n c : Nat} {l : List Int} (hl : l.length = n) (hb : Bytes l) (hc : c ≤ 8) (hcn : c ≤ n) : ∀ (k i x : Nat), i + k = c → x = lv l i →
    W Tryz.prog G0 Tryz.f71 [] [] (.int .u64 ((lv l c : Nat) : Int)) (loopAt Tryz.f71 0) (dsNum8 nl n c l x i)
  | 0, i, x, hk, hx => by
    have hi : i = c := by omega
    subst hi
    rw [← hx]
    refine W.ret [(0, aF)] [] [decide ((i:Int) < (i:Int)) = false, rr (U6 (x:Int))] (by kernel_rfl) (ac (decide_eq_false (by omega)) (ao rfl))
  | k + 1, i, x, hk, hx => by
    obtain ⟨e, h1⟩ := hb.get i
    have ho := lv_or hb i
    have hlt := lv_lt hb (i + 1)
    have hle : 2 ^ (8 * (i + 1)) ≤ 2 ^ 64 := Nat.pow_le_pow_right (by omega) (by omega)
    have hxl : lv l (i + 1) < 18446744073709551616 := Nat.lt_of_lt_of_le hlt hle
    have hstep : lv l (i + 1) = lv l i + at0 l i * 2 ^ (8 * i) := rfl
    rw [← hx] at ho hstep
    have hmod : at0 l i * 2 ^ (8 * i) % 18446744073709551616 = at0 l i * 2 ^ (8 * i) := Nat.mod_eq_of_lt (by omega)
    have hw := W_num8 (nl := nl) hl hb hc hcn k (i + 1) (lv l (i + 1)) (by omega) rfl
    have hxlt : x < 18446744073709551616 := by omega
    have hmodl : at0 l i * 2 ^ (8 * i) % 18446744073709551616 < 18446744073709551616 := Nat.mod_lt _ (by decide)
    have hor : ((x ||| at0 l i * 2 ^ (8 * i) % 18446744073709551616 : Nat) : Int) = ((lv l (i + 1) : Nat) : Int) := by rw [hmod, ho]
    generalize lv l (i + 1) = y at *
    generalize lv l c = z at *
    generalize at0 l i = b at *
    refine W.seg [(0, aT), (7, aV (U8 (b:Int))), (8, aV (U6 (b:Int))), (10, aV (I6 (↑(8 * i) : Int))), (11, aV (U6 (↑(b * 2 ^ (8 * i) % 18446744073709551616) : Int))), (12, aV (U6 (↑(x ||| b * 2 ^ (8 * i) % 18446744073709551616) : Int))), (13, aV (U6 (y:Int))), (14, aV (I6 (↑(i + 1) : Int)))] [] (dsNum8 nl n c l y (i + 1)) (todo' := loopAt Tryz.f71 0) [decide ((i:Int) < (c:Int)) = true, 0 ≤ (i:Int), (i:Int) < (n:Int), U8 (List.getD l i (0 : Int)) = U8 (b:Int), i < n, U6 (IntKind.wrap .u64 (b:Int)) = U6 (b:Int), I6 (IntKind.wrap .i64 (8 * (i:Int))) = I6 (↑(8 * i) : Int), U6 (IntKind.wrap .u64 ((b:Int) * (2 : Int) ^ min (Int.toNat (↑(8 * i) : Int)) 64)) = U6 (↑(b * 2 ^ (8 * i) % 18446744073709551616) : Int), 0 ≤ (↑(8 * i) : Int), U6 (bits BinOp.or IntKind.u64 (x:Int) (↑(b * 2 ^ (8 * i) % 18446744073709551616) : Int)) = U6 (↑(x ||| b * 2 ^ (8 * i) % 18446744073709551616) : Int), U6 (↑(x ||| b * 2 ^ (8 * i) % 18446744073709551616) : Int) = U6 (y:Int), I6 (IntKind.wrap .i64 ((i:Int) + 1)) = I6 (↑(i + 1) : Int), rr (PV.vec nl (B8 n l)), rr (U6 (y:Int)), rr (I6 (c:Int)), rr (I6 (↑(i + 1) : Int))] (by kernel_rfl) (ac (decide_eq_true (by omega)) (ac (by omega) (ac (by omega) (ac (cg (e)) (ac (by omega) (ac (cg (w_u64 rfl (by omega) (by omega))) (ac (cg (w_i64 rfl (by omega) (by omega))) (ac (cg (shl_u64 rfl rfl)) (ac (by omega) (ac (cg (bor_u64 rfl rfl (by omega) (by omega))) (ac (cg (hor)) (ac (cg (w_i64 rfl (by omega) (by omega))) (ac rfl (ac rfl (ac rfl (ao rfl)))))))))))))))) ?_
    exact hw
theorem pc_num8 {nl : Bool} {n : Nat} {l : List Int} (hl : l.length = n) (hb : Bytes l) : PC Tryz.prog G0 71 [] [.vec nl (.iarr .u8 n l)] [] (.int .u64 ((lv l (min n 8) : Nat) : Int)) := by
  refine PC.of (fn := Tryz.f71) (c := bodyOf Tryz.f71) Tryz.func71 (by kernel_rfl) (by kernel_rfl) (by kernel_rfl) (by kernel_rfl) ?_
  have hm : mn (n : Int) 8 = ((min n 8 : Nat) : Int) := by unfold mn; split <;> omega
  have hw := W_num8 (nl := nl) hl hb (c := min n 8) (by omega) (by omega) (min n 8) 0 0 (by omega) rfl
  generalize lv l (min n 8) = z at *
  generalize min n 8 = c at *
  refine W.seg [(4, aV (I6 (c:Int)))] [] (dsNum8 nl n c l 0 0) (todo' := loopAt Tryz.f71 0) [I6 (mn (n:Int) (8 : Int)) = I6 (c:Int), rr (PV.vec nl (B8 n l)), U6 0 = U6 (↑(0 : Nat) : Int), rr (I6 (c:Int)), I6 0 = I6 (↑(0 : Nat) : Int)] (by kernel_rfl) (ac (cg (hm)) (ac rfl (ac (cg (by omega)) (ac rfl (ao (cg (by omega))))))) ?_
  exact hw
def dsLi (b w : List Int) (i : Nat) : DS := ⟨[(1, .at 1 []), (2, .at 2 []), (3, .at 3 []), (5, .int .i64 i)], [(1, rowB 32 b), (2, ⟨.iarr .u64 4 [0, 0, 0, 0], false⟩), (3, ⟨.iarr .u64 4 w, false⟩)]⟩
set_option maxHeartbeats 4000000 in
theorem pc_wLittle {b : List Int} (hb : Bytes b) (hl : b.length = 32) : PC Tryz.prog G0 46 [] [.iarr .u8 32 b] [] (.iarr .u64 4 (uw (lv b 32))) := by
  refine PC.of (fn := Tryz.f46) (c := bodyOf Tryz.f46) Tryz.func46 (by kernel_rfl) (by kernel_rfl) (by kernel_rfl) (by kernel_rfl) ?_
  rw [lv_uw hb]
  have c : ∀ a, a + 8 ≤ 32 → PC Tryz.prog G0 71 [] [.vec false (.iarr .u8 8 ((drop0 b a).take 8))] [] (.int .u64 ((lv (b.drop a) 8 : Nat) : Int)) := fun a ha => by
    have h := pc_num8 (nl := false) (n := 8) (l := (drop0 b a).take 8) (by rw [drop0_eq, List.length_take, List.length_drop]; omega) (by rw [drop0_eq]; exact (hb.drop a).take 8)
    rw [Nat.min_self, lv_take (Nat.le_refl 8), drop0_eq] at h
    rw [drop0_eq]
    exact h
  have c0 : PC Tryz.prog G0 71 [] [.vec false (.iarr .u8 8 (b.take 8))] [] (.int .u64 ((lv b 8 : Nat) : Int)) := by
    have := c 0 (by omega)
    rw [drop0_eq] at this
    exact this
  have c1 := c 8 (by omega)
  have c2 := c 16 (by omega)
  have c3 := c 24 (by omega)
  clear c
  generalize lv b 8 = w0 at *
  generalize lv (b.drop 8) 8 = w1 at *
  generalize lv (b.drop 16) 8 = w2 at *
  generalize lv (b.drop 24) 8 = w3 at *
  refine W.seg [] [(64, 1), (80, 2), (96, 3)] (dsLi b [(0 : Int), (0 : Int), (0 : Int), (0 : Int)] 0) (todo' := loopAt Tryz.f46 0) [rr (PV.at 1 []), rr (PV.at 2 []), rr (PV.at 3 []), I6 0 = I6 (↑(0 : Nat) : Int), rr (B8 32 b), rr (B6 4 [(0 : Int), (0 : Int), (0 : Int), (0 : Int)]), rr (B6 4 [(0 : Int), (0 : Int), (0 : Int), (0 : Int)])] (by kernel_rfl) (ac rfl (ac rfl (ac rfl (ac (cg (by omega)) (ac rfl (ac rfl (ao rfl))))))) ?_
  refine W.seg [(1, aV (I6 0)), (5, aV (I6 0)), (7, aV (I6 0)), (8, aV (I6 8)), (10, aK (U6 (w0:Int))), (13, aV (I6 1))] [(1, 1), (2, 2), (3, 3)] (dsLi b [(w0:Int), (0 : Int), (0 : Int), (0 : Int)] 1) (todo' := loopAt Tryz.f46 0) [I6 (↑(0 : Nat) : Int) = I6 0, I6 (IntKind.wrap .i64 ((8 : Int) * (0 : Int))) = I6 0, I6 (IntKind.wrap .i64 ((8 : Int) * (0 : Int))) = I6 0, I6 (IntKind.wrap .i64 ((0 : Int) + (8 : Int))) = I6 8, (0 : Int) ≤ (0 : Int), (0 : Int) ≤ (8 : Int), 8 ≤ (↑(32 : Nat) : Int), 8 ≤ 32, PC Tryz.prog G0 71 [] [PV.vec false (B8 8 (List.take 8 b))] [] (U6 (w0:Int)), (0 : Int) ≤ (0 : Int), 0 < (↑(4 : Nat) : Int), 0 < 4, I6 (IntKind.wrap .i64 ((↑(0 : Nat) : Int) + 1)) = I6 1, rr (PV.at 1 []), rr (PV.at 2 []), rr (PV.at 3 []), I6 1 = I6 (↑(1 : Nat) : Int), rr (B8 32 b), rr (B6 4 [(0 : Int), (0 : Int), (0 : Int), (0 : Int)]), rr (B6 4 [(w0:Int), (0 : Int), (0 : Int), (0 : Int)])] (by kernel_rfl) (ac (cg (by omega)) (ac (cg (w_i64 rfl (by omega) (by omega))) (ac (cg (w_i64 rfl (by omega) (by omega))) (ac (cg (w_i64 rfl (by omega) (by omega))) (ac (by omega) (ac (by omega) (ac (by omega) (ac (by omega) (ac (c0) (ac (by omega) (ac (by omega) (ac (by omega) (ac (cg (w_i64 rfl (by omega) (by omega))) (ac rfl (ac rfl (ac rfl (ac (cg (by omega)) (ac rfl (ac rfl (ao rfl)))))))))))))))))))) ?_
  refine W.seg [(1, aV (I6 1)), (5, aV (I6 8)), (7, aV (I6 8)), (8, aV (I6 16)), (10, aK (U6 (w1:Int))), (13, aV (I6 2))] [(1, 1), (2, 2), (3, 3)] (dsLi b [(w0:Int), (w1:Int), (0 : Int), (0 : Int)] 2) (todo' := loopAt Tryz.f46 0) [I6 (↑(1 : Nat) : Int) = I6 1, I6 (IntKind.wrap .i64 ((8 : Int) * (1 : Int))) = I6 8, I6 (IntKind.wrap .i64 ((8 : Int) * (1 : Int))) = I6 8, I6 (IntKind.wrap .i64 ((8 : Int) + (8 : Int))) = I6 16, (0 : Int) ≤ (8 : Int), (8 : Int) ≤ (16 : Int), 16 ≤ (↑(32 : Nat) : Int), 16 ≤ 32, PC Tryz.prog G0 71 [] [PV.vec false (B8 8 (List.take 8 (drop0 b 8)))] [] (U6 (w1:Int)), (0 : Int) ≤ (1 : Int), 1 < (↑(4 : Nat) : Int), 1 < 4, I6 (IntKind.wrap .i64 ((↑(1 : Nat) : Int) + 1)) = I6 2, rr (PV.at 1 []), rr (PV.at 2 []), rr (PV.at 3 []), I6 2 = I6 (↑(2 : Nat) : Int), rr (B8 32 b), rr (B6 4 [(0 : Int), (0 : Int), (0 : Int), (0 : Int)]), rr (B6 4 [(w0:Int), (w1:Int), (0 : Int), (0 : Int)])] (by kernel_rfl) (ac (cg (by omega)) (ac (cg (w_i64 rfl (by omega) (by omega))) (ac (cg (w_i64 rfl (by omega) (by omega))) (ac (cg (w_i64 rfl (by omega) (by omega))) (ac (by omega) (ac (by omega) (ac (by omega) (ac (by omega) (ac (c1) (ac (by omega) (ac (by omega) (ac (by omega) (ac (cg (w_i64 rfl (by omega) (by omega))) (ac rfl (ac rfl (ac rfl (ac (cg (by omega)) (ac rfl (ac rfl (ao rfl)))))))))))))))))))) ?_
  refine W.seg [(1, aV (I6 2)), (5, aV (I6 16)), (7, aV (I6 16)), (8, aV (I6 24)), (10, aK (U6 (w2:Int))), (13, aV (I6 3))] [(1, 1), (2, 2), (3, 3)] (dsLi b [(w0:Int), (w1:Int), (w2:Int), (0 : Int)] 3) (todo' := loopAt Tryz.f46 0) [I6 (↑(2 : Nat) : Int) = I6 2, I6 (IntKind.wrap .i64 ((8 : Int) * (2 : Int))) = I6 16, I6 (IntKind.wrap .i64 ((8 : Int) * (2 : Int))) = I6 16, I6 (IntKind.wrap .i64 ((16 : Int) + (8 : Int))) = I6 24, (0 : Int) ≤ (16 : Int), (16 : Int) ≤ (24 : Int), 24 ≤ (↑(32 : Nat) : Int), 24 ≤ 32, PC Tryz.prog G0 71 [] [PV.vec false (B8 8 (List.take 8 (drop0 b 16)))] [] (U6 (w2:Int)), (0 : Int) ≤ (2 : Int), 2 < (↑(4 : Nat) : Int), 2 < 4, I6 (IntKind.wrap .i64 ((↑(2 : Nat) : Int) + 1)) = I6 3, rr (PV.at 1 []), rr (PV.at 2 []), rr (PV.at 3 []), I6 3 = I6 (↑(3 : Nat) : Int), rr (B8 32 b), rr (B6 4 [(0 : Int), (0 : Int), (0 : Int), (0 : Int)]), rr (B6 4 [(w0:Int), (w1:Int), (w2:Int), (0 : Int)])] (by kernel_rfl) (ac (cg (by omega)) (ac (cg (w_i64 rfl (by omega) (by omega))) (ac (cg (w_i64 rfl (by omega) (by omega))) (ac (cg (w_i64 rfl (by omega) (by omega))) (ac (by omega) (ac (by omega) (ac (by omega) (ac (by omega) (ac (c2) (ac (by omega) (ac (by omega) (ac (by omega) (ac (cg (w_i64 rfl (by omega) (by omega))) (ac rfl (ac rfl (ac rfl (ac (cg (by omega)) (ac rfl (ac rfl (ao rfl)))))))))))))))))))) ?_
  refine W.seg [(1, aV (I6 3)), (5, aV (I6 24)), (7, aV (I6 24)), (8, aV (I6 32)), (10, aK (U6 (w3:Int))), (13, aV (I6 4))] [(1, 1), (2, 2), (3, 3)] (dsLi b [(w0:Int), (w1:Int), (w2:Int), (w3:Int)] 4) (todo' := loopAt Tryz.f46 0) [I6 (↑(3 : Nat) : Int) = I6 3, I6 (IntKind.wrap .i64 ((8 : Int) * (3 : Int))) = I6 24, I6 (IntKind.wrap .i64 ((8 : Int) * (3 : Int))) = I6 24, I6 (IntKind.wrap .i64 ((24 : Int) + (8 : Int))) = I6 32, (0 : Int) ≤ (24 : Int), (24 : Int) ≤ (32 : Int), 32 ≤ (↑(32 : Nat) : Int), 32 ≤ 32, PC Tryz.prog G0 71 [] [PV.vec false (B8 8 (List.take 8 (drop0 b 24)))] [] (U6 (w3:Int)), (0 : Int) ≤ (3 : Int), 3 < (↑(4 : Nat) : Int), 3 < 4, I6 (IntKind.wrap .i64 ((↑(3 : Nat) : Int) + 1)) = I6 4, rr (PV.at 1 []), rr (PV.at 2 []), rr (PV.at 3 []), I6 4 = I6 (↑(4 : Nat) : Int), rr (B8 32 b), rr (B6 4 [(0 : Int), (0 : Int), (0 : Int), (0 : Int)]), rr (B6 4 [(w0:Int), (w1:Int), (w2:Int), (w3:Int)])] (by kernel_rfl) (ac (cg (by omega)) (ac (cg (w_i64 rfl (by omega) (by omega))) (ac (cg (w_i64 rfl (by omega) (by omega))) (ac (cg (w_i64 rfl (by omega) (by omega))) (ac (by omega) (ac (by omega) (ac (by omega) (ac (by omega) (ac (c3) (ac (by omega) (ac (by omega) (ac (by omega) (ac (cg (w_i64 rfl (by omega) (by omega))) (ac rfl (ac rfl (ac rfl (ac (cg (by omega)) (ac rfl (ac rfl (ao rfl)))))))))))))))))))) ?_
  refine W.ret [] [] [rr (B6 4 [(w0:Int), (w1:Int), (w2:Int), (w3:Int)])] (by kernel_rfl) (ao rfl)
/-- a hash's number -/
def hnum (h : Hd) : Nat := lv (hhash h) 32
def meets (h : Hd) : Bool := decide (tgt h.bits ≠ 0 ∧ hnum h ≤ tgt h.bits)
set_option maxHeartbeats 4000000 in
theorem pc_hdMeets {h : Hd} (ho : h.Ok) : PC Tryz.prog G0 25 [] [h.pv] [] (.bool (meets h)) := by
  refine PC.of (fn := Tryz.f25) (c := bodyOf Tryz.f25) Tryz.func25 (by kernel_rfl) (by kernel_rfl) (by kernel_rfl) (by kernel_rfl) ?_
  by_cases h0 : tgt h.bits = 0
  · have c1 := pc_targetN ho.bits h0
    have e : meets h = false := by unfold meets; exact decide_eq_false fun x => x.1 h0
    rw [e]
    refine W.ret [(4, aK (PV.tup [B6 4 (uw 0), I6 5]))] [] [PC Tryz.prog G0 34 [] [U3 (↑(Hd.bits h) : Int)] [] (PV.tup [B6 4 (uw 0), I6 5]), rr (PV.bool false)] (by kernel_rfl) (ac (c1) (ao rfl))
  · have c1 := pc_targetY ho.bits h0
    have c2 := pc_hdHash ho
    have c3 := pc_wLittle (hhash_bytes h) (hhash_length h)
    have hn := lv32_lt (hhash_bytes h)
    have c4 := pc_wCmp hn (tgt_lt h.bits)
    have hl := hhash_length h
    have e0 : meets h = decide (lv (hhash h) 32 ≤ tgt h.bits) := by
      unfold meets hnum
      rw [decide_eq_decide]
      exact ⟨fun x => x.2, fun x => ⟨h0, x⟩⟩
    rw [e0]
    by_cases hc : lv (hhash h) 32 ≤ tgt h.bits
    · obtain ⟨z, hz, hz0⟩ := cmpN_le hc
      rw [hz] at c4
      rw [decide_eq_true hc]
      generalize lv (hhash h) 32 = v at *
      generalize hhash h = hh at *
      refine W.ret [(4, aK (PV.tup [B6 4 (uw (tgt (Hd.bits h))), I6 0])), (15, aK (B8 32 hh)), (16, aK (B6 4 (uw v))), (18, aK (I6 z)), (19, aT)] [] [PC Tryz.prog G0 34 [] [U3 (↑(Hd.bits h) : Int)] [] (PV.tup [B6 4 (uw (tgt (Hd.bits h))), I6 0]), PC Tryz.prog G0 24 [] [Hd.pv h] [] (B8 32 hh), PC Tryz.prog G0 46 [] [B8 32 hh] [] (B6 4 (uw v)), PC Tryz.prog G0 15 [] [B6 4 (uw v), B6 4 (uw (tgt (Hd.bits h)))] [] (I6 z), decide (z ≤ (0 : Int)) = true, rr (PV.bool true)] (by kernel_rfl) (ac (c1) (ac (c2) (ac (c3) (ac (c4) (ac (decide_eq_true (by omega)) (ao rfl))))))
    · rw [cmpN_gt (by omega)] at c4
      rw [decide_eq_false hc]
      generalize lv (hhash h) 32 = v at *
      generalize hhash h = hh at *
      refine W.ret [(4, aK (PV.tup [B6 4 (uw (tgt (Hd.bits h))), I6 0])), (15, aK (B8 32 hh)), (16, aK (B6 4 (uw v))), (18, aK (I6 1))] [] [PC Tryz.prog G0 34 [] [U3 (↑(Hd.bits h) : Int)] [] (PV.tup [B6 4 (uw (tgt (Hd.bits h))), I6 0]), PC Tryz.prog G0 24 [] [Hd.pv h] [] (B8 32 hh), PC Tryz.prog G0 46 [] [B8 32 hh] [] (B6 4 (uw v)), PC Tryz.prog G0 15 [] [B6 4 (uw v), B6 4 (uw (tgt (Hd.bits h)))] [] (I6 1), rr (PV.bool false)] (by kernel_rfl) (ac (c1) (ac (c2) (ac (c3) (ac (c4) (ao rfl)))))
end Go.Proofs
namespace Go.Proofs
open Go Go.Pe Go.Pm
set_option maxRecDepth 100000
set_option linter.unusedVariables false
theorem strOf_size (l : List Int) : (strOf l).size = l.length := by show (l.map _).length = _; rw [List.length_map]
end Go.Proofs
namespace Go.Proofs
open Go Go.Pe Go.Pm
set_option maxRecDepth 100000
set_option linter.unusedVariables false
def hsh : Sh := .st 68 [.int .u32, .iarr .u8 32, .iarr .u8 32, .int .u32, .int .u32, .int .u32]
instance : Inhabited Hd := ⟨⟨0, [], [], 0, 0, 0⟩⟩
/-- a line of headers -/
def lpv (nl : Bool) (l : List Hd) : PV := .vec nl (.parr 68 l.length hsh (l.map Hd.pv))
theorem map_get {l : List Hd} {i : Nat} (h : i < l.length) : (l.map Hd.pv).getD i .undef = (l.getD i default).pv := by
  simp [List.getD_eq_getElem?_getD, h]
theorem ok_get {l : List Hd} {i : Nat} (ho : ∀ h ∈ l, h.Ok) (hi : i < l.length) : (l.getD i default).Ok := by
  rw [List.getD_eq_getElem?_getD, List.getElem?_eq_getElem hi]
  exact ho _ (List.getElem_mem hi)
set_option maxHeartbeats 4000000 in
theorem pc_ruleBitsK {p : Prm} {nl : Bool} {l : List Hd} {n q : Nat} (hp : p.per = (q : Int)) (hq : 1 ≤ q) (hn : l.length = n) (h0 : 0 < n) (hn1 : n ≤ 1000000) (hm : ¬ n % q = 0) : PC Tryz.prog G0 22 [] [p.pv, lpv nl l] [] (.tup [.int .u32 (l.getD (n - 1) default).bits, .int .i64 0]) := by
  refine PC.of (fn := Tryz.f22) (c := bodyOf Tryz.f22) Tryz.func22 (by kernel_rfl) (by kernel_rfl) (by kernel_rfl) (by kernel_rfl) ?_
  have g := map_get (l := l) (i := n - 1) (by omega)
  have hi : (n : Int) - 1 = ((n - 1 : Nat) : Int) := by omega
  unfold lpv
  rw [hn]
  generalize n - 1 = k at *
  refine W.ret [(7, aF), (10, aV (I6 (k:Int))), (12, aV (PV.st 68 [U3 (↑(Hd.ver (List.getD l k default)) : Int), B8 32 (Hd.prev (List.getD l k default)), B8 32 (Hd.root (List.getD l k default)), U3 (↑(Hd.time (List.getD l k default)) : Int), U3 (↑(Hd.bits (List.getD l k default)) : Int), U3 (↑(Hd.nonce (List.getD l k default)) : Int)])), (17, aV (I6 (q:Int))), (18, aV (I6 (↑(n % q) : Int))), (19, aT)] [] [((n:Int) == 0) = false, I6 (IntKind.wrap .i64 ((n:Int) - 1)) = I6 (k:Int), 0 ≤ (k:Int), (k:Int) < (n:Int), expose hsh (List.getD (List.map Hd.pv l) k PV.undef) = PV.st 68 [U3 (↑(Hd.ver (List.getD l k default)) : Int), B8 32 (Hd.prev (List.getD l k default)), B8 32 (Hd.root (List.getD l k default)), U3 (↑(Hd.time (List.getD l k default)) : Int), U3 (↑(Hd.bits (List.getD l k default)) : Int), U3 (↑(Hd.nonce (List.getD l k default)) : Int)], k < n, I6 (Prm.per p) = I6 (q:Int), I6 (Int.tmod (n:Int) (q:Int)) = I6 (↑(n % q) : Int), (q:Int) ≠ (0 : Int), ((↑(n % q) : Int) != 0) = true, rr (PV.tup [U3 (↑(Hd.bits (List.getD l k default)) : Int), I6 0])] (by kernel_rfl) (ac (decide_eq_false (by omega)) (ac (cg (w_i64 hi (by omega) (by omega))) (ac (by omega) (ac (by omega) (ac (by (rw [g]; rfl)) (ac (by omega) (ac (cg (hp)) (ac (cg (tmod_nat rfl rfl)) (ac (by omega) (ac (bne_iff_ne.2 (by omega)) (ao rfl)))))))))))
set_option maxHeartbeats 4000000 in
theorem pc_ruleBitsP {p : Prm} {nl : Bool} {l : List Hd} {n q : Nat} {x e : Int} (hp : p.per = (q : Int)) (hq : 1 ≤ q) (hn : l.length = n) (h0 : 0 < n) (hn1 : n ≤ 1000000) (hm : n % q = 0)
    (hb : PC Tryz.prog G0 42 [] [.int .u32 (l.getD (n - 1) default).bits, .int .u32 p.lim, .int .i64 q, .int .i64 p.sp, .int .u32 (l.getD (n - q) default).time, .int .u32 (l.getD (n - 1) default).time] [] (.tup [.int .u32 x, .int .i64 e])) :
    PC Tryz.prog G0 22 [] [p.pv, lpv nl l] [] (.tup [.int .u32 x, .int .i64 e]) := by
  refine PC.of (fn := Tryz.f22) (c := bodyOf Tryz.f22) Tryz.func22 (by kernel_rfl) (by kernel_rfl) (by kernel_rfl) (by kernel_rfl) ?_
  have hqn : q ≤ n := Nat.le_of_dvd h0 (Nat.dvd_of_mod_eq_zero hm)
  have g := map_get (l := l) (i := n - 1) (by omega)
  have g2 := map_get (l := l) (i := n - q) (by omega)
  have hi : (n : Int) - 1 = ((n - 1 : Nat) : Int) := by omega
  have hi2 : (n : Int) - q = ((n - q : Nat) : Int) := by omega
  have hk2 : n - q < n := by omega
  unfold lpv
  rw [hn]
  generalize n - 1 = k at *
  generalize n - q = k2 at *
  refine W.ret [(7, aF), (10, aV (I6 (k:Int))), (12, aV (PV.st 68 [U3 (↑(Hd.ver (List.getD l k default)) : Int), B8 32 (Hd.prev (List.getD l k default)), B8 32 (Hd.root (List.getD l k default)), U3 (↑(Hd.time (List.getD l k default)) : Int), U3 (↑(Hd.bits (List.getD l k default)) : Int), U3 (↑(Hd.nonce (List.getD l k default)) : Int)])), (17, aV (I6 (q:Int))), (18, aV (I6 (↑(n % q) : Int))), (19, aF), (25, aV (I6 (q:Int))), (31, aV (I6 (q:Int))), (32, aV (I6 (k2:Int))), (35, aV (U3 (↑(Hd.time (List.getD l k2 default)) : Int))), (38, aK (PV.tup [U3 x, I6 e]))] [] [((n:Int) == 0) = false, I6 (IntKind.wrap .i64 ((n:Int) - 1)) = I6 (k:Int), 0 ≤ (k:Int), (k:Int) < (n:Int), expose hsh (List.getD (List.map Hd.pv l) k PV.undef) = PV.st 68 [U3 (↑(Hd.ver (List.getD l k default)) : Int), B8 32 (Hd.prev (List.getD l k default)), B8 32 (Hd.root (List.getD l k default)), U3 (↑(Hd.time (List.getD l k default)) : Int), U3 (↑(Hd.bits (List.getD l k default)) : Int), U3 (↑(Hd.nonce (List.getD l k default)) : Int)], k < n, I6 (Prm.per p) = I6 (q:Int), I6 (Int.tmod (n:Int) (q:Int)) = I6 (↑(n % q) : Int), (q:Int) ≠ (0 : Int), ((↑(n % q) : Int) != 0) = false, I6 (Prm.per p) = I6 (q:Int), I6 (Prm.per p) = I6 (q:Int), I6 (IntKind.wrap .i64 ((n:Int) - (q:Int))) = I6 (k2:Int), 0 ≤ (k2:Int), (k2:Int) < (n:Int), U3 (PV.num (List.headD (List.tail (List.tail (List.tail (PV.fs (List.getD (List.map Hd.pv l) k2 PV.undef))))) PV.undef)) = U3 (↑(Hd.time (List.getD l k2 default)) : Int), k2 < n, PC Tryz.prog G0 42 [] [U3 (↑(Hd.bits (List.getD l k default)) : Int), U3 (↑(Prm.lim p) : Int), I6 (q:Int), I6 (Prm.sp p), U3 (↑(Hd.time (List.getD l k2 default)) : Int), U3 (↑(Hd.time (List.getD l k default)) : Int)] [] (PV.tup [U3 x, I6 e]), rr (PV.tup [U3 x, I6 e])] (by kernel_rfl) (ac (decide_eq_false (by omega)) (ac (cg (w_i64 hi (by omega) (by omega))) (ac (by omega) (ac (by omega) (ac (by (rw [g]; rfl)) (ac (by omega) (ac (cg (hp)) (ac (cg (tmod_nat rfl rfl)) (ac (by omega) (ac (bne_eq_false_iff_eq.2 (by omega)) (ac (cg (hp)) (ac (cg (hp)) (ac (cg (w_i64 hi2 (by omega) (by omega))) (ac (by omega) (ac (by omega) (ac (cg (by (rw [g2]; rfl))) (ac (by omega) (ac (hb) (ao rfl)))))))))))))))))))
/-- a line's sum; an error's number -/
def tot (s : Nat) : List Hd → Nat × Int
  | [] => (s, 0)
  | h :: t => if tgt h.bits = 0 then (0, 5) else if W256 ≤ s + work (tgt h.bits) then (0, 14) else tot (s + work (tgt h.bits)) t
theorem tot_drop {s : Nat} {l : List Hd} {i : Nat} (hi : i < l.length) : tot s (l.drop i) = if tgt (l.getD i default).bits = 0 then (0, 5) else if W256 ≤ s + work (tgt (l.getD i default).bits) then (0, 14) else tot (s + work (tgt (l.getD i default).bits)) (l.drop (i + 1)) := by
  rw [List.drop_eq_getElem_cons hi, tot, List.getD_eq_getElem?_getD, List.getElem?_eq_getElem hi]
  rfl
def dsTot (p : Prm) (nl : Bool) (l : List Hd) (n s i : Nat) : DS := ⟨[(2, .at 2 []), (4, .at 4 []), (6, .at 6 []), (19, .vec nl (.parr 68 n hsh (l.map Hd.pv))), (20, .int .i64 n), (21, .int .i64 i)],
  [(2, ⟨p.pv, false⟩), (4, ⟨.iarr .u64 4 [0, 0, 0, 0], false⟩), (6, ⟨.iarr .u64 4 (uw s), false⟩)]⟩
set_option maxHeartbeats 4000000 in
theorem W_tot {p : Prm} {nl : Bool} {l : List Hd} {n : Nat} (hn : l.length = n) (hn1 : n ≤ 1000000) (ho : ∀ h ∈ l, h.Ok) : ∀ (k i s : Nat), i + k = n → s < W256 →
    W Tryz.prog G0 Tryz.f14 [] [] (.tup [.iarr .u64 4 (uw (tot s (l.drop i)).1), .int .i64 (tot s (l.drop i)).2]) (loopAt Tryz.f14 0) (dsTot p nl l n s i)
  | 0, i, s, hk, hs => by
    rw [List.drop_of_length_le (by omega)]
    unfold tot
    refine W.ret [(0, aF)] [] [decide ((i:Int) < (n:Int)) = false, PV.tup [B6 4 (uw s), I6 0] = PV.tup [B6 4 (uw (Prod.fst (s, (0 : Int)))), I6 (Prod.snd (s, (0 : Int)))]] (by kernel_rfl) (ac (decide_eq_false (by omega)) (ao rfl))
  | k + 1, i, s, hk, hs => by
    rw [tot_drop (by omega)]
    have hb := (ok_get (i := i) ho (by omega)).bits
    have g := map_get (l := l) (i := i) (by omega)
    generalize l.getD i default = h at *
    by_cases h0 : tgt h.bits = 0
    · rw [if_pos h0]
      have c1 := pc_targetN hb h0
      refine W.ret [(0, aT), (2, aV (Hd.pv h)), (7, aK (PV.tup [B6 4 (uw 0), I6 5]))] [] [decide ((i:Int) < (n:Int)) = true, 0 ≤ (i:Int), (i:Int) < (n:Int), expose hsh (List.getD (List.map Hd.pv l) i PV.undef) = Hd.pv h, i < n, PC Tryz.prog G0 34 [] [U3 (↑(Hd.bits h) : Int)] [] (PV.tup [B6 4 (uw 0), I6 5]), PV.tup [B6 4 [(0 : Int), (0 : Int), (0 : Int), (0 : Int)], I6 5] = PV.tup [B6 4 (uw (Prod.fst (0, (5 : Int)))), I6 (Prod.snd (0, (5 : Int)))]] (by kernel_rfl) (ac (decide_eq_true (by omega)) (ac (by omega) (ac (by omega) (ac (by (rw [g]; rfl)) (ac (by omega) (ac (c1) (ao rfl)))))))
    · rw [if_neg h0]
      have c1 := pc_targetY hb h0
      have c2 := pc_work (tgt_lt h.bits)
      have c3 := pc_wAdd hs (work_lt (t := tgt h.bits))
      by_cases h1 : W256 ≤ s + work (tgt h.bits)
      · rw [if_pos h1]
        rw [decide_eq_true h1] at c3
        refine W.ret [(0, aT), (2, aV (Hd.pv h)), (7, aK (PV.tup [B6 4 (uw (tgt (Hd.bits h))), I6 0])), (18, aK (B6 4 (uw (work (tgt (Hd.bits h)))))), (19, aK (PV.tup [B6 4 (uw ((s + work (tgt (Hd.bits h))) % W256)), PV.bool true]))] [] [decide ((i:Int) < (n:Int)) = true, 0 ≤ (i:Int), (i:Int) < (n:Int), expose hsh (List.getD (List.map Hd.pv l) i PV.undef) = Hd.pv h, i < n, PC Tryz.prog G0 34 [] [U3 (↑(Hd.bits h) : Int)] [] (PV.tup [B6 4 (uw (tgt (Hd.bits h))), I6 0]), PC Tryz.prog G0 36 [] [B6 4 (uw (tgt (Hd.bits h)))] [] (B6 4 (uw (work (tgt (Hd.bits h))))), PC Tryz.prog G0 35 [] [B6 4 (uw s), B6 4 (uw (work (tgt (Hd.bits h))))] [] (PV.tup [B6 4 (uw ((s + work (tgt (Hd.bits h))) % W256)), PV.bool true]), PV.tup [B6 4 [(0 : Int), (0 : Int), (0 : Int), (0 : Int)], I6 14] = PV.tup [B6 4 (uw (Prod.fst (0, (14 : Int)))), I6 (Prod.snd (0, (14 : Int)))]] (by kernel_rfl) (ac (decide_eq_true (by omega)) (ac (by omega) (ac (by omega) (ac (by (rw [g]; rfl)) (ac (by omega) (ac (c1) (ac (c2) (ac (c3) (ao rfl)))))))))
      · rw [if_neg h1]
        rw [decide_eq_false h1, Nat.mod_eq_of_lt (by omega)] at c3
        have hs2 : s + work (tgt h.bits) < W256 := by omega
        generalize s + work (tgt h.bits) = s2 at *
        refine W.seg [(0, aT), (2, aV (Hd.pv h)), (7, aK (PV.tup [B6 4 (uw (tgt (Hd.bits h))), I6 0])), (18, aK (B6 4 (uw (work (tgt (Hd.bits h)))))), (19, aK (PV.tup [B6 4 (uw s2), PV.bool false])), (29, aV (I6 (↑(i + 1) : Int)))] [(2, 2), (4, 4), (6, 6)] (dsTot p nl l n s2 (i + 1)) (todo' := loopAt Tryz.f14 0) [decide ((i:Int) < (n:Int)) = true, 0 ≤ (i:Int), (i:Int) < (n:Int), expose hsh (List.getD (List.map Hd.pv l) i PV.undef) = Hd.pv h, i < n, PC Tryz.prog G0 34 [] [U3 (↑(Hd.bits h) : Int)] [] (PV.tup [B6 4 (uw (tgt (Hd.bits h))), I6 0]), PC Tryz.prog G0 36 [] [B6 4 (uw (tgt (Hd.bits h)))] [] (B6 4 (uw (work (tgt (Hd.bits h))))), PC Tryz.prog G0 35 [] [B6 4 (uw s), B6 4 (uw (work (tgt (Hd.bits h))))] [] (PV.tup [B6 4 (uw s2), PV.bool false]), I6 (IntKind.wrap .i64 ((i:Int) + 1)) = I6 (↑(i + 1) : Int), rr (PV.at 2 []), rr (PV.at 4 []), rr (PV.at 6 []), rr (PV.vec nl (PV.parr 68 n hsh (List.map Hd.pv l))), rr (I6 (n:Int)), rr (I6 (↑(i + 1) : Int)), rr (Prm.pv p), rr (B6 4 [(0 : Int), (0 : Int), (0 : Int), (0 : Int)]), rr (B6 4 (uw s2))] (by kernel_rfl) (ac (decide_eq_true (by omega)) (ac (by omega) (ac (by omega) (ac (by (rw [g]; rfl)) (ac (by omega) (ac (c1) (ac (c2) (ac (c3) (ac (cg (w_i64 rfl (by omega) (by omega))) (ac rfl (ac rfl (ac rfl (ac rfl (ac rfl (ac rfl (ac rfl (ac rfl (ao rfl)))))))))))))))))) ?_
        exact W_tot hn hn1 ho k (i + 1) _ (by omega) hs2
theorem mn_one (n : Nat) : mn 1 (n : Int) = ((n - (n - 1) : Nat) : Int) := by unfold mn; split <;> omega
set_option maxHeartbeats 4000000 in
theorem pc_total {p : Prm} {nl : Bool} {l : List Hd} (hn1 : l.length ≤ 1000000) (ho : ∀ h ∈ l, h.Ok) (hs : p.sum < W256) :
    PC Tryz.prog G0 14 [] [p.pv, lpv nl l] [] (.tup [.iarr .u64 4 (uw (tot p.sum (l.drop 1)).1), .int .i64 (tot p.sum (l.drop 1)).2]) := by
  refine PC.of (fn := Tryz.f14) (c := bodyOf Tryz.f14) Tryz.func14 (by kernel_rfl) (by kernel_rfl) (by kernel_rfl) (by kernel_rfl) ?_
  have hm := mn_one l.length
  have hl : (l.drop 1).length = l.length - 1 := by simp
  have hk : l.length - (l.length - 1) ≤ l.length := by omega
  have hd : (l.length : Int) - ((l.length - (l.length - 1) : Nat) : Int) = ((l.length - 1 : Nat) : Int) := by omega
  refine W.seg [(10, aV (I6 (↑(List.length l - (List.length l - 1)) : Int))), (11, aV (PV.vec nl (PV.parr 68 (List.length l - 1) hsh (List.take (List.length l - 1) (drop0 (List.map Hd.pv l) (List.length l - (List.length l - 1)))))))] [(64, 2), (80, 4), (144, 6)] (dsTot p nl (List.drop 1 l) (List.length l - 1) (Prm.sum p) 0) (todo' := loopAt Tryz.f14 0) [I6 (mn (1 : Int) (↑(List.length l) : Int)) = I6 (↑(List.length l - (List.length l - 1)) : Int), PV.vec nl (PV.parr 68 (Int.toNat ((↑(List.length l) : Int) - (↑(List.length l - (List.length l - 1)) : Int))) hsh (List.take (Int.toNat ((↑(List.length l) : Int) - (↑(List.length l - (List.length l - 1)) : Int))) (drop0 (List.map Hd.pv l) (Int.toNat (↑(List.length l - (List.length l - 1)) : Int))))) = PV.vec nl (PV.parr 68 (List.length l - 1) hsh (List.take (List.length l - 1) (drop0 (List.map Hd.pv l) (List.length l - (List.length l - 1))))), 0 ≤ (↑(List.length l - (List.length l - 1)) : Int), (↑(List.length l - (List.length l - 1)) : Int) ≤ (↑(List.length l) : Int), (↑(List.length l) : Int) ≤ (↑(List.length l) : Int), rr (PV.at 2 []), rr (PV.at 4 []), rr (PV.at 6 []), PV.vec nl (PV.parr 68 (List.length l - 1) hsh (List.take (List.length l - 1) (drop0 (List.map Hd.pv l) (List.length l - (List.length l - 1))))) = PV.vec nl (PV.parr 68 (List.length l - 1) hsh (List.map Hd.pv (List.drop 1 l))), rr (I6 (↑(List.length l - 1) : Int)), I6 0 = I6 (↑(0 : Nat) : Int), rr (Prm.pv p), rr (B6 4 [(0 : Int), (0 : Int), (0 : Int), (0 : Int)]), rr (B6 4 (uw (Prm.sum p)))] (by kernel_rfl) (ac (cg (hm)) (ac (by rw [show Int.toNat ((↑(List.length l) : Int) - (↑(List.length l - (List.length l - 1)) : Int)) = List.length l - 1 by omega, show Int.toNat (↑(List.length l - (List.length l - 1)) : Int) = List.length l - (List.length l - 1) by omega]) (ac (by omega) (ac (by omega) (ac (by omega) (ac rfl (ac rfl (ac rfl (ac ?_ (ac rfl (ac (cg (by omega)) (ac rfl (ac rfl (ao rfl)))))))))))))) ?_
  · have e1 : ((l.length : Int) - ((l.length - (l.length - 1) : Nat) : Int)).toNat = l.length - 1 := by omega
    have e2 : l.drop (l.length - (l.length - 1)) = l.drop 1 := by
      cases l with
      | nil => rfl
      | cons a t => rw [show (a :: t).length - ((a :: t).length - 1) = 1 by simp only [List.length_cons]; omega]
    (try rw [e1]); rw [drop0_eq, ← List.map_drop, e2, List.take_of_length_le (by simp)]
  exact W_tot hl (by omega) (fun h hh => ho h (List.mem_of_mem_drop hh)) _ 0 _ (Nat.zero_add _) hs
end Go.Proofs
namespace Go.Proofs
open Go Go.Pe Go.Pm
set_option maxRecDepth 100000
set_option linter.unusedVariables false
theorem pc_ref7 (h : Hd) : PC Tryz.prog G0 12 [] [h.pv] [] h.pv := by
  refine PC.of (fn := Tryz.f12) (c := bodyOf Tryz.f12) Tryz.func12 (by kernel_rfl) (by kernel_rfl) (by kernel_rfl) (by kernel_rfl) ?_
  refine W.ret [] [] [rr (Hd.pv h)] (by kernel_rfl) (ao rfl)
theorem pc_bOf4 {v : Nat} (hv : v < W256) : PC Tryz.prog G0 20 [] [.vec false (.iarr .u64 4 (uw v))] [] (bv false v) := by
  have h := pc_bOf (nl := false) (m := 4) (v := v) (ws := uw v) (by omega) (by omega) rfl (nd_le.1 (nd_W256.2 hv))
  exact h
set_option maxHeartbeats 4000000 in
theorem pc_rref {p : Prm} (hs : p.sum < W256) : PC Tryz.prog G0 7 [] [p.pv] [] p.rpv := by
  refine PC.of (fn := Tryz.f7) (c := bodyOf Tryz.f7) Tryz.func7 (by kernel_rfl) (by kernel_rfl) (by kernel_rfl) (by kernel_rfl) ?_
  have g1 := pc_ref7 p.gen
  have g2 := pc_bOf4 hs
  unfold uw at g2
  refine W.ret [(14, aK (Hd.pv (Prm.gen p))), (17, aV (U6 (↑(Prm.sum p % 18446744073709551616) : Int))), (20, aV (U6 (↑(Prm.sum p / 18446744073709551616 % 18446744073709551616) : Int))), (23, aV (U6 (↑(Prm.sum p / 18446744073709551616 / 18446744073709551616 % 18446744073709551616) : Int))), (26, aV (U6 (↑(Prm.sum p / 18446744073709551616 / 18446744073709551616 / 18446744073709551616 % 18446744073709551616) : Int))), (28, Ans.call false [] [] (PV.vec false (BI (nd (Prm.sum p)) (dg (Prm.sum p)))))] [] [PC Tryz.prog G0 12 [] [Hd.pv (Prm.gen p)] [] (Hd.pv (Prm.gen p)), (0 : Int) ≤ (0 : Int), 0 < (↑(4 : Nat) : Int), U6 (List.getD (uw (Prm.sum p)) 0 (0 : Int)) = U6 (↑(Prm.sum p % 18446744073709551616) : Int), 0 < 4, (0 : Int) ≤ (1 : Int), 1 < (↑(4 : Nat) : Int), U6 (List.getD (uw (Prm.sum p)) 1 (0 : Int)) = U6 (↑(Prm.sum p / 18446744073709551616 % 18446744073709551616) : Int), 1 < 4, (0 : Int) ≤ (2 : Int), 2 < (↑(4 : Nat) : Int), U6 (List.getD (uw (Prm.sum p)) 2 (0 : Int)) = U6 (↑(Prm.sum p / 18446744073709551616 / 18446744073709551616 % 18446744073709551616) : Int), 2 < 4, (0 : Int) ≤ (3 : Int), 3 < (↑(4 : Nat) : Int), U6 (List.getD (uw (Prm.sum p)) 3 (0 : Int)) = U6 (↑(Prm.sum p / 18446744073709551616 / 18446744073709551616 / 18446744073709551616 % 18446744073709551616) : Int), 3 < 4, 4 ≤ 4, PC Tryz.prog G0 20 [] [PV.vec false (B6 4 [(↑(Prm.sum p % 18446744073709551616) : Int), (↑(Prm.sum p / 18446744073709551616 % 18446744073709551616) : Int), (↑(Prm.sum p / 18446744073709551616 / 18446744073709551616 % 18446744073709551616) : Int), (↑(Prm.sum p / 18446744073709551616 / 18446744073709551616 / 18446744073709551616 % 18446744073709551616) : Int)])] [] (PV.vec false (BI (nd (Prm.sum p)) (dg (Prm.sum p)))), rr (Prm.rpv p)] (by kernel_rfl) (ac (g1) (ac (by omega) (ac (by omega) (ac (cg rfl) (ac (by omega) (ac (by omega) (ac (by omega) (ac (cg rfl) (ac (by omega) (ac (by omega) (ac (by omega) (ac (cg rfl) (ac (by omega) (ac (by omega) (ac (by omega) (ac (cg rfl) (ac (by omega) (ac (by omega) (ac (g2) (ao rfl))))))))))))))))))))
def z32 : List Int := [0, 0, 0, 0, 0, 0, 0, 0, 0, 0, 0, 0, 0, 0, 0, 0, 0, 0, 0, 0, 0, 0, 0, 0, 0, 0, 0, 0, 0, 0, 0, 0]
def plainP : Prm := ⟨545259519, 4, 10, 100, 50, ⟨0, z32, z32, 1000, 545259519, 0⟩, 0⟩
def zeroP : Prm := ⟨0, 0, 0, 0, 0, ⟨0, z32, z32, 0, 0, 0⟩, 0⟩
theorem plain_ok : plainP.Ok := ⟨by decide, ⟨by decide, by decide, by decide, by decide, rfl, rfl, by decide, by decide⟩, by decide⟩
theorem zero_ok : zeroP.Ok := ⟨by decide, ⟨by decide, by decide, by decide, by decide, rfl, rfl, by decide, by decide⟩, by decide⟩
theorem plain_may : plainP.May := ⟨by decide +kernel, by decide +kernel, by decide +kernel, by decide, by decide, by decide, by decide⟩
theorem zero_may : ¬ zeroP.May := fun h => by have := h.per; revert this; decide
theorem pc_plain : PC Tryz.prog G0 21 [] [] [] plainP.pv := by
  refine PC.of (fn := Tryz.f21) (c := bodyOf Tryz.f21) Tryz.func21 (by kernel_rfl) (by kernel_rfl) (by kernel_rfl) (by kernel_rfl) ?_
  refine W.ret [] [] [PV.st 77 [U3 545259519, I6 4, I6 10, I6 100, I6 50, PV.st 68 [U3 0, B8 32 (List.replicate 32 0), B8 32 (List.replicate 32 0), U3 1000, U3 545259519, U3 0], B6 4 [(0 : Int), (0 : Int), (0 : Int), (0 : Int)]] = PV.st 77 [U3 (↑(545259519 : Nat) : Int), I6 (Prm.per plainP), I6 (Prm.sp plainP), I6 (Prm.fu plainP), I6 (Prm.cap plainP), PV.st 68 [U3 (↑(0 : Nat) : Int), B8 32 (List.replicate 32 0), B8 32 (List.replicate 32 0), U3 (↑(1000 : Nat) : Int), U3 (↑(545259519 : Nat) : Int), U3 (↑(0 : Nat) : Int)], B6 4 (uw (Prm.sum plainP))]] (by kernel_rfl) (ao rfl)
set_option maxHeartbeats 4000000 in
theorem pc_awake19 : PC Tryz.prog G0 8 [] [] [] (.bool true) := by
  refine PC.of (fn := Tryz.f8) (c := bodyOf Tryz.f8) Tryz.func8 (by kernel_rfl) (by kernel_rfl) (by kernel_rfl) (by kernel_rfl) ?_
  have g1 := pc_checkY plain_ok plain_may
  have g2 := pc_checkN zero_ok zero_may
  have g3 := pc_ruleBitsK (p := plainP) (nl := false) (l := [plainP.gen]) (n := 1) (q := 4) rfl (by omega) rfl (by omega) (by omega) (by omega)
  have g4 := pc_plain
  refine W.ret [(1, aK (PV.st 77 [U3 (↑(545259519 : Nat) : Int), I6 (Prm.per plainP), I6 (Prm.sp plainP), I6 (Prm.fu plainP), I6 (Prm.cap plainP), PV.st 68 [U3 (↑(0 : Nat) : Int), B8 32 (List.replicate 32 0), B8 32 (List.replicate 32 0), U3 (↑(1000 : Nat) : Int), U3 (↑(545259519 : Nat) : Int), U3 (↑(0 : Nat) : Int)], B6 4 (uw (Prm.sum plainP))])), (8, aK (PV.tup [U3 (↑(545259519 : Nat) : Int), I6 0])), (10, aV (U3 545259519)), (15, aK (I6 0)), (19, aK (I6 1))] [] [PC Tryz.prog G0 21 [] [] [] (PV.st 77 [U3 (↑(545259519 : Nat) : Int), I6 (Prm.per plainP), I6 (Prm.sp plainP), I6 (Prm.fu plainP), I6 (Prm.cap plainP), PV.st 68 [U3 (↑(0 : Nat) : Int), B8 32 (List.replicate 32 0), B8 32 (List.replicate 32 0), U3 (↑(1000 : Nat) : Int), U3 (↑(545259519 : Nat) : Int), U3 (↑(0 : Nat) : Int)], B6 4 (uw (Prm.sum plainP))]), 1 ≤ 1, PC Tryz.prog G0 22 [] [PV.st 77 [U3 (↑(545259519 : Nat) : Int), I6 (Prm.per plainP), I6 (Prm.sp plainP), I6 (Prm.fu plainP), I6 (Prm.cap plainP), PV.st 68 [U3 (↑(0 : Nat) : Int), B8 32 (List.replicate 32 0), B8 32 (List.replicate 32 0), U3 (↑(1000 : Nat) : Int), U3 (↑(545259519 : Nat) : Int), U3 (↑(0 : Nat) : Int)], B6 4 (uw (Prm.sum plainP))], PV.vec false (PV.parr 68 1 hsh [PV.st 68 [U3 (↑(0 : Nat) : Int), B8 32 (List.replicate 32 0), B8 32 (List.replicate 32 0), U3 (↑(1000 : Nat) : Int), U3 (↑(545259519 : Nat) : Int), U3 (↑(0 : Nat) : Int)]])] [] (PV.tup [U3 (↑(545259519 : Nat) : Int), I6 0]), U3 (↑(545259519 : Nat) : Int) = U3 545259519, PC Tryz.prog G0 23 [] [PV.st 77 [U3 (↑(545259519 : Nat) : Int), I6 (Prm.per plainP), I6 (Prm.sp plainP), I6 (Prm.fu plainP), I6 (Prm.cap plainP), PV.st 68 [U3 (↑(0 : Nat) : Int), B8 32 (List.replicate 32 0), B8 32 (List.replicate 32 0), U3 (↑(1000 : Nat) : Int), U3 (↑(545259519 : Nat) : Int), U3 (↑(0 : Nat) : Int)], B6 4 (uw (Prm.sum plainP))]] [] (I6 0), PC Tryz.prog G0 23 [] [PV.st 77 [U3 0, I6 0, I6 0, I6 0, I6 0, PV.st 68 [U3 0, B8 32 (List.replicate 32 0), B8 32 (List.replicate 32 0), U3 0, U3 0, U3 0], B6 4 [(0 : Int), (0 : Int), (0 : Int), (0 : Int)]]] [] (I6 1), rr (PV.bool true)] (by kernel_rfl) (ac (g4) (ac (by omega) (ac (g3) (ac (cg (by omega)) (ac (g1) (ac (g2) (ao rfl)))))))
theorem u32_nat {n : Int} (h : IntKind.u32.wrap n = n) : ∃ m : Nat, n = m ∧ m < 4294967296 := by
  rw [wrap_bounds] at h
  obtain ⟨h1, h2⟩ := h
  have e1 : IntKind.u32.min = 0 := rfl
  have e2 : IntKind.u32.max = 4294967295 := rfl
  exact ⟨n.toNat, by omega, by omega⟩
theorem u8_bytes {l : List Int} (h : ∀ x ∈ l, IntKind.u8.wrap x = x) : ∀ x ∈ l, 0 ≤ x ∧ x ≤ 255 := fun x hx => by
  have := h x hx
  rw [wrap_bounds] at this
  exact this
theorem u64_words {l : List Int} (h : ∀ x ∈ l, IntKind.u64.wrap x = x) : ∀ x ∈ l, 0 ≤ x ∧ x ≤ 18446744073709551615 := fun x hx => by
  have := h x hx
  rw [wrap_bounds] at this
  exact this
theorem hd_of {p : PV} (hc : conf hsh p = true) (hw : WF p) : ∃ h : Hd, p = h.pv ∧ h.Ok := by
  have e := expose_conf hsh p hc
  obtain ⟨a, b, c, d, x, y, rfl⟩ : ∃ a b c d x y, p = .st 68 [.int .u32 a, .iarr .u8 32 b, .iarr .u8 32 c, .int .u32 d, .int .u32 x, .int .u32 y] := ⟨_, _, _, _, _, _, e.symm⟩
  simp only [WF, WFL] at hw
  obtain ⟨_, ha, ⟨hb1, hb2⟩, ⟨hc1, hc2⟩, hd, hx, hy, _⟩ := hw
  obtain ⟨a, rfl, ka⟩ := u32_nat ha
  obtain ⟨d, rfl, kd⟩ := u32_nat hd
  obtain ⟨x, rfl, kx⟩ := u32_nat hx
  obtain ⟨y, rfl, ky⟩ := u32_nat hy
  exact ⟨⟨a, b, c, d, x, y⟩, rfl, ⟨ka, kd, kx, ky, hb1, hc1, u8_bytes hb2, u8_bytes hc2⟩⟩
theorem line_of : ∀ {l : List PV}, WFL l → (∀ q ∈ l, size q = 68 ∧ conf hsh q = true ∧ noref q = true) → ∃ m : List Hd, l = m.map Hd.pv ∧ ∀ h ∈ m, h.Ok
  | [], _, _ => ⟨[], rfl, fun h hh => by cases hh⟩
  | p :: l, hw, hq => by
    simp only [WFL] at hw
    obtain ⟨h, rfl, ho⟩ := hd_of (hq p (by simp)).2.1 hw.1
    obtain ⟨m, rfl, hm⟩ := line_of hw.2 fun q hh => hq q (by simp [hh])
    refine ⟨h :: m, rfl, fun x hx => ?_⟩
    rcases List.mem_cons.1 hx with rfl | hx
    · exact ho
    · exact hm x hx
def psh : Sh := .st 77 [.int .u32, .int .i64, .int .i64, .int .i64, .int .i64, hsh, .iarr .u64 4]
theorem prm_of {p : PV} (hc : conf psh p = true) (hw : WF p) : ∃ q : Prm, p = q.pv ∧ q.Ok := by
  have e := expose_conf psh p hc
  obtain ⟨a, b, c, d, x, g, s, rfl⟩ : ∃ a b c d x g s, p = .st 77 [.int .u32 a, .int .i64 b, .int .i64 c, .int .i64 d, .int .i64 x, expose hsh g, .iarr .u64 4 s] := ⟨_, _, _, _, _, _, _, e.symm⟩
  have hg : conf hsh (expose hsh g) = true := by
    simp only [psh, conf, confL, Bool.and_eq_true] at hc
    exact hc.2.2.2.2.2.2.1
  simp only [WF, WFL] at hw
  obtain ⟨_, ha, _, _, _, _, hwg, ⟨hs1, hs2⟩, _⟩ := hw
  obtain ⟨h, eh, ho⟩ := hd_of hg hwg
  obtain ⟨a, rfl, ka⟩ := u32_nat ha
  obtain ⟨v, hv, rfl⟩ := uw_of hs1 (u64_words hs2)
  refine ⟨⟨a, b, c, d, x, h, v⟩, ?_, ⟨ka, ho, hv⟩⟩
  rw [eh]
  rfl
end Go.Proofs
namespace Go.Proofs
open Go Go.Pe Go.Pm
set_option maxRecDepth 100000
set_option linter.unusedVariables false
/-- a header with its hash -/
def lk (x : Hd × List Int) : PV := .st 100 [x.1.pv, .iarr .u8 32 x.2]
def lksh : Sh := .st 100 [hsh, .iarr .u8 32]
def links (nl : Bool) (l : List (Hd × List Int)) : PV := .vec nl (.parr 100 l.length lksh (l.map lk))
theorem lk_get {l : List (Hd × List Int)} {i : Nat} (h : i < l.length) : (l.map lk).getD i .undef = lk (l.getD i default) := by
  simp [List.getD_eq_getElem?_getD, h]
set_option maxHeartbeats 4000000 in
theorem pc_rBits19K {p : Prm} {nl : Bool} {l : List (Hd × List Int)} {n q : Nat} (hp : p.per = (q : Int)) (hq : 1 ≤ q) (hn : l.length = n) (h0 : 0 < n) (hn1 : n ≤ 1000000) (hm : ¬ n % q = 0) : PC Tryz.prog G0 29 [] [p.rpv, links nl l] [] (.tup [.int .u32 (l.getD (n - 1) default).1.bits, .bool true]) := by
  refine PC.of (fn := Tryz.f29) (c := bodyOf Tryz.f29) Tryz.func29 (by kernel_rfl) (by kernel_rfl) (by kernel_rfl) (by kernel_rfl) ?_
  have g := lk_get (l := l) (i := n - 1) (by omega)
  have hi : (n : Int) - 1 = ((n - 1 : Nat) : Int) := by omega
  have hk : n - 1 < n := by omega
  unfold links
  rw [hn]
  generalize n - 1 = k at *
  refine W.ret [(6, aV (I6 (k:Int))), (9, aV (PV.st 68 [U3 (↑(Hd.ver (Prod.fst (List.getD l k (default, [])))) : Int), B8 32 (Hd.prev (Prod.fst (List.getD l k (default, [])))), B8 32 (Hd.root (Prod.fst (List.getD l k (default, [])))), U3 (↑(Hd.time (Prod.fst (List.getD l k (default, [])))) : Int), U3 (↑(Hd.bits (Prod.fst (List.getD l k (default, [])))) : Int), U3 (↑(Hd.nonce (Prod.fst (List.getD l k (default, [])))) : Int)])), (15, aV (I6 (q:Int))), (16, aV (I6 (↑(n % q) : Int))), (17, aT)] [] [I6 (IntKind.wrap .i64 ((n:Int) - 1)) = I6 (k:Int), 0 ≤ (k:Int), (k:Int) < (n:Int), expose hsh (List.headD (PV.fs (List.getD (List.map lk l) k PV.undef)) PV.undef) = PV.st 68 [U3 (↑(Hd.ver (Prod.fst (List.getD l k (default, [])))) : Int), B8 32 (Hd.prev (Prod.fst (List.getD l k (default, [])))), B8 32 (Hd.root (Prod.fst (List.getD l k (default, [])))), U3 (↑(Hd.time (Prod.fst (List.getD l k (default, [])))) : Int), U3 (↑(Hd.bits (Prod.fst (List.getD l k (default, [])))) : Int), U3 (↑(Hd.nonce (Prod.fst (List.getD l k (default, [])))) : Int)], k < n, I6 (Prm.per p) = I6 (q:Int), I6 (Int.tmod (n:Int) (q:Int)) = I6 (↑(n % q) : Int), (q:Int) ≠ (0 : Int), ((↑(n % q) : Int) != 0) = true, rr (PV.tup [U3 (↑(Hd.bits (Prod.fst (List.getD l k (default, [])))) : Int), PV.bool true])] (by kernel_rfl) (ac (cg (w_i64 hi (by omega) (by omega))) (ac (by omega) (ac (by omega) (ac (by (rw [g]; rfl)) (ac (by omega) (ac (cg (hp)) (ac (cg (tmod_nat rfl rfl)) (ac (by omega) (ac (bne_iff_ne.2 (by omega)) (ao rfl))))))))))
set_option maxHeartbeats 4000000 in
theorem pc_rBits19P {p : Prm} {nl : Bool} {l : List (Hd × List Int)} {n q : Nat} {x : Int} {b : Bool} (hp : p.per = (q : Int)) (hq : 1 ≤ q) (hn : l.length = n) (h0 : 0 < n) (hn1 : n ≤ 1000000) (hm : n % q = 0)
    (hb : PC Tryz.prog G0 48 [] [.int .u32 (l.getD (n - 1) default).1.bits, .int .u32 p.lim, .int .i64 q, .int .i64 p.sp, .int .u32 (l.getD (n - q) default).1.time, .int .u32 (l.getD (n - 1) default).1.time] [] (.tup [.int .u32 x, .bool b])) :
    PC Tryz.prog G0 29 [] [p.rpv, links nl l] [] (.tup [.int .u32 x, .bool b]) := by
  refine PC.of (fn := Tryz.f29) (c := bodyOf Tryz.f29) Tryz.func29 (by kernel_rfl) (by kernel_rfl) (by kernel_rfl) (by kernel_rfl) ?_
  have hqn : q ≤ n := Nat.le_of_dvd h0 (Nat.dvd_of_mod_eq_zero hm)
  have g := lk_get (l := l) (i := n - 1) (by omega)
  have g2 := lk_get (l := l) (i := n - q) (by omega)
  have hi : (n : Int) - 1 = ((n - 1 : Nat) : Int) := by omega
  have hi2 : (n : Int) - q = ((n - q : Nat) : Int) := by omega
  have hk2 : n - q < n := by omega
  have hk : n - 1 < n := by omega
  unfold links
  rw [hn]
  generalize n - 1 = k at *
  generalize n - q = k2 at *
  refine W.ret [(6, aV (I6 (k:Int))), (9, aV (PV.st 68 [U3 (↑(Hd.ver (Prod.fst (List.getD l k (default, [])))) : Int), B8 32 (Hd.prev (Prod.fst (List.getD l k (default, [])))), B8 32 (Hd.root (Prod.fst (List.getD l k (default, [])))), U3 (↑(Hd.time (Prod.fst (List.getD l k (default, [])))) : Int), U3 (↑(Hd.bits (Prod.fst (List.getD l k (default, [])))) : Int), U3 (↑(Hd.nonce (Prod.fst (List.getD l k (default, [])))) : Int)])), (15, aV (I6 (q:Int))), (16, aV (I6 (↑(n % q) : Int))), (17, aF), (22, aV (I6 (q:Int))), (23, aV (I6 (k2:Int))), (26, aV (PV.st 68 [U3 (↑(Hd.ver (Prod.fst (List.getD l k2 (default, [])))) : Int), B8 32 (Hd.prev (Prod.fst (List.getD l k2 (default, [])))), B8 32 (Hd.root (Prod.fst (List.getD l k2 (default, [])))), U3 (↑(Hd.time (Prod.fst (List.getD l k2 (default, [])))) : Int), U3 (↑(Hd.bits (Prod.fst (List.getD l k2 (default, [])))) : Int), U3 (↑(Hd.nonce (Prod.fst (List.getD l k2 (default, [])))) : Int)])), (34, aV (I6 (q:Int))), (41, aK (PV.tup [U3 x, PV.bool b]))] [] [I6 (IntKind.wrap .i64 ((n:Int) - 1)) = I6 (k:Int), 0 ≤ (k:Int), (k:Int) < (n:Int), expose hsh (List.headD (PV.fs (List.getD (List.map lk l) k PV.undef)) PV.undef) = PV.st 68 [U3 (↑(Hd.ver (Prod.fst (List.getD l k (default, [])))) : Int), B8 32 (Hd.prev (Prod.fst (List.getD l k (default, [])))), B8 32 (Hd.root (Prod.fst (List.getD l k (default, [])))), U3 (↑(Hd.time (Prod.fst (List.getD l k (default, [])))) : Int), U3 (↑(Hd.bits (Prod.fst (List.getD l k (default, [])))) : Int), U3 (↑(Hd.nonce (Prod.fst (List.getD l k (default, [])))) : Int)], k < n, I6 (Prm.per p) = I6 (q:Int), I6 (Int.tmod (n:Int) (q:Int)) = I6 (↑(n % q) : Int), (q:Int) ≠ (0 : Int), ((↑(n % q) : Int) != 0) = false, I6 (Prm.per p) = I6 (q:Int), I6 (IntKind.wrap .i64 ((n:Int) - (q:Int))) = I6 (k2:Int), 0 ≤ (k2:Int), (k2:Int) < (n:Int), expose hsh (List.headD (PV.fs (List.getD (List.map lk l) k2 PV.undef)) PV.undef) = PV.st 68 [U3 (↑(Hd.ver (Prod.fst (List.getD l k2 (default, [])))) : Int), B8 32 (Hd.prev (Prod.fst (List.getD l k2 (default, [])))), B8 32 (Hd.root (Prod.fst (List.getD l k2 (default, [])))), U3 (↑(Hd.time (Prod.fst (List.getD l k2 (default, [])))) : Int), U3 (↑(Hd.bits (Prod.fst (List.getD l k2 (default, [])))) : Int), U3 (↑(Hd.nonce (Prod.fst (List.getD l k2 (default, [])))) : Int)], k2 < n, I6 (Prm.per p) = I6 (q:Int), PC Tryz.prog G0 48 [] [U3 (↑(Hd.bits (Prod.fst (List.getD l k (default, [])))) : Int), U3 (↑(Prm.lim p) : Int), I6 (q:Int), I6 (Prm.sp p), U3 (↑(Hd.time (Prod.fst (List.getD l k2 (default, [])))) : Int), U3 (↑(Hd.time (Prod.fst (List.getD l k (default, [])))) : Int)] [] (PV.tup [U3 x, PV.bool b]), rr (PV.tup [U3 x, PV.bool b])] (by kernel_rfl) (ac (cg (w_i64 hi (by omega) (by omega))) (ac (by omega) (ac (by omega) (ac (by (rw [g]; rfl)) (ac (by omega) (ac (cg (hp)) (ac (cg (tmod_nat rfl rfl)) (ac (by omega) (ac (bne_eq_false_iff_eq.2 (by omega)) (ac (cg (hp)) (ac (cg (w_i64 hi2 (by omega) (by omega))) (ac (by omega) (ac (by omega) (ac (by (rw [g2]; rfl)) (ac (by omega) (ac (cg (hp)) (ac (hb) (ao rfl))))))))))))))))))
theorem work_quo {t : Nat} (h0 : 0 < t) (ht : t < W256) : W256 / (t + 1) = work t := by
  unfold work
  split
  · rename_i h; subst h
    rw [Nat.sub_add_cancel W256_pos, Nat.div_self W256_pos]
  · rw [if_neg (by omega)]
    have e : W256 = (W256 - 1 - t) + (t + 1) := by omega
    conv => lhs; rw [e]
    rw [Nat.add_div_right _ (by omega)]
theorem work_pos {t : Nat} (h0 : 0 < t) (ht : t < W256) : 0 < work t := by
  rw [← work_quo h0 ht]
  exact Nat.div_pos (by omega) (by omega)
end Go.Proofs
namespace Go.Pm
def swap (l : List Int) (j : Nat) : List Int := (l.set (j + 1) (l.getD j 0)).set j (l.getD (j + 1) 0)
def sink : Nat → List Int → List Int
  | 0, l => l
  | j + 1, l => if l.getD (j + 1) 0 < l.getD j 0 then sink j (swap l j) else l
def isort : Nat → Nat → List Int → List Int
  | 0, _, l => l
  | k + 1, i, l => isort k (i + 1) (sink i l)
def lt (m : Int) (l : List Int) : Nat := l.countP fun x => decide (x < m)
def lastU (l : List Int) : List Int := l.drop (l.length - 11)
def middle (l : List Int) : Int := (isort (l.length - 1) 1 l).getD (l.length / 2) 0
def medianM (l : List Int) : Int := if l = [] then 0 else middle (lastU l)
theorem lastU_nil {l : List Int} : lastU l = [] ↔ l = [] := by
  unfold lastU
  rw [List.drop_eq_nil_iff]
  constructor
  · intro h; exact List.eq_nil_of_length_eq_zero (by omega)
  · rintro rfl; simp
end Go.Pm
namespace Go.Proofs
open Go Go.Pe Go.Pm
set_option maxRecDepth 100000
theorem pc_isNaN (x : Int) : PC Tryz.prog G0 125 [] [.int .u32 x] [] (.bool false) := by
  refine PC.of (fn := Tryz.f125) (c := bodyOf Tryz.f125) Tryz.func125 (by kernel_rfl) (by kernel_rfl) (by kernel_rfl) (by kernel_rfl) ?_
  refine W.ret [(3, aF)] [] [(x != x) = false, rr (PV.bool false)] (by kernel_rfl) (ac (bne_eq_false_iff_eq.2 (by omega)) (ao rfl))
theorem pc_less (x y : Int) : PC Tryz.prog G0 106 [] [.int .u32 x, .int .u32 y] [] (.bool (decide (x < y))) := by
  refine PC.of (fn := Tryz.f106) (c := bodyOf Tryz.f106) Tryz.func106 (by kernel_rfl) (by kernel_rfl) (by kernel_rfl) (by kernel_rfl) ?_
  refine W.ret [(2, aK (PV.bool false))] [] [PC Tryz.prog G0 125 [] [U3 x] [] (PV.bool false), rr (PV.bool (decide (x < y)))] (by kernel_rfl) (ac (pc_isNaN _) (ao rfl))
theorem pc_lessT (x y : Int) (h : x < y) : PC Tryz.prog G0 106 [] [.int .u32 x, .int .u32 y] [] (.bool true) := by
  have := pc_less x y
  rwa [decide_eq_true h] at this
theorem pc_lessF (x y : Int) (h : ¬ x < y) : PC Tryz.prog G0 106 [] [.int .u32 x, .int .u32 y] [] (.bool false) := by
  have := pc_less x y
  rwa [decide_eq_false h] at this
def rowU (n : Nat) (l : List Int) : Row := ⟨.iarr .u32 n l, false⟩
def dsO (n i : Nat) (l : List Int) : DS := ⟨[(0, .ref 0 [] 1 0 n), (1, .int .i64 0), (2, .int .i64 n), (6, .int .i64 i)], [(0, rowU n l)]⟩
def dsI (n i j : Nat) (l : List Int) : DS := ⟨[(0, .ref 0 [] 1 0 n), (1, .int .i64 0), (2, .int .i64 n), (6, .int .i64 i), (7, .int .i64 j)], [(0, rowU n l)]⟩
theorem W_inner {n i : Nat} {hout : List (Nat × Row)} {res : PV} (hn : n < 1000) (hi : i < n) : ∀ (j : Nat) (l : List Int), j ≤ i → 
   W Tryz.prog G0 Tryz.f100 [0] hout res (loopAt Tryz.f100 0) (dsO n (i + 1) (sink j l)) → W Tryz.prog G0 Tryz.f100 [0] hout res (loopAt Tryz.f100 1) (dsI n i j l)
  | 0, l, _, h => by
    refine W.seg [(0, aV (I6 0)), (16, aV (I6 (↑(i + 1) : Int)))] [(0, 0)] (dsO n (i + 1) (sink 0 l)) (todo' := loopAt Tryz.f100 0) [I6 (↑(0 : Nat) : Int) = I6 0, I6 (IntKind.wrap .i64 ((i:Int) + 1)) = I6 (↑(i + 1) : Int), rr (PV.ref 0 [] 1 0 n), rr (I6 0), rr (I6 (n:Int)), rr (I6 (↑(i + 1) : Int)), rr (B3 n l)] (by kernel_rfl) (ac (cg (by omega)) (ac (cg (w_i64 rfl (by omega) (by omega))) (ac rfl (ac rfl (ac rfl (ac rfl (ao rfl))))))) ?_
    exact h
  | j + 1, l, hj, h => by
    by_cases hc : l.getD (j + 1) 0 < l.getD j 0
    · refine W.seg [(2, aT), (6, aV (PV.at 0 [Stp.idx (j + 1) 1])), (10, aV (I6 (j:Int))), (11, aV (PV.at 0 [Stp.idx j 1])), (13, aK (PV.bool true)), (19, aV (I6 (j:Int))), (22, aV (I6 (j:Int))), (23, aV (PV.at 0 [Stp.idx j 1])), (27, aV (PV.at 0 [Stp.idx (j + 1) 1])), (29, aV (PV.at 0 [Stp.idx (j + 1) 1])), (31, aV (PV.at 0 [Stp.idx j 1])), (34, aV (I6 (j:Int)))] [(0, 0)] (dsI n i j (swap l j)) (todo' := loopAt Tryz.f100 1) [decide ((↑(j + 1) : Int) > 0) = true, PV.at 0 [Stp.idx (0 + Int.toNat (↑(j + 1) : Int)) 1] = PV.at 0 [Stp.idx (j + 1) 1], 0 ≤ (↑(j + 1) : Int), (↑(j + 1) : Int) < (n:Int), j + 1 < n, I6 (IntKind.wrap .i64 ((↑(j + 1) : Int) - 1)) = I6 (j:Int), PV.at 0 [Stp.idx (0 + j) 1] = PV.at 0 [Stp.idx j 1], 0 ≤ (j:Int), (j:Int) < (n:Int), j < n, PC Tryz.prog G0 106 [] [U3 (List.getD l (j + 1) (0 : Int)), U3 (List.getD l j (0 : Int))] [] (PV.bool true), I6 (IntKind.wrap .i64 ((↑(j + 1) : Int) - 1)) = I6 (j:Int), I6 (IntKind.wrap .i64 ((↑(j + 1) : Int) - 1)) = I6 (j:Int), PV.at 0 [Stp.idx (0 + j) 1] = PV.at 0 [Stp.idx j 1], 0 ≤ (j:Int), (j:Int) < (n:Int), j < n, PV.at 0 [Stp.idx (0 + Int.toNat (↑(j + 1) : Int)) 1] = PV.at 0 [Stp.idx (j + 1) 1], 0 ≤ (↑(j + 1) : Int), (↑(j + 1) : Int) < (n:Int), j + 1 < n, PV.at 0 [Stp.idx (0 + Int.toNat (↑(j + 1) : Int)) 1] = PV.at 0 [Stp.idx (j + 1) 1], 0 ≤ (↑(j + 1) : Int), (↑(j + 1) : Int) < (n:Int), j + 1 < n, PV.at 0 [Stp.idx (0 + j) 1] = PV.at 0 [Stp.idx j 1], 0 ≤ (j:Int), (j:Int) < (n:Int), j < n, I6 (IntKind.wrap .i64 ((↑(j + 1) : Int) - 1)) = I6 (j:Int), rr (PV.ref 0 [] 1 0 n), rr (I6 0), rr (I6 (n:Int)), rr (I6 (i:Int)), rr (I6 (j:Int)), B3 n (List.set (List.set l (j + 1) (List.getD l j (0 : Int))) j (List.getD l (j + 1) (0 : Int))) = B3 n (swap l j)] (by kernel_rfl) (ac (decide_eq_true (by omega)) (ac (by simp only [Int.toNat_natCast, Nat.zero_add]) (ac (by omega) (ac (by omega) (ac (by omega) (ac (cg (w_i64 (by omega) (by omega) (by omega))) (ac (by simp only [Nat.zero_add]) (ac (by omega) (ac (by omega) (ac (by omega) (ac (pc_lessT _ _ (by first | omega | decide)) (ac (cg (w_i64 (by omega) (by omega) (by omega))) (ac (cg (w_i64 (by omega) (by omega) (by omega))) (ac (by simp only [Nat.zero_add]) (ac (by omega) (ac (by omega) (ac (by omega) (ac (by simp only [Int.toNat_natCast, Nat.zero_add]) (ac (by omega) (ac (by omega) (ac (by omega) (ac (by simp only [Int.toNat_natCast, Nat.zero_add]) (ac (by omega) (ac (by omega) (ac (by omega) (ac (by simp only [Nat.zero_add]) (ac (by omega) (ac (by omega) (ac (by omega) (ac (cg (w_i64 (by omega) (by omega) (by omega))) (ac rfl (ac rfl (ac rfl (ac rfl (ac rfl (ao rfl)))))))))))))))))))))))))))))))))))) ?_
      exact W_inner hn hi j (swap l j) (by omega) (by rw [sink, if_pos hc] at h; exact h)
    · refine W.seg [(2, aT), (6, aV (PV.at 0 [Stp.idx (j + 1) 1])), (10, aV (I6 (j:Int))), (11, aV (PV.at 0 [Stp.idx j 1])), (13, aK (PV.bool false)), (16, aV (I6 (↑(i + 1) : Int)))] [(0, 0)] (dsO n (i + 1) l) (todo' := loopAt Tryz.f100 0) [decide ((↑(j + 1) : Int) > 0) = true, PV.at 0 [Stp.idx (0 + Int.toNat (↑(j + 1) : Int)) 1] = PV.at 0 [Stp.idx (j + 1) 1], 0 ≤ (↑(j + 1) : Int), (↑(j + 1) : Int) < (n:Int), j + 1 < n, I6 (IntKind.wrap .i64 ((↑(j + 1) : Int) - 1)) = I6 (j:Int), PV.at 0 [Stp.idx (0 + j) 1] = PV.at 0 [Stp.idx j 1], 0 ≤ (j:Int), (j:Int) < (n:Int), j < n, PC Tryz.prog G0 106 [] [U3 (List.getD l (j + 1) (0 : Int)), U3 (List.getD l j (0 : Int))] [] (PV.bool false), I6 (IntKind.wrap .i64 ((i:Int) + 1)) = I6 (↑(i + 1) : Int), rr (PV.ref 0 [] 1 0 n), rr (I6 0), rr (I6 (n:Int)), rr (I6 (↑(i + 1) : Int)), rr (B3 n l)] (by kernel_rfl) (ac (decide_eq_true (by omega)) (ac (by simp only [Int.toNat_natCast, Nat.zero_add]) (ac (by omega) (ac (by omega) (ac (by omega) (ac (cg (w_i64 (by omega) (by omega) (by omega))) (ac (by simp only [Nat.zero_add]) (ac (by omega) (ac (by omega) (ac (by omega) (ac (pc_lessF _ _ (by first | omega | decide)) (ac (cg (w_i64 rfl (by omega) (by omega))) (ac rfl (ac rfl (ac rfl (ac rfl (ao rfl))))))))))))))))) ?_
      rw [sink, if_neg hc] at h; exact h
theorem W_outer {n : Nat} (hn : n < 1000) : ∀ (k i : Nat) (l : List Int), i + k = n ∨ (k = 0 ∧ n ≤ i) → i ≤ n + 1 → 
   W Tryz.prog G0 Tryz.f100 [0] [(0, rowU n (isort k i l))] (.tup []) (loopAt Tryz.f100 0) (dsO n i l)
  | 0, i, l, h, h1 => by
    refine W.ret [(2, aF)] [(0, 0)] [decide ((i:Int) < (n:Int)) = false, rr (B3 n l), rr (PV.tup [])] (by kernel_rfl) (ac (decide_eq_false (by omega)) (ac rfl (ao rfl)))
  | k + 1, i, l, h, h1 => by
    refine W.seg [(2, aT)] [(0, 0)] (dsI n i i l) (todo' := loopAt Tryz.f100 1) [decide ((i:Int) < (n:Int)) = true, rr (PV.ref 0 [] 1 0 n), rr (I6 0), rr (I6 (n:Int)), rr (I6 (i:Int)), rr (I6 (i:Int)), rr (B3 n l)] (by kernel_rfl) (ac (decide_eq_true (by omega)) (ac rfl (ac rfl (ac rfl (ac rfl (ac rfl (ao rfl))))))) ?_
    exact W_inner hn (by omega) i l (Nat.le_refl i) (W_outer hn k (i + 1) (sink i l) (by omega) (by omega))
theorem pc_isort {n : Nat} (hn : n < 1000) (l : List Int) : PC Tryz.prog G0 100 [(0, rowU n l)] [.ref 0 [] 1 0 n, .int .i64 0, .int .i64 n] [(0, rowU n (isort (n - 1) 1 l))] (.tup []) := by
  refine PC.of (fn := Tryz.f100) (c := bodyOf Tryz.f100) Tryz.func100 (by kernel_rfl) (by kernel_rfl) (by kernel_rfl) (by kernel_rfl) ?_
  refine W.seg [(1, aV (I6 1))] [(0, 0)] (dsO n 1 l) (todo' := loopAt Tryz.f100 0) [I6 (IntKind.wrap .i64 ((0 : Int) + (1 : Int))) = I6 1, rr (PV.ref 0 [] 1 0 n), rr (I6 0), rr (I6 (n:Int)), I6 1 = I6 (↑(1 : Nat) : Int), rr (B3 n l)] (by kernel_rfl) (ac (cg (w_i64 rfl (by omega) (by omega))) (ac rfl (ac rfl (ac rfl (ac (cg (by omega)) (ao rfl)))))) ?_
  exact W_outer hn (n - 1) 1 l (by omega) (by omega)
def lenM (x : Nat) : Nat := [0, 1, 2, 2, 3, 3, 3, 3, 4, 4, 4, 4, 4].getD x 0
theorem pc_len64s {x : Nat} (hx : x < 12) : PC Tryz.prog G0 77 [] [.int .u64 x] [] (.int .i64 (lenM x)) := by
  refine PC.of (fn := Tryz.f77) (c := bodyOf Tryz.f77) Tryz.func77 (by kernel_rfl) (by kernel_rfl) (by kernel_rfl) (by kernel_rfl) ?_
  refine W.ret [((2 : Nat), Ans.dec false), ((4 : Nat), Ans.dec false), ((6 : Nat), Ans.dec false), ((9 : Nat), Ans.val (PV.int IntKind.u8 (↑x : Int))), ((10 : Nat), Ans.val (PV.int IntKind.u8 (↑(lenM x) : Int))), ((11 : Nat), Ans.val (PV.int IntKind.i64 (↑(lenM x) : Int))), ((12 : Nat), Ans.val (PV.int IntKind.i64 (↑(lenM x) : Int)))] [] [decide ((↑x : Int) ≥ (4294967296 : Int)) = false, decide ((↑x : Int) ≥ (65536 : Int)) = false, decide ((↑x : Int) ≥ (256 : Int)) = false, PV.int IntKind.u8 (IntKind.wrap IntKind.u8 (↑x : Int)) = PV.int IntKind.u8 (↑x : Int), PV.int IntKind.u8 (byteAt (ByteArray.mk #[(0 : UInt8), (1 : UInt8), (2 : UInt8), (2 : UInt8), (3 : UInt8), (3 : UInt8), (3 : UInt8), (3 : UInt8), (4 : UInt8), (4 : UInt8), (4 : UInt8), (4 : UInt8), (4 : UInt8), (4 : UInt8), (4 : UInt8), (4 : UInt8), (5 : UInt8), (5 : UInt8), (5 : UInt8), (5 : UInt8), (5 : UInt8), (5 : UInt8), (5 : UInt8), (5 : UInt8), (5 : UInt8), (5 : UInt8), (5 : UInt8), (5 : UInt8), (5 : UInt8), (5 : UInt8), (5 : UInt8), (5 : UInt8), (6 : UInt8), (6 : UInt8), (6 : UInt8), (6 : UInt8), (6 : UInt8), (6 : UInt8), (6 : UInt8), (6 : UInt8), (6 : UInt8), (6 : UInt8), (6 : UInt8), (6 : UInt8), (6 : UInt8), (6 : UInt8), (6 : UInt8), (6 : UInt8), (6 : UInt8), (6 : UInt8), (6 : UInt8), (6 : UInt8), (6 : UInt8), (6 : UInt8), (6 : UInt8), (6 : UInt8), (6 : UInt8), (6 : UInt8), (6 : UInt8), (6 : UInt8), (6 : UInt8), (6 : UInt8), (6 : UInt8), (6 : UInt8), (7 : UInt8), (7 : UInt8), (7 : UInt8), (7 : UInt8), (7 : UInt8), (7 : UInt8), (7 : UInt8), (7 : UInt8), (7 : UInt8), (7 : UInt8), (7 : UInt8), (7 : UInt8), (7 : UInt8), (7 : UInt8), (7 : UInt8), (7 : UInt8), (7 : UInt8), (7 : UInt8), (7 : UInt8), (7 : UInt8), (7 : UInt8), (7 : UInt8), (7 : UInt8), (7 : UInt8), (7 : UInt8), (7 : UInt8), (7 : UInt8), (7 : UInt8), (7 : UInt8), (7 : UInt8), (7 : UInt8), (7 : UInt8), (7 : UInt8), (7 : UInt8), (7 : UInt8), (7 : UInt8), (7 : UInt8), (7 : UInt8), (7 : UInt8), (7 : UInt8), (7 : UInt8), (7 : UInt8), (7 : UInt8), (7 : UInt8), (7 : UInt8), (7 : UInt8), (7 : UInt8), (7 : UInt8), (7 : UInt8), (7 : UInt8), (7 : UInt8), (7 : UInt8), (7 : UInt8), (7 : UInt8), (7 : UInt8), (7 : UInt8), (7 : UInt8), (7 : UInt8), (7 : UInt8), (7 : UInt8), (7 : UInt8), (7 : UInt8), (7 : UInt8), (7 : UInt8), (8 : UInt8), (8 : UInt8), (8 : UInt8), (8 : UInt8), (8 : UInt8), (8 : UInt8), (8 : UInt8), (8 : UInt8), (8 : UInt8), (8 : UInt8), (8 : UInt8), (8 : UInt8), (8 : UInt8), (8 : UInt8), (8 : UInt8), (8 : UInt8), (8 : UInt8), (8 : UInt8), (8 : UInt8), (8 : UInt8), (8 : UInt8), (8 : UInt8), (8 : UInt8), (8 : UInt8), (8 : UInt8), (8 : UInt8), (8 : UInt8), (8 : UInt8), (8 : UInt8), (8 : UInt8), (8 : UInt8), (8 : UInt8), (8 : UInt8), (8 : UInt8), (8 : UInt8), (8 : UInt8), (8 : UInt8), (8 : UInt8), (8 : UInt8), (8 : UInt8), (8 : UInt8), (8 : UInt8), (8 : UInt8), (8 : UInt8), (8 : UInt8), (8 : UInt8), (8 : UInt8), (8 : UInt8), (8 : UInt8), (8 : UInt8), (8 : UInt8), (8 : UInt8), (8 : UInt8), (8 : UInt8), (8 : UInt8), (8 : UInt8), (8 : UInt8), (8 : UInt8), (8 : UInt8), (8 : UInt8), (8 : UInt8), (8 : UInt8), (8 : UInt8), (8 : UInt8), (8 : UInt8), (8 : UInt8), (8 : UInt8), (8 : UInt8), (8 : UInt8), (8 : UInt8), (8 : UInt8), (8 : UInt8), (8 : UInt8), (8 : UInt8), (8 : UInt8), (8 : UInt8), (8 : UInt8), (8 : UInt8), (8 : UInt8), (8 : UInt8), (8 : UInt8), (8 : UInt8), (8 : UInt8), (8 : UInt8), (8 : UInt8), (8 : UInt8), (8 : UInt8), (8 : UInt8), (8 : UInt8), (8 : UInt8), (8 : UInt8), (8 : UInt8), (8 : UInt8), (8 : UInt8), (8 : UInt8), (8 : UInt8), (8 : UInt8), (8 : UInt8), (8 : UInt8), (8 : UInt8), (8 : UInt8), (8 : UInt8), (8 : UInt8), (8 : UInt8), (8 : UInt8), (8 : UInt8), (8 : UInt8), (8 : UInt8), (8 : UInt8), (8 : UInt8), (8 : UInt8), (8 : UInt8), (8 : UInt8), (8 : UInt8), (8 : UInt8), (8 : UInt8), (8 : UInt8), (8 : UInt8), (8 : UInt8), (8 : UInt8), (8 : UInt8), (8 : UInt8), (8 : UInt8), (8 : UInt8), (8 : UInt8), (8 : UInt8), (8 : UInt8), (8 : UInt8)]) (↑x : Int)) = PV.int IntKind.u8 (↑(lenM x) : Int), (0 : Int) ≤ (↑x : Int), (↑x : Int) < (↑(256 : Nat) : Int), PV.int IntKind.i64 (IntKind.wrap IntKind.i64 (↑(lenM x) : Int)) = PV.int IntKind.i64 (↑(lenM x) : Int), PV.int IntKind.i64 (IntKind.wrap IntKind.i64 ((0 : Int) + (↑(lenM x) : Int))) = PV.int IntKind.i64 (↑(lenM x) : Int), PV.int IntKind.i64 (↑(lenM x) : Int) = PV.int IntKind.i64 (↑(lenM x) : Int)] (by kernel_rfl) (ac (by exact decide_eq_false (by omega)) (ac (by exact decide_eq_false (by omega)) (ac (by exact decide_eq_false (by omega)) (ac ?_ (ac ?_ (ac (by omega) (ac (by omega) (ac ?_ (ac ?_ (ao (by with_reducible rfl)))))))))))
  all_goals match x, hx with
  | 0, _ | 1, _ | 2, _ | 3, _ | 4, _ | 5, _ | 6, _ | 7, _ | 8, _ | 9, _ | 10, _ | 11, _ => first | rfl | decide
theorem pc_len {x : Nat} (hx : x < 12) : PC Tryz.prog G0 89 [] [.int .u64 x] [] (.int .i64 (lenM x)) := by
  refine PC.of (fn := Tryz.f89) (c := bodyOf Tryz.f89) Tryz.func89 (by kernel_rfl) (by kernel_rfl) (by kernel_rfl) (by kernel_rfl) ?_
  refine W.ret [(2, aK (I6 (↑(lenM x) : Int)))] [] [PC Tryz.prog G0 77 [] [U6 (x:Int)] [] (I6 (↑(lenM x) : Int)), rr (I6 (↑(lenM x) : Int))] (by kernel_rfl) (ac (pc_len64s (by first | omega | decide)) (ao rfl))
theorem pc_pdq {n : Nat} (hn : n < 12) (x : Int) (l : List Int) : PC Tryz.prog G0 88 [(0, rowU n l)] [.ref 0 [] 1 0 n, .int .i64 0, .int .i64 n, .int .i64 x] [(0, rowU n (isort (n - 1) 1 l))] (.tup []) := by
  refine PC.of (fn := Tryz.f88) (c := bodyOf Tryz.f88) Tryz.func88 (by kernel_rfl) (by kernel_rfl) (by kernel_rfl) (by kernel_rfl) ?_
  refine W.seg [] [(0, 0)] (DS.mk (argF 0 [PV.ref 0 [] 1 0 n, I6 0, I6 (n:Int), I6 x]) [(0, rowU n l)]) (todo' := loopAt Tryz.f88 0) [rr (PV.ref 0 [] 1 0 n), rr (I6 0), rr (I6 (n:Int)), rr (I6 x), rr (B3 n l)] (by kernel_rfl) (ac rfl (ac rfl (ac rfl (ac rfl (ao rfl))))) ?_
  refine W.ret [(2, aV (I6 (n:Int))), (5, aT), (9, Ans.call true [(0, 0)] [(0, Row.mk (B3 n (isort (n - 1) 1 l)) false)] (PV.tup []))] [(0, 0)] [I6 (IntKind.wrap .i64 ((n:Int) - 0)) = I6 (n:Int), decide ((n:Int) ≤ 12) = true, PC Tryz.prog G0 100 [(0, Row.mk (B3 n l) false)] [PV.ref 0 [] 1 0 n, I6 0, I6 (n:Int)] [(0, Row.mk (B3 n (isort (n - 1) 1 l)) false)] (PV.tup []), rr (B3 n (isort (n - 1) 1 l)), rr (PV.tup [])] (by kernel_rfl) (ac (cg (w_i64 rfl (by omega) (by omega))) (ac (decide_eq_true (by omega)) (ac (pc_isort (by first | omega | decide) _) (ac rfl (ao rfl)))))
theorem pc_sort {n : Nat} (hn : n < 12) (l : List Int) : PC Tryz.prog G0 73 [(0, rowU n l)] [.ref 0 [] 1 0 n] [(0, rowU n (isort (n - 1) 1 l))] (.tup []) := by
  refine PC.of (fn := Tryz.f73) (c := bodyOf Tryz.f73) Tryz.func73 (by kernel_rfl) (by kernel_rfl) (by kernel_rfl) (by kernel_rfl) ?_
  refine W.ret [(6, aV (U6 (n:Int))), (7, aK (I6 (↑(lenM n) : Int))), (8, Ans.call true [(0, 0)] [(0, Row.mk (B3 n (isort (n - 1) 1 l)) false)] (PV.tup []))] [(0, 0)] [U6 (IntKind.wrap .u64 (n:Int)) = U6 (n:Int), PC Tryz.prog G0 89 [] [U6 (n:Int)] [] (I6 (↑(lenM n) : Int)), PC Tryz.prog G0 88 [(0, Row.mk (B3 n l) false)] [PV.ref 0 [] 1 0 n, I6 0, I6 (n:Int), I6 (↑(lenM n) : Int)] [(0, Row.mk (B3 n (isort (n - 1) 1 l)) false)] (PV.tup []), rr (B3 n (isort (n - 1) 1 l)), rr (PV.tup [])] (by kernel_rfl) (ac (cg (w_u64 rfl (by omega) (by omega))) (ac (pc_len (by first | omega | decide)) (ac (pc_pdq (by first | omega | decide) _ _) (ac rfl (ao rfl)))))
theorem pc_clone {n : Nat} (hn : n < 1000) (l : List Int) (h0 : 0 < n) : PC Tryz.prog G0 72 [] [.vec false (.iarr .u32 n l)] [(1, rowU n l)] (.ref 1 [] 1 0 n) := by
  refine PC.of (fn := Tryz.f72) (c := bodyOf Tryz.f72) Tryz.func72 (by kernel_rfl) (by kernel_rfl) (by kernel_rfl) (by kernel_rfl) ?_
  refine W.ret [(5, Ans.vu (PV.ref 144 [] 1 0 n) [(112, none), (144, some (Row.mk (B3 n l) false))])] [(144, 1)] [([(112, none), (144, some (Row.mk (B3 (0 + n) l) false))] : List (Nat × Option Row)) = [(112, none), (144, some (Row.mk (B3 n l) false))], PV.ref 144 [] 1 0 (0 + n) = PV.ref 144 [] 1 0 n, rr (0), (0 + n) * 4 ≤ 140737488355328, 0 + n ≤ 9223372036854775807, rr (B3 n l), rr (PV.ref 1 [] 1 0 n)] (by kernel_rfl) (ac (by simp only [Nat.zero_add]) (ac (by simp only [Nat.zero_add]) (ac rfl (ac (by omega) (ac (by omega) (ac rfl (ao rfl)))))))
end Go.Proofs
namespace Go.Proofs
open Go Go.Pe Go.Pm
set_option maxRecDepth 100000
theorem pc_median0 (nl : Bool) : PC Tryz.prog G0 47 [] [.vec nl (.iarr .u32 0 [])] [] (.int .u32 0) := by
  refine PC.of (fn := Tryz.f47) (c := bodyOf Tryz.f47) Tryz.func47 (by kernel_rfl) (by kernel_rfl) (by kernel_rfl) (by kernel_rfl) ?_
  refine W.ret [(2, aV (I6 0))] [] [I6 (↑(0 : Nat) : Int) = I6 0, rr (U3 0)] (by kernel_rfl) (ac (cg (by omega)) (ao rfl))
theorem pc_median1 {l : List Int} {n : Nat} (hn : n = l.length) (h0 : 0 < n) (hl : n < 1000) : PC Tryz.prog G0 47 [] [.vec false (.iarr .u32 n l)] [] (.int .u32 (medianM l)) := by
  refine PC.of (fn := Tryz.f47) (c := bodyOf Tryz.f47) Tryz.func47 (by kernel_rfl) (by kernel_rfl) (by kernel_rfl) (by kernel_rfl) ?_
  subst hn
  have hm : (lastU l).length < 12 := by simp [lastU]; omega
  have hm0 : 0 < (lastU l).length := by simp [lastU]; omega
  have hdrop : (mx 0 ((l.length : Int) - 11)).toNat = l.length - 11 := by
    unfold mx
    split <;> omega
  have hmx : 0 ≤ mx 0 ((l.length : Int) - 11) ∧ mx 0 ((l.length : Int) - 11) ≤ l.length := by
    unfold mx
    split <;> omega
  have hk : ((l.length : Int) - mx 0 ((l.length : Int) - 11)).toNat = (lastU l).length := by
    simp [lastU]; omega
  have hmm : (drop0 l (mx 0 ((l.length : Int) - 11)).toNat).take (lastU l).length = lastU l := by
    rw [hdrop, drop0_eq]
    exact List.take_of_length_le (by simp [lastU])
  have hv : PV.vec false (PV.iarr IntKind.u32 ((l.length : Int) - mx 0 ((l.length : Int) - 11)).toNat (List.take ((l.length : Int) - mx 0 ((l.length : Int) - 11)).toNat (drop0 l (mx 0 ((l.length : Int) - 11)).toNat))) = PV.vec false (PV.iarr IntKind.u32 (lastU l).length (lastU l)) := by rw [hk, hmm]
  have hres : medianM l = (isort ((lastU l).length - 1) 1 (lastU l)).getD ((lastU l).length / 2) 0 := by
    have : l ≠ [] := by rintro rfl; simp at h0
    simp [medianM, this, middle]
  have hd : (((lastU l).length : Int)).tdiv 2 = (((lastU l).length / 2 : Nat) : Int) := by
    rw [Int.tdiv_eq_ediv_of_nonneg (by omega)]; omega
  obtain ⟨hmx1, hmx2⟩ := hmx
  rw [hres]
  generalize hg : lastU l = m at *
  refine W.ret [(3, aF), (7, aV (I6 ((↑(List.length l) : Int) - 11))), (9, aV (PV.vec false (B3 (List.length m) m))), (10, Ans.call true [] [(1, Row.mk (B3 (List.length m) m) false)] (PV.ref 1 [] 1 0 (List.length m))), (13, Ans.call true [(225, 0)] [(0, Row.mk (B3 (List.length m) (isort (List.length m - 1) 1 m)) false)] (PV.tup [])), (17, aV (I6 (↑(List.length m / 2) : Int))), (18, aV (PV.at 225 [Stp.idx (List.length m / 2) 1]))] [] [((↑(List.length l) : Int) == 0) = false, I6 (IntKind.wrap .i64 ((↑(List.length l) : Int) - 11)) = I6 ((↑(List.length l) : Int) - 11), PV.vec false (B3 (Int.toNat ((↑(List.length l) : Int) - mx (0 : Int) ((↑(List.length l) : Int) - 11))) (List.take (Int.toNat ((↑(List.length l) : Int) - mx (0 : Int) ((↑(List.length l) : Int) - 11))) (drop0 l (Int.toNat (mx (0 : Int) ((↑(List.length l) : Int) - 11)))))) = PV.vec false (B3 (List.length m) m), (0 : Int) ≤ mx (0 : Int) ((↑(List.length l) : Int) - 11), mx (0 : Int) ((↑(List.length l) : Int) - 11) ≤ (↑(List.length l) : Int), (↑(List.length l) : Int) ≤ (↑(List.length l) : Int), PC Tryz.prog G0 72 [] [PV.vec false (B3 (List.length m) m)] [(1, Row.mk (B3 (List.length m) m) false)] (PV.ref 1 [] 1 0 (List.length m)), PC Tryz.prog G0 73 [(0, Row.mk (B3 (List.length m) m) false)] [PV.ref 0 [] 1 0 (List.length m)] [(0, Row.mk (B3 (List.length m) (isort (List.length m - 1) 1 m)) false)] (PV.tup []), I6 (IntKind.wrap .i64 (Int.tdiv (↑(List.length m) : Int) (2 : Int))) = I6 (↑(List.length m / 2) : Int), (2 : Int) ≠ (0 : Int), PV.at 225 [Stp.idx (0 + Int.toNat (↑(List.length m / 2) : Int)) 1] = PV.at 225 [Stp.idx (List.length m / 2) 1], 0 ≤ (↑(List.length m / 2) : Int), (↑(List.length m / 2) : Int) < (↑(List.length m) : Int), List.length m / 2 < List.length m, rr (U3 (List.getD (isort (List.length m - 1) 1 m) (List.length m / 2) (0 : Int)))] (by kernel_rfl) (ac (decide_eq_false (by omega)) (ac (cg (w_i64 rfl (by omega) (by omega))) (ac (by omega) (ac (by omega) (ac (by omega) (ac (by omega) (ac (pc_clone (by first | omega | decide) _ (by first | omega | decide)) (ac (pc_sort (by first | omega | decide) _) (ac (cg (w_i64 rfl (by omega) (by omega))) (ac (by omega) (ac (by simp only [Int.toNat_natCast, Nat.zero_add]) (ac (by omega) (ac (by omega) (ac (by omega) (ao rfl)))))))))))))))
theorem pc_median {nl : Bool} {n : Nat} {l : List Int} (hn : n = l.length) (hl : n < 1000) (hnl : nl = true → l = []) : PC Tryz.prog G0 47 [] [.vec nl (.iarr .u32 n l)] [] (.int .u32 (medianM l)) := by
  by_cases h0 : l = []
  · subst h0; subst hn; exact pc_median0 nl
  · have : nl = false := by cases nl with
      | false => rfl
      | true => exact absurd (hnl rfl) h0
    subst this
    exact pc_median1 hn (by have := List.length_pos_iff.2 h0; omega) hl
end Go.Proofs
namespace Go.Proofs
open Go Go.Pe Go.Pm
set_option maxRecDepth 100000
theorem pc_after1 {nl : Bool} {n : Nat} {l : List Int} (t : Int) (hn : n = l.length) (h0 : 0 < n) (hl : n < 1000) (hnl : nl = true → l = []) : PC Tryz.prog G0 26 [] [.vec nl (.iarr .u32 n l), .int .u32 t] [] (.bool (decide (t > medianM l))) := by
  refine PC.of (fn := Tryz.f26) (c := bodyOf Tryz.f26) Tryz.func26 (by kernel_rfl) (by kernel_rfl) (by kernel_rfl) (by kernel_rfl) ?_
  have := @pc_median nl n l hn hl hnl
  refine W.ret [(3, aF), (7, aK (U3 (medianM l)))] [] [((n:Int) == 0) = false, PC Tryz.prog G0 47 [] [PV.vec nl (B3 n l)] [] (U3 (medianM l)), rr (PV.bool (decide (t > medianM l)))] (by kernel_rfl) (ac (decide_eq_false (by omega)) (ac (this) (ao rfl)))
end Go.Proofs
namespace Go.Proofs
open Go Go.Pe Go.Pm
set_option maxRecDepth 100000
def held (n : Int) : Int := mn (mx n 0) 1099511627776
theorem held_le (n : Int) : 0 ≤ held n ∧ held n ≤ 1099511627776 := by
  unfold held mn mx
  split <;> split <;> omega
theorem pc_near {t now future : Int} (h1 : 0 ≤ t) (h2 : t ≤ 4294967295) : PC Tryz.prog G0 28 [] [.int .u32 t, .int .i64 now, .int .i64 future] [] (.bool (decide (t ≤ held now + held future))) := by
  refine PC.of (fn := Tryz.f28) (c := bodyOf Tryz.f28) Tryz.func28 (by kernel_rfl) (by kernel_rfl) (by kernel_rfl) (by kernel_rfl) ?_
  have h2 := held_le now
  have h3 := held_le future
  unfold held at *
  refine W.ret [(2, aV (I6 t)), (9, aV (I6 (mn (mx now (0 : Int)) (1099511627776 : Int) + mn (mx future (0 : Int)) (1099511627776 : Int))))] [] [I6 (IntKind.wrap .i64 t) = I6 t, I6 (IntKind.wrap .i64 (mn (mx now (0 : Int)) (1099511627776 : Int) + mn (mx future (0 : Int)) (1099511627776 : Int))) = I6 (mn (mx now (0 : Int)) (1099511627776 : Int) + mn (mx future (0 : Int)) (1099511627776 : Int)), rr (PV.bool (decide (t ≤ mn (mx now (0 : Int)) (1099511627776 : Int) + mn (mx future (0 : Int)) (1099511627776 : Int))))] (by kernel_rfl) (ac (cg (w_i64 rfl (by omega) (by omega))) (ac (cg (w_i64 rfl (by omega) (by omega))) (ao rfl)))
end Go.Proofs
namespace Go.Proofs
open Go Go.Pe Go.Pm
set_option maxRecDepth 100000
set_option linter.unusedVariables false
attribute [local irreducible] hhash lv dsha bwsn bwat
/-- a header with its hash -/
def lh (h : Hd) : Hd × List Int := (h, hhash h)
/-- the times of a line -/
def tms (l : List Hd) : List Int := l.map fun h => (h.time : Int)
def dsTm (l : List Hd) (nl : Bool) (n : Nat) (T : PV) (i : Nat) : DS := ⟨[(3, T), (11, .vec nl (.parr 68 n hsh (l.map Hd.pv))), (12, .int .i64 n), (13, .int .i64 i)], []⟩
def dsTm1 (l : List Hd) (nl : Bool) (n : Nat) (L : List Int) (i : Nat) : DS := ⟨[(3, .ref 1 [] 1 0 i), (11, .vec nl (.parr 68 n hsh (l.map Hd.pv))), (12, .int .i64 n), (13, .int .i64 i)], [(1, ⟨.iarr .u32 i L, false⟩)]⟩
theorem tms_snoc {l : List Hd} {i : Nat} (h : i < l.length) : tms (l.take i) ++ [((l.getD i default).time : Int)] = tms (l.take (i + 1)) := by
  unfold tms
  rw [List.take_add_one, List.map_append, List.getElem?_eq_getElem h, List.getD_eq_getElem?_getD, List.getElem?_eq_getElem h]
  rfl
theorem W_times {nl : Bool} {l : List Hd} {n : Nat} (hn : l.length = n) (hn1 : n ≤ 30) (ho : ∀ h ∈ l, h.Ok) : ∀ (k i : Nat) (L : List Int), i + k = n → 0 < i → L = tms (l.take i) →
    W Tryz.prog G0 Tryz.f27 [] [] (.vec false (.iarr .u32 n (tms l))) (loopAt Tryz.f27 0) (dsTm1 l nl n L i)
  | 0, i, L, hk, h0, hL => by
    have hi : i = n := by omega
    subst hi
    rw [← hn, List.take_length] at hL
    have hll : L.length = i := by rw [hL]; simp [tms, hn]
    rw [← hL]
    refine W.ret [(0, aF)] [] [decide ((i:Int) < (i:Int)) = false, 0 + i ≤ i, PV.vec false (B3 i (List.take i L)) = PV.vec false (B3 i L)] (by kernel_rfl) (ac (decide_eq_false (by omega)) (ac (by omega) (ao ?_)))
    rw [List.take_of_length_le (by omega)]
  | k + 1, i, L, hk, h0, hL => by
    have hll : L.length = i := by rw [hL]; simp [tms]; omega
    have hh := tms_snoc (l := l) (i := i) (by omega)
    have g := map_get (l := l) (i := i) (by omega)
    rw [← hL] at hh
    have hw := W_times (nl := nl) hn hn1 ho k (i + 1) _ (by omega) (by omega) hh
    generalize l.getD i default = h at *
    generalize tms l = R at *
    refine W.seg [(0, aT), (2, aV (Hd.pv h)), (9, Ans.ups [(1, none), (208, some (Row.mk (B3 (i + 1) (L ++ [(↑(Hd.time h) : Int)])) false))]), (11, aV (I6 (↑(i + 1) : Int)))] [(208, 1)] (dsTm1 l nl n (L ++ [(↑(Hd.time h) : Int)]) (i + 1)) (todo' := loopAt Tryz.f27 0) [decide ((i:Int) < (n:Int)) = true, 0 ≤ (i:Int), (i:Int) < (n:Int), expose hsh (List.getD (List.map Hd.pv l) i PV.undef) = Hd.pv h, i < n, ([(1, none), (208, some (Row.mk (B3 (i + 1) (List.take i L ++ [(↑(Hd.time h) : Int)])) false))] : List (Nat × Option Row)) = [(1, none), (208, some (Row.mk (B3 (i + 1) (L ++ [(↑(Hd.time h) : Int)])) false))], 1 ≤ 1, 0 + i = i, (i + 1) * 4 ≤ 140737488355328, i + 1 ≤ 9223372036854775807, I6 (IntKind.wrap .i64 ((i:Int) + 1)) = I6 (↑(i + 1) : Int), rr (PV.ref 1 [] 1 0 (i + 1)), rr (PV.vec nl (PV.parr 68 n hsh (List.map Hd.pv l))), rr (I6 (n:Int)), rr (I6 (↑(i + 1) : Int)), rr (B3 (i + 1) (L ++ [(↑(Hd.time h) : Int)]))] (by kernel_rfl) (ac (decide_eq_true (by omega)) (ac (by omega) (ac (by omega) (ac (by (rw [g]; rfl)) (ac (by omega) (ac (by rw [List.take_of_length_le (show List.length L ≤ i by omega)]) (ac (by omega) (ac (by omega) (ac (by omega) (ac (by omega) (ac (cg (w_i64 rfl (by omega) (by omega))) (ac rfl (ac rfl (ac rfl (ac rfl (ao rfl)))))))))))))))) ?_
    exact hw
theorem mx_eleven (n : Nat) : mx 0 ((n : Int) - 11) = ((n - 11 : Nat) : Int) := by unfold mx; split <;> omega
theorem pc_times {nl : Bool} {l : List Hd} (h0 : 0 < l.length) (hn1 : l.length ≤ 30) (ho : ∀ h ∈ l, h.Ok) : PC Tryz.prog G0 27 [] [lpv nl l] [] (.vec false (.iarr .u32 (lastU (tms l)).length (lastU (tms l)))) := by
  refine PC.of (fn := Tryz.f27) (c := bodyOf Tryz.f27) Tryz.func27 (by kernel_rfl) (by kernel_rfl) (by kernel_rfl) (by kernel_rfl) ?_
  unfold lpv
  have eL : lastU (tms l) = tms (l.drop (l.length - 11)) := by unfold lastU tms; rw [List.length_map, List.map_drop]
  have hlen : (tms (l.drop (l.length - 11))).length = l.length - (l.length - 11) := by simp [tms]
  rw [eL, hlen]
  have hdl : (l.drop (l.length - 11)).length = l.length - (l.length - 11) := by simp
  have hh := tms_snoc (l := l.drop (l.length - 11)) (i := 0) (by omega)
  have g := map_get (l := l.drop (l.length - 11)) (i := 0) (by omega)
  rw [List.take_zero, show tms [] = [] from rfl, List.nil_append] at hh
  have hw := W_times (nl := nl) hdl (by omega) (fun h hh => ho h (List.mem_of_mem_drop hh)) (l.length - (l.length - 11) - 1) 1 _ (by omega) (by omega) hh
  have hm := mx_eleven l.length
  have hkk : l.length - 11 ≤ l.length := by omega
  have hd : (l.length : Int) - ((l.length - 11 : Nat) : Int) = ((l.length - (l.length - 11) : Nat) : Int) := by omega
  have e2 : (l.drop (l.length - 11)).map Hd.pv = ((l.map Hd.pv).drop (l.length - 11)) := by rw [List.map_drop]
  refine W.seg [(5, aV (I6 ((↑(List.length l) : Int) - 11))), (6, aV (I6 (↑(List.length l - 11) : Int))), (7, aV (PV.vec nl (PV.parr 68 (List.length l - (List.length l - 11)) hsh (List.take (List.length l - (List.length l - 11)) (drop0 (List.map Hd.pv l) (List.length l - 11))))))] [] (dsTm (List.drop (List.length l - 11) l) nl (List.length l - (List.length l - 11)) (PV.vec true (B3 0 [])) 0) (todo' := loopAt Tryz.f27 0) [I6 (IntKind.wrap .i64 ((↑(List.length l) : Int) - 11)) = I6 ((↑(List.length l) : Int) - 11), I6 (mx (0 : Int) ((↑(List.length l) : Int) - 11)) = I6 (↑(List.length l - 11) : Int), PV.vec nl (PV.parr 68 (Int.toNat ((↑(List.length l) : Int) - (↑(List.length l - 11) : Int))) hsh (List.take (Int.toNat ((↑(List.length l) : Int) - (↑(List.length l - 11) : Int))) (drop0 (List.map Hd.pv l) (Int.toNat (↑(List.length l - 11) : Int))))) = PV.vec nl (PV.parr 68 (List.length l - (List.length l - 11)) hsh (List.take (List.length l - (List.length l - 11)) (drop0 (List.map Hd.pv l) (List.length l - 11)))), 0 ≤ (↑(List.length l - 11) : Int), (↑(List.length l - 11) : Int) ≤ (↑(List.length l) : Int), (↑(List.length l) : Int) ≤ (↑(List.length l) : Int), rr (PV.vec true (B3 0 [])), PV.vec nl (PV.parr 68 (List.length l - (List.length l - 11)) hsh (List.take (List.length l - (List.length l - 11)) (drop0 (List.map Hd.pv l) (List.length l - 11)))) = PV.vec nl (PV.parr 68 (List.length l - (List.length l - 11)) hsh (List.map Hd.pv (List.drop (List.length l - 11) l))), rr (I6 (↑(List.length l - (List.length l - 11)) : Int)), I6 0 = I6 (↑(0 : Nat) : Int)] (by kernel_rfl) (ac (cg (w_i64 rfl (by omega) (by omega))) (ac (cg (hm)) (ac (by rw [show Int.toNat ((↑(List.length l) : Int) - (↑(List.length l - 11) : Int)) = List.length l - (List.length l - 11) by omega, show Int.toNat (↑(List.length l - 11) : Int) = List.length l - 11 by omega]) (ac (by omega) (ac (by omega) (ac (by omega) (ac rfl (ac ?_ (ac rfl (ao (cg (by omega)))))))))))) ?_
  · rw [drop0_eq, ← e2, List.take_of_length_le (by simp)]
  generalize l.drop (l.length - 11) = m at *
  generalize l.length - (l.length - 11) = n at *
  generalize m.getD 0 default = h at *
  generalize tms m = R at *
  refine W.seg [(0, aT), (2, aV (Hd.pv h)), (11, aV (I6 1))] [(208, 1)] (dsTm1 m nl n [(↑(Hd.time h) : Int)] 1) (todo' := loopAt Tryz.f27 0) [decide ((↑(0 : Nat) : Int) < (n:Int)) = true, 0 ≤ (↑(0 : Nat) : Int), (↑(0 : Nat) : Int) < (n:Int), expose hsh (List.getD (List.map Hd.pv m) 0 PV.undef) = Hd.pv h, 0 < n, 1 ≤ 1, 0 < 1, 4 ≤ 140737488355328, 1 ≤ 9223372036854775807, I6 (IntKind.wrap .i64 ((↑(0 : Nat) : Int) + 1)) = I6 1, rr (PV.ref 1 [] 1 0 1), rr (PV.vec nl (PV.parr 68 n hsh (List.map Hd.pv m))), rr (I6 (n:Int)), I6 1 = I6 (↑(1 : Nat) : Int), rr (B3 1 [(↑(Hd.time h) : Int)])] (by kernel_rfl) (ac (decide_eq_true (by omega)) (ac (by omega) (ac (by omega) (ac (by (rw [g]; rfl)) (ac (by omega) (ac (by omega) (ac (by omega) (ac (by omega) (ac (by omega) (ac (cg (w_i64 rfl (by omega) (by omega))) (ac rfl (ac rfl (ac rfl (ac (cg (by omega)) (ao rfl))))))))))))))) ?_
  exact hw
end Go.Proofs
namespace Go.Proofs
open Go Go.Pe Go.Pm
set_option maxRecDepth 100000
set_option linter.unusedVariables false
attribute [local irreducible] hhash lv dsha
/-- the next header's bits, if there are any -/
def nbits (p : Prm) (l : List Hd) : Nat × Bool :=
  let a := l.getD (l.length - 1) default
  if l.length % p.per.toNat = 0 then
    if tgt a.bits = 0 then (0, false)
    else (cbits (nextN (tgt a.bits) (tgt p.lim) (idealN p.per.toNat p.sp) (lastedN (idealN p.per.toNat p.sp) (l.getD (l.length - p.per.toNat) default).time a.time)), true)
  else (a.bits, true)
theorem lh_get {l : List Hd} {i : Nat} (h : i < l.length) : (l.map lh).getD i default = lh (l.getD i default) := by
  simp [List.getD_eq_getElem?_getD, h]
/-- both answers -/
theorem bits_both {p : Prm} (hp : p.Ok) (hm : p.May) {nl nl2 : Bool} {l : List Hd} (h0 : 0 < l.length) (hn : l.length ≤ 30) (ho : ∀ h ∈ l, h.Ok) :
    PC Tryz.prog G0 22 [] [p.pv, lpv nl l] [] (.tup [.int .u32 (nbits p l).1, .int .i64 (if (nbits p l).2 = true then 0 else 5)]) ∧
    PC Tryz.prog G0 29 [] [p.rpv, links nl2 (l.map lh)] [] (.tup [.int .u32 (nbits p l).1, .bool (nbits p l).2]) := by
  obtain ⟨q, hq⟩ : ∃ q : Nat, p.per = (q : Int) := ⟨p.per.toNat, by have := hm.per; omega⟩
  have hq1 : 1 ≤ q := by have := hm.per; omega
  have hqt : p.per.toNat = q := by omega
  have hlim := canon_ne hm.c1
  have hlen : (l.map lh).length = l.length := by simp
  have e1 := lh_get (l := l) (i := l.length - 1) (by omega)
  unfold nbits
  dsimp only
  rw [hqt]
  by_cases hd : l.length % q = 0
  · rw [if_pos hd]
    have hqn : q ≤ l.length := Nat.le_of_dvd (by omega) (Nat.dvd_of_mod_eq_zero hd)
    have h1 := ok_get (i := l.length - 1) ho (by omega)
    have h2 := ok_get (i := l.length - q) ho (by omega)
    have e2 := lh_get (l := l) (i := l.length - q) (by omega)
    by_cases ht : tgt (l.getD (l.length - 1) default).bits = 0
    · rw [if_pos ht]
      refine ⟨pc_ruleBitsP hq hq1 rfl (by omega) (by omega) hd (pc_pbitsA _ _ h1.bits hp.lim h2.time h1.time ht), pc_rBits19P hq hq1 hlen (by omega) (by omega) hd ?_⟩
      rw [e1, e2]
      exact pc_rBits18N _ _ h1.bits hp.lim (.inl ht)
    · rw [if_neg ht]
      refine ⟨pc_ruleBitsP hq hq1 rfl (by omega) (by omega) hd (pc_pbitsC _ _ h1.bits hp.lim h2.time h1.time ht hlim), pc_rBits19P hq hq1 hlen (by omega) (by omega) hd ?_⟩
      rw [e1, e2]
      exact pc_rBits18Y _ _ h1.bits hp.lim h2.time h1.time ht hlim
  · rw [if_neg hd]
    have := pc_rBits19K (p := p) (nl := nl2) (l := l.map lh) hq hq1 hlen (by omega) (by omega) hd
    rw [e1] at this
    exact ⟨pc_ruleBitsK hq hq1 rfl (by omega) (by omega) hd, this⟩
/-- a header's verdict -/
def jud (p : Prm) (l : List Hd) (h : Hd) (now : Int) : Int :=
  if ¬ h.prev = hhash (l.getD (l.length - 1) default) then 9
  else if (nbits p l).2 = false ∨ ¬ (nbits p l).1 = h.bits then 10
  else if meets h = false then 11
  else if (h.time : Int) ≤ medianM (tms l) then 12
  else if held now + p.fu < (h.time : Int) then 13
  else 0
theorem medianM_last (l : List Int) : medianM (lastU l) = medianM l := by
  unfold medianM
  have e : lastU (lastU l) = lastU l := by
    unfold lastU
    rw [List.drop_drop, List.length_drop]
    congr 1
    omega
  rw [e]
  by_cases h : l = []
  · rw [if_pos h, if_pos (lastU_nil.2 h)]
  · rw [if_neg h, if_neg (fun x => h (lastU_nil.1 x))]
theorem held_id {n : Int} (h1 : 0 ≤ n) (h2 : n ≤ 4294967296) : held n = n := by
  unfold held mn mx
  split <;> split <;> omega
set_option maxHeartbeats 4000000 in
theorem pc_judge {p : Prm} (hp : p.Ok) (hm : p.May) {nl : Bool} {l : List Hd} (h0 : 0 < l.length) (hn : l.length ≤ 30) (ho : ∀ h ∈ l, h.Ok) {h : Hd} (hh : h.Ok) {now : Int} :
    PC Tryz.prog G0 9 [] [p.pv, lpv nl l, h.pv, .int .i64 now] [] (.int .i64 (jud p l h now)) := by
  refine PC.of (fn := Tryz.f9) (c := bodyOf Tryz.f9) Tryz.func9 (by kernel_rfl) (by kernel_rfl) (by kernel_rfl) (by kernel_rfl) ?_
  have c1 := (bits_both hp hm (nl := nl) (nl2 := nl) h0 hn ho).1
  have hok := ok_get (i := l.length - 1) ho (by omega)
  have c2 := pc_hdHash hok
  have c3 := pc_hdMeets hh
  have c4 := pc_times (nl := nl) h0 hn ho
  have hne : tms l ≠ [] := by unfold tms; simp; intro e; rw [e] at h0; simp at h0
  have hne2 : lastU (tms l) ≠ [] := fun x => hne (lastU_nil.1 x)
  have hll : (lastU (tms l)).length < 1000 := by simp [lastU, tms]; omega
  have c5 := pc_after1 (nl := false) (h.time : Int) (l := lastU (tms l)) rfl (List.length_pos_iff.2 hne2) hll (by intro x; cases x)
  rw [medianM_last] at c5
  have t1 := hh.time
  have c6 := pc_near (t := (h.time : Int)) (now := now) (future := p.fu) (by omega) (by omega)
  rw [held_id hm.fu.1 hm.fu.2] at c6
  have g := map_get (l := l) (i := l.length - 1) (by omega)
  have hi : (l.length : Int) - 1 = ((l.length - 1 : Nat) : Int) := by omega
  have hk : l.length - 1 < l.length := by omega
  have hpl := hh.prev
  have hhl := hhash_length (l.getD (l.length - 1) default)
  unfold jud
  unfold lpv at *
  generalize (lastU (tms l)).length = tn at *
  generalize lastU (tms l) = ts at *
  generalize medianM (tms l) = me at *
  generalize nbits p l = xb at *
  generalize held now = hd at *
  generalize l.getD (l.length - 1) default = a at *
  generalize l.length - 1 = k at *
  generalize l.length = n at *
  generalize hhash a = ha at *
  generalize meets h = mt at *
  obtain ⟨x, b⟩ := xb
  dsimp only at c1 ⊢
  by_cases j1 : h.prev = ha
  · rw [if_neg (not_not_intro j1)]
    by_cases j2 : b = false
    · rw [if_pos (.inl j2)]
      subst j2
      rw [if_neg (by decide)] at c1
      refine W.ret [(5, aF), (8, aK (PV.tup [U3 (x:Int), I6 5])), (19, aV (I6 (k:Int))), (21, aV (Hd.pv a)), (22, aK (B8 32 ha)), (23, aF)] [] [((n:Int) == 0) = false, PC Tryz.prog G0 22 [] [Prm.pv p, PV.vec nl (PV.parr 68 n hsh (List.map Hd.pv l))] [] (PV.tup [U3 (x:Int), I6 5]), I6 (IntKind.wrap .i64 ((n:Int) - 1)) = I6 (k:Int), 0 ≤ (k:Int), (k:Int) < (n:Int), expose hsh (List.getD (List.map Hd.pv l) k PV.undef) = Hd.pv a, k < n, PC Tryz.prog G0 24 [] [Hd.pv a] [] (B8 32 ha), (!decide (Hd.prev h = ha)) = false, rr (I6 10)] (by kernel_rfl) (ac (decide_eq_false (by omega)) (ac (c1) (ac (cg (w_i64 hi (by omega) (by omega))) (ac (by omega) (ac (by omega) (ac (by (rw [g]; rfl)) (ac (by omega) (ac (c2) (ac (by (simp [*]; done)) (ao rfl))))))))))
    · have j2 : b = true := by cases b <;> simp_all
      subst j2
      rw [if_pos rfl] at c1
      by_cases j3 : x = h.bits
      · rw [if_neg (by rintro (h | h); cases h; exact h j3)]
        by_cases j4 : mt = false
        · rw [if_pos j4]
          subst j4
          refine W.ret [(5, aF), (8, aK (PV.tup [U3 (x:Int), I6 0])), (19, aV (I6 (k:Int))), (21, aV (Hd.pv a)), (22, aK (B8 32 ha)), (23, aF), (31, aF), (35, aK (PV.bool false))] [] [((n:Int) == 0) = false, PC Tryz.prog G0 22 [] [Prm.pv p, PV.vec nl (PV.parr 68 n hsh (List.map Hd.pv l))] [] (PV.tup [U3 (x:Int), I6 0]), I6 (IntKind.wrap .i64 ((n:Int) - 1)) = I6 (k:Int), 0 ≤ (k:Int), (k:Int) < (n:Int), expose hsh (List.getD (List.map Hd.pv l) k PV.undef) = Hd.pv a, k < n, PC Tryz.prog G0 24 [] [Hd.pv a] [] (B8 32 ha), (!decide (Hd.prev h = ha)) = false, ((↑(Hd.bits h) : Int) != (x:Int)) = false, PC Tryz.prog G0 25 [] [Hd.pv h] [] (PV.bool false), rr (I6 11)] (by kernel_rfl) (ac (decide_eq_false (by omega)) (ac (c1) (ac (cg (w_i64 hi (by omega) (by omega))) (ac (by omega) (ac (by omega) (ac (by (rw [g]; rfl)) (ac (by omega) (ac (c2) (ac (by (simp [*]; done)) (ac (bne_eq_false_iff_eq.2 (by omega)) (ac (c3) (ao rfl))))))))))))
        · have j4 : mt = true := by cases mt <;> simp_all
          subst j4
          rw [if_neg (by decide)]
          by_cases j5 : (h.time : Int) ≤ me
          · rw [if_pos j5]
            rw [decide_eq_false (by omega)] at c5
            refine W.ret [(5, aF), (8, aK (PV.tup [U3 (x:Int), I6 0])), (19, aV (I6 (k:Int))), (21, aV (Hd.pv a)), (22, aK (B8 32 ha)), (23, aF), (31, aF), (35, aK (PV.bool true)), (39, Ans.call false [] [] (PV.vec false (B3 tn ts))), (42, aK (PV.bool false))] [] [((n:Int) == 0) = false, PC Tryz.prog G0 22 [] [Prm.pv p, PV.vec nl (PV.parr 68 n hsh (List.map Hd.pv l))] [] (PV.tup [U3 (x:Int), I6 0]), I6 (IntKind.wrap .i64 ((n:Int) - 1)) = I6 (k:Int), 0 ≤ (k:Int), (k:Int) < (n:Int), expose hsh (List.getD (List.map Hd.pv l) k PV.undef) = Hd.pv a, k < n, PC Tryz.prog G0 24 [] [Hd.pv a] [] (B8 32 ha), (!decide (Hd.prev h = ha)) = false, ((↑(Hd.bits h) : Int) != (x:Int)) = false, PC Tryz.prog G0 25 [] [Hd.pv h] [] (PV.bool true), PC Tryz.prog G0 27 [] [PV.vec nl (PV.parr 68 n hsh (List.map Hd.pv l))] [] (PV.vec false (B3 tn ts)), PC Tryz.prog G0 26 [] [PV.vec false (B3 tn ts), U3 (↑(Hd.time h) : Int)] [] (PV.bool false), rr (I6 12)] (by kernel_rfl) (ac (decide_eq_false (by omega)) (ac (c1) (ac (cg (w_i64 hi (by omega) (by omega))) (ac (by omega) (ac (by omega) (ac (by (rw [g]; rfl)) (ac (by omega) (ac (c2) (ac (by (simp [*]; done)) (ac (bne_eq_false_iff_eq.2 (by omega)) (ac (c3) (ac (c4) (ac (c5) (ao rfl))))))))))))))
          · rw [if_neg j5]
            rw [decide_eq_true (by omega)] at c5
            by_cases j6 : hd + p.fu < (h.time : Int)
            · rw [if_pos j6]
              rw [decide_eq_false (by omega)] at c6
              refine W.ret [(5, aF), (8, aK (PV.tup [U3 (x:Int), I6 0])), (19, aV (I6 (k:Int))), (21, aV (Hd.pv a)), (22, aK (B8 32 ha)), (23, aF), (31, aF), (35, aK (PV.bool true)), (39, Ans.call false [] [] (PV.vec false (B3 tn ts))), (42, aK (PV.bool true)), (50, aK (PV.bool false))] [] [((n:Int) == 0) = false, PC Tryz.prog G0 22 [] [Prm.pv p, PV.vec nl (PV.parr 68 n hsh (List.map Hd.pv l))] [] (PV.tup [U3 (x:Int), I6 0]), I6 (IntKind.wrap .i64 ((n:Int) - 1)) = I6 (k:Int), 0 ≤ (k:Int), (k:Int) < (n:Int), expose hsh (List.getD (List.map Hd.pv l) k PV.undef) = Hd.pv a, k < n, PC Tryz.prog G0 24 [] [Hd.pv a] [] (B8 32 ha), (!decide (Hd.prev h = ha)) = false, ((↑(Hd.bits h) : Int) != (x:Int)) = false, PC Tryz.prog G0 25 [] [Hd.pv h] [] (PV.bool true), PC Tryz.prog G0 27 [] [PV.vec nl (PV.parr 68 n hsh (List.map Hd.pv l))] [] (PV.vec false (B3 tn ts)), PC Tryz.prog G0 26 [] [PV.vec false (B3 tn ts), U3 (↑(Hd.time h) : Int)] [] (PV.bool true), PC Tryz.prog G0 28 [] [U3 (↑(Hd.time h) : Int), I6 now, I6 (Prm.fu p)] [] (PV.bool false), rr (I6 13)] (by kernel_rfl) (ac (decide_eq_false (by omega)) (ac (c1) (ac (cg (w_i64 hi (by omega) (by omega))) (ac (by omega) (ac (by omega) (ac (by (rw [g]; rfl)) (ac (by omega) (ac (c2) (ac (by (simp [*]; done)) (ac (bne_eq_false_iff_eq.2 (by omega)) (ac (c3) (ac (c4) (ac (c5) (ac (c6) (ao rfl)))))))))))))))
            · rw [if_neg j6]
              rw [decide_eq_true (by omega)] at c6
              refine W.ret [(5, aF), (8, aK (PV.tup [U3 (x:Int), I6 0])), (19, aV (I6 (k:Int))), (21, aV (Hd.pv a)), (22, aK (B8 32 ha)), (23, aF), (31, aF), (35, aK (PV.bool true)), (39, Ans.call false [] [] (PV.vec false (B3 tn ts))), (42, aK (PV.bool true)), (50, aK (PV.bool true))] [] [((n:Int) == 0) = false, PC Tryz.prog G0 22 [] [Prm.pv p, PV.vec nl (PV.parr 68 n hsh (List.map Hd.pv l))] [] (PV.tup [U3 (x:Int), I6 0]), I6 (IntKind.wrap .i64 ((n:Int) - 1)) = I6 (k:Int), 0 ≤ (k:Int), (k:Int) < (n:Int), expose hsh (List.getD (List.map Hd.pv l) k PV.undef) = Hd.pv a, k < n, PC Tryz.prog G0 24 [] [Hd.pv a] [] (B8 32 ha), (!decide (Hd.prev h = ha)) = false, ((↑(Hd.bits h) : Int) != (x:Int)) = false, PC Tryz.prog G0 25 [] [Hd.pv h] [] (PV.bool true), PC Tryz.prog G0 27 [] [PV.vec nl (PV.parr 68 n hsh (List.map Hd.pv l))] [] (PV.vec false (B3 tn ts)), PC Tryz.prog G0 26 [] [PV.vec false (B3 tn ts), U3 (↑(Hd.time h) : Int)] [] (PV.bool true), PC Tryz.prog G0 28 [] [U3 (↑(Hd.time h) : Int), I6 now, I6 (Prm.fu p)] [] (PV.bool true), rr (I6 0)] (by kernel_rfl) (ac (decide_eq_false (by omega)) (ac (c1) (ac (cg (w_i64 hi (by omega) (by omega))) (ac (by omega) (ac (by omega) (ac (by (rw [g]; rfl)) (ac (by omega) (ac (c2) (ac (by (simp [*]; done)) (ac (bne_eq_false_iff_eq.2 (by omega)) (ac (c3) (ac (c4) (ac (c5) (ac (c6) (ao rfl)))))))))))))))
      · rw [if_pos (.inr j3)]
        refine W.ret [(5, aF), (8, aK (PV.tup [U3 (x:Int), I6 0])), (19, aV (I6 (k:Int))), (21, aV (Hd.pv a)), (22, aK (B8 32 ha)), (23, aF), (31, aT)] [] [((n:Int) == 0) = false, PC Tryz.prog G0 22 [] [Prm.pv p, PV.vec nl (PV.parr 68 n hsh (List.map Hd.pv l))] [] (PV.tup [U3 (x:Int), I6 0]), I6 (IntKind.wrap .i64 ((n:Int) - 1)) = I6 (k:Int), 0 ≤ (k:Int), (k:Int) < (n:Int), expose hsh (List.getD (List.map Hd.pv l) k PV.undef) = Hd.pv a, k < n, PC Tryz.prog G0 24 [] [Hd.pv a] [] (B8 32 ha), (!decide (Hd.prev h = ha)) = false, ((↑(Hd.bits h) : Int) != (x:Int)) = true, rr (I6 10)] (by kernel_rfl) (ac (decide_eq_false (by omega)) (ac (c1) (ac (cg (w_i64 hi (by omega) (by omega))) (ac (by omega) (ac (by omega) (ac (by (rw [g]; rfl)) (ac (by omega) (ac (c2) (ac (by (simp [*]; done)) (ac (bne_iff_ne.2 (by omega)) (ao rfl)))))))))))
  · rw [if_pos j1]
    refine W.ret [((5 : Nat), Ans.dec false), ((8 : Nat), Ans.call true [] [] (PV.tup [PV.int IntKind.u32 (↑x : Int), PV.int IntKind.i64 (Decidable.rec (fun h => (fun x => (5 : Int)) h) (fun h => (fun x => (0 : Int)) h) (instDecidableEqBool (Prod.snd (x, b)) true))])), ((9 : Nat), Ans.val (PV.tup [PV.int IntKind.u32 (↑x : Int), PV.int IntKind.i64 (Decidable.rec (fun h => (5 : Int)) (fun h => (0 : Int)) (instDecidableEqBool b true))])), ((19 : Nat), Ans.val (PV.int IntKind.i64 (↑k : Int))), ((21 : Nat), Ans.val (PV.st (68 : Nat) [PV.int IntKind.u32 (↑(Hd.ver a) : Int), PV.iarr IntKind.u8 (32 : Nat) (Hd.prev a), PV.iarr IntKind.u8 (32 : Nat) (Hd.root a), PV.int IntKind.u32 (↑(Hd.time a) : Int), PV.int IntKind.u32 (↑(Hd.bits a) : Int), PV.int IntKind.u32 (↑(Hd.nonce a) : Int)])), ((22 : Nat), Ans.call true [] [] (PV.iarr IntKind.u8 (32 : Nat) ha)), ((23 : Nat), Ans.dec true)] [] [((↑n : Int) == (0 : Int)) = false, PC Tryz.prog G0 (22 : Nat) [] [PV.st (77 : Nat) [PV.int IntKind.u32 (↑(Prm.lim p) : Int), PV.int IntKind.i64 (Prm.per p), PV.int IntKind.i64 (Prm.sp p), PV.int IntKind.i64 (Prm.fu p), PV.int IntKind.i64 (Prm.cap p), PV.st (68 : Nat) [PV.int IntKind.u32 (↑(Hd.ver (Prm.gen p)) : Int), PV.iarr IntKind.u8 (32 : Nat) (Hd.prev (Prm.gen p)), PV.iarr IntKind.u8 (32 : Nat) (Hd.root (Prm.gen p)), PV.int IntKind.u32 (↑(Hd.time (Prm.gen p)) : Int), PV.int IntKind.u32 (↑(Hd.bits (Prm.gen p)) : Int), PV.int IntKind.u32 (↑(Hd.nonce (Prm.gen p)) : Int)], PV.iarr IntKind.u64 (4 : Nat) (uw (Prm.sum p))], PV.vec nl (PV.parr (68 : Nat) n (Sh.st (68 : Nat) [Sh.int IntKind.u32, Sh.iarr IntKind.u8 (32 : Nat), Sh.iarr IntKind.u8 (32 : Nat), Sh.int IntKind.u32, Sh.int IntKind.u32, Sh.int IntKind.u32]) (List.map Hd.pv l))] [] (PV.tup [PV.int IntKind.u32 (↑x : Int), PV.int IntKind.i64 (Decidable.rec (fun h => (fun x => (5 : Int)) h) (fun h => (fun x => (0 : Int)) h) (instDecidableEqBool (Prod.snd (x, b)) true))]), PV.tup [PV.int IntKind.u32 (↑x : Int), PV.int IntKind.i64 (Decidable.rec (fun h => (fun x => (5 : Int)) h) (fun h => (fun x => (0 : Int)) h) (instDecidableEqBool (Prod.snd (x, b)) true))] = PV.tup [PV.int IntKind.u32 (↑x : Int), PV.int IntKind.i64 (Decidable.rec (fun h => (5 : Int)) (fun h => (0 : Int)) (instDecidableEqBool b true))], PV.int IntKind.i64 (IntKind.wrap IntKind.i64 ((↑n : Int) - (1 : Int))) = PV.int IntKind.i64 (↑k : Int), (0 : Int) ≤ (↑k : Int), (↑k : Int) < (↑n : Int), PV.st (68 : Nat) [PV.int IntKind.u32 (PV.num (List.headD (PV.fs (List.getD (List.map Hd.pv l) k PV.undef)) PV.undef)), PV.iarr IntKind.u8 (32 : Nat) (PV.nums (List.headD (List.tail (PV.fs (List.getD (List.map Hd.pv l) k PV.undef))) PV.undef)), PV.iarr IntKind.u8 (32 : Nat) (PV.nums (List.headD (List.tail (List.tail (PV.fs (List.getD (List.map Hd.pv l) k PV.undef)))) PV.undef)), PV.int IntKind.u32 (PV.num (List.headD (List.tail (List.tail (List.tail (PV.fs (List.getD (List.map Hd.pv l) k PV.undef))))) PV.undef)), PV.int IntKind.u32 (PV.num (List.headD (List.tail (List.tail (List.tail (List.tail (PV.fs (List.getD (List.map Hd.pv l) k PV.undef)))))) PV.undef)), PV.int IntKind.u32 (PV.num (List.headD (List.tail (List.tail (List.tail (List.tail (List.tail (PV.fs (List.getD (List.map Hd.pv l) k PV.undef))))))) PV.undef))] = PV.st (68 : Nat) [PV.int IntKind.u32 (↑(Hd.ver a) : Int), PV.iarr IntKind.u8 (32 : Nat) (Hd.prev a), PV.iarr IntKind.u8 (32 : Nat) (Hd.root a), PV.int IntKind.u32 (↑(Hd.time a) : Int), PV.int IntKind.u32 (↑(Hd.bits a) : Int), PV.int IntKind.u32 (↑(Hd.nonce a) : Int)], k < n, PC Tryz.prog G0 (24 : Nat) [] [PV.st (68 : Nat) [PV.int IntKind.u32 (↑(Hd.ver a) : Int), PV.iarr IntKind.u8 (32 : Nat) (Hd.prev a), PV.iarr IntKind.u8 (32 : Nat) (Hd.root a), PV.int IntKind.u32 (↑(Hd.time a) : Int), PV.int IntKind.u32 (↑(Hd.bits a) : Int), PV.int IntKind.u32 (↑(Hd.nonce a) : Int)]] [] (PV.iarr IntKind.u8 (32 : Nat) ha), (!decide (Hd.prev h = ha)) = true, PV.int IntKind.i64 (9 : Int) = PV.int IntKind.i64 (9 : Int)] (by kernel_rfl) (ac (by exact decide_eq_false (by omega)) (ac (by exact c1) (ac (by simp only []) (ac (by exact congrArg (PV.int _) (w_i64 hi (by omega) (by omega))) (ac (by omega) (ac (by omega) (ac (by (rw [g]; rfl)) (ac (by omega) (ac (by exact c2) (ac (by (simp [*]; done)) (ao (by with_reducible rfl))))))))))))
end Go.Proofs
namespace Go.Proofs
open Go Go.Pe Go.Pm
set_option maxRecDepth 100000
set_option linter.unusedVariables false
attribute [local irreducible] hhash lv dsha
/-- the first header that fails, from i on, and its verdict -/
def scan (p : Prm) (l : List Hd) (now : Int) : Nat → Nat → Nat × Int
  | 0, i => (i, 0)
  | k + 1, i => if jud p (l.take i) (l.getD i default) now = 0 then scan p l now k (i + 1) else (i, jud p (l.take i) (l.getD i default) now)
theorem take_ok {l : List Hd} {i : Nat} (ho : ∀ h ∈ l, h.Ok) : ∀ h ∈ l.take i, h.Ok := fun h hh => ho h (List.mem_of_mem_take hh)
theorem pc_judgeT {p : Prm} (hp : p.Ok) (hm : p.May) {nl : Bool} {l : List Hd} {i : Nat} (h0 : 0 < i) (hi : i < l.length) (hn : l.length ≤ 30) (ho : ∀ h ∈ l, h.Ok) {now : Int} :
    PC Tryz.prog G0 9 [] [p.pv, .vec nl (.parr 68 i hsh ((l.map Hd.pv).take i)), (l.getD i default).pv, .int .i64 now] [] (.int .i64 (jud p (l.take i) (l.getD i default) now)) := by
  have hl : (l.take i).length = i := by rw [List.length_take]; omega
  have c := pc_judge hp hm (nl := nl) (l := l.take i) (now := now) (by omega) (by omega) (take_ok ho) (ok_get (i := i) ho hi)
  unfold lpv at c
  rw [hl, List.map_take] at c
  exact c
def dsLn (p : Prm) (now : Int) (nl : Bool) (H : List PV) (n i : Nat) : DS := ⟨[(1, .vec nl (.parr 68 n hsh H)), (2, .int .i64 now), (3, .at 3 []), (8, .int .i64 i)], [(3, ⟨p.pv, false⟩)]⟩
set_option maxHeartbeats 4000000 in
theorem W_line {p : Prm} (hp : p.Ok) (hm : p.May) {now : Int} {nl : Bool} {l : List Hd} {n : Nat} (hn : l.length = n) (hn1 : n ≤ 30) (ho : ∀ h ∈ l, h.Ok) : ∀ (k i : Nat), i + k = n → 0 < i →
    W Tryz.prog G0 Tryz.f13 [] [] (.tup [.int .i64 (scan p l now k i).1, .int .i64 (scan p l now k i).2]) (loopAt Tryz.f13 0) (dsLn p now nl (l.map Hd.pv) n i)
  | 0, i, hk, h0 => by
    have hi : i = n := by omega
    subst hi
    unfold scan
    generalize l.map Hd.pv = H at *
    refine W.ret [(3, aF)] [] [decide ((i:Int) < (i:Int)) = false, PV.tup [I6 (i:Int), I6 0] = PV.tup [I6 (i:Int), I6 (Prod.snd (i, (0 : Int)))]] (by kernel_rfl) (ac (decide_eq_false (by omega)) (ao rfl))
  | k + 1, i, hk, h0 => by
    have hlen : (l.map Hd.pv).length = n := by rw [List.length_map, hn]
    have g := map_get (l := l) (i := i) (by omega)
    have c := pc_judgeT hp hm (nl := nl) (l := l) (now := now) (i := i) h0 (by omega) (by omega) ho
    have hw := W_line hp hm (now := now) (nl := nl) hn hn1 ho k (i + 1) (by omega) (by omega)
    have hin : i < n := by omega
    rw [scan]
    generalize jud p (l.take i) (l.getD i default) now = r at *
    generalize scan p l now k (i + 1) = x at *
    generalize l.getD i default = a at *
    generalize l.map Hd.pv = H at *
    by_cases hr : r = 0
    · rw [if_pos hr]
      refine W.seg [(3, aT), (11, aV (Hd.pv a)), (13, aK (I6 r)), (14, aV (I6 0)), (18, aV (I6 (↑(i + 1) : Int)))] [(3, 3)] (dsLn p now nl H n (i + 1)) (todo' := loopAt Tryz.f13 0) [decide ((i:Int) < (n:Int)) = true, (0 : Int) ≤ (0 : Int), 0 ≤ (i:Int), (i:Int) ≤ (n:Int), 0 ≤ (i:Int), (i:Int) < (n:Int), expose hsh (List.getD H i PV.undef) = Hd.pv a, i < n, PC Tryz.prog G0 9 [] [Prm.pv p, PV.vec nl (PV.parr 68 i hsh (List.take i H)), Hd.pv a, I6 now] [] (I6 r), I6 r = I6 0, I6 (IntKind.wrap .i64 ((i:Int) + 1)) = I6 (↑(i + 1) : Int), rr (PV.vec nl (PV.parr 68 n hsh H)), rr (I6 now), rr (PV.at 3 []), rr (I6 (↑(i + 1) : Int)), rr (Prm.pv p)] (by kernel_rfl) (ac (decide_eq_true (by omega)) (ac (by omega) (ac (by omega) (ac (by omega) (ac (by omega) (ac (by omega) (ac (by (rw [g]; rfl)) (ac (by omega) (ac (c) (ac (cg (hr)) (ac (cg (w_i64 rfl (by omega) (by omega))) (ac rfl (ac rfl (ac rfl (ac rfl (ao rfl)))))))))))))))) ?_
      exact hw
    · rw [if_neg hr]
      refine W.ret [(3, aT), (11, aV (Hd.pv a)), (13, aK (I6 r)), (16, aT)] [] [decide ((i:Int) < (n:Int)) = true, (0 : Int) ≤ (0 : Int), 0 ≤ (i:Int), (i:Int) ≤ (n:Int), 0 ≤ (i:Int), (i:Int) < (n:Int), expose hsh (List.getD H i PV.undef) = Hd.pv a, i < n, PC Tryz.prog G0 9 [] [Prm.pv p, PV.vec nl (PV.parr 68 i hsh (List.take i H)), Hd.pv a, I6 now] [] (I6 r), (r != (0 : Int)) = true, PV.tup [I6 (i:Int), I6 r] = PV.tup [I6 (i:Int), I6 (Prod.snd (i, r))]] (by kernel_rfl) (ac (decide_eq_true (by omega)) (ac (by omega) (ac (by omega) (ac (by omega) (ac (by omega) (ac (by omega) (ac (by (rw [g]; rfl)) (ac (by omega) (ac (c) (ac (bne_iff_ne.2 (by omega)) (ao rfl)))))))))))
instance : DecidableEq Hd := fun a b => decidable_of_iff (a.ver = b.ver ∧ a.prev = b.prev ∧ a.root = b.root ∧ a.time = b.time ∧ a.bits = b.bits ∧ a.nonce = b.nonce) (by cases a; cases b; simp)
/-- a line's verdict -/
def lineM (p : Prm) (l : List Hd) (now : Int) : Nat × Int := if l.getD 0 default = p.gen then scan p l now (l.length - 1) 1 else (0, 3)
theorem pc_line0 {p : Prm} {now : Int} {nl : Bool} : PC Tryz.prog G0 13 [] [p.pv, lpv nl [], .int .i64 now] [] (.tup [.int .i64 0, .int .i64 6]) := by
  refine PC.of (fn := Tryz.f13) (c := bodyOf Tryz.f13) Tryz.func13 (by kernel_rfl) (by kernel_rfl) (by kernel_rfl) (by kernel_rfl) ?_
  refine W.ret [(4, aV (I6 0))] [] [I6 (↑(0 : Nat) : Int) = I6 0, rr (PV.tup [I6 0, I6 6])] (by kernel_rfl) (ac (cg (by omega)) (ao rfl))
theorem hd_eqB (a b : Hd) : (!((a.ver : Int) == (b.ver : Int) && (decide (a.prev = b.prev) && (decide (a.root = b.root) && ((a.time : Int) == (b.time : Int) && ((a.bits : Int) == (b.bits : Int) && ((a.nonce : Int) == (b.nonce : Int) && true))))))) = decide (¬ a = b) := by
  rw [Bool.eq_iff_iff]
  cases a; cases b
  simp [Int.natCast_inj]
set_option maxHeartbeats 4000000 in
theorem pc_line {p : Prm} (hp : p.Ok) (hm : p.May) {now : Int} {nl : Bool} {l : List Hd} (h0 : 0 < l.length) (hn : l.length ≤ 30) (ho : ∀ h ∈ l, h.Ok) :
    PC Tryz.prog G0 13 [] [p.pv, lpv nl l, .int .i64 now] [] (.tup [.int .i64 (lineM p l now).1, .int .i64 (lineM p l now).2]) := by
  refine PC.of (fn := Tryz.f13) (c := bodyOf Tryz.f13) Tryz.func13 (by kernel_rfl) (by kernel_rfl) (by kernel_rfl) (by kernel_rfl) ?_
  have g := map_get (l := l) (i := 0) (by omega)
  have ha := ok_get (i := 0) ho h0
  have hg := hp.gen
  have hw := W_line hp hm (now := now) (nl := nl) (l := l) rfl hn ho (l.length - 1) 1 (by omega) (by omega)
  unfold lpv lineM
  generalize l.getD 0 default = a at *
  generalize scan p l now (l.length - 1) 1 = x at *
  generalize l.length = n at *
  generalize l.map Hd.pv = H at *
  have q1 := ha.prev
  have q2 := ha.root
  have q3 := hg.prev
  have q4 := hg.root
  by_cases e : a = p.gen
  · rw [if_pos e]
    have e2 := hd_eqB a p.gen
    rw [decide_eq_false (not_not_intro e)] at e2
    refine W.seg [(5, aF), (8, aV (Hd.pv a)), (11, aF)] [(64, 3)] (dsLn p now nl H n 1) (todo' := loopAt Tryz.f13 0) [((n:Int) == 0) = false, (0 : Int) ≤ (0 : Int), 0 < (n:Int), expose hsh (List.getD H 0 PV.undef) = Hd.pv a, 0 < n, (!((↑(Hd.ver a) : Int) == (↑(Hd.ver (Prm.gen p)) : Int) && (decide (Hd.prev a = Hd.prev (Prm.gen p)) && (decide (Hd.root a = Hd.root (Prm.gen p)) && ((↑(Hd.time a) : Int) == (↑(Hd.time (Prm.gen p)) : Int) && ((↑(Hd.bits a) : Int) == (↑(Hd.bits (Prm.gen p)) : Int) && ((↑(Hd.nonce a) : Int) == (↑(Hd.nonce (Prm.gen p)) : Int) && true))))))) = false, rr (PV.vec nl (PV.parr 68 n hsh H)), rr (I6 now), rr (PV.at 3 []), I6 1 = I6 (↑(1 : Nat) : Int), rr (Prm.pv p)] (by kernel_rfl) (ac (decide_eq_false (by omega)) (ac (by omega) (ac (by omega) (ac (by (rw [g]; rfl)) (ac (by omega) (ac (by assumption) (ac rfl (ac rfl (ac rfl (ac (cg (by omega)) (ao rfl))))))))))) ?_
    exact hw
  · rw [if_neg e]
    have e2 := hd_eqB a p.gen
    rw [decide_eq_true e] at e2
    refine W.ret [(5, aF), (8, aV (Hd.pv a)), (11, aT)] [] [((n:Int) == 0) = false, (0 : Int) ≤ (0 : Int), 0 < (n:Int), expose hsh (List.getD H 0 PV.undef) = Hd.pv a, 0 < n, (!((↑(Hd.ver a) : Int) == (↑(Hd.ver (Prm.gen p)) : Int) && (decide (Hd.prev a = Hd.prev (Prm.gen p)) && (decide (Hd.root a = Hd.root (Prm.gen p)) && ((↑(Hd.time a) : Int) == (↑(Hd.time (Prm.gen p)) : Int) && ((↑(Hd.bits a) : Int) == (↑(Hd.bits (Prm.gen p)) : Int) && ((↑(Hd.nonce a) : Int) == (↑(Hd.nonce (Prm.gen p)) : Int) && true))))))) = true, PV.tup [I6 0, I6 3] = PV.tup [I6 (↑(0 : Nat) : Int), I6 (Prod.snd (0, (3 : Int)))]] (by kernel_rfl) (ac (decide_eq_false (by omega)) (ac (by omega) (ac (by omega) (ac (by (rw [g]; rfl)) (ac (by omega) (ac (by assumption) (ao rfl)))))))
end Go.Proofs
namespace Go.Proofs
open Go Go.Pe Go.Pm
theorem bytes_of {w e : Nat} (h0 : 1 ≤ e) (h1 : 2 ^ (8 * (e - 1)) ≤ w) (h2 : w < 2 ^ (8 * e)) : (blen w + 7) / 8 = e := by
  have a := blen_le.2 h2
  have b : ¬ blen w ≤ 8 * (e - 1) := fun x => by have := blen_le.1 x; omega
  omega
theorem cbits_at {w e : Nat} (h : (blen w + 7) / 8 = e) : cbits w = cbitsOf e (w * 2 ^ (8 * (3 - e)) / 2 ^ (8 * (e - 3))) := by unfold cbits; rw [h]
theorem tgt_small {c e m : Nat} (hc : c = e * 16777216 + m) (hm : m < 8388608) (he : e ≤ 3) : tgt c = m / 2 ^ (8 * (3 - e)) := by
  unfold tgt
  have e1 : c / 8388608 % 2 = 0 := by omega
  have e2 : c / 16777216 = e := by omega
  have e3 : c % 8388608 = m := by omega
  rw [e2, e3, if_neg (by omega), if_pos he]
theorem tgt_big {c e m : Nat} (hc : c = e * 16777216 + m) (hm : m < 8388608) (he : 3 < e) (hb : blen m + 8 * (e - 3) ≤ 256) : tgt c = m * 2 ^ (8 * (e - 3)) := by
  unfold tgt
  have e1 : c / 8388608 % 2 = 0 := by omega
  have e2 : c / 16777216 = e := by omega
  have e3 : c % 8388608 = m := by omega
  rw [e2, e3, if_neg (by omega), if_neg (by omega), if_neg (by omega)]
theorem canon_of {v w : Nat} (h0 : 0 < w) (ht : tgt (cbits v) = w) (hc : cbits w = cbits v) : canon (cbits v) = true := by
  unfold canon
  rw [ht]
  exact decide_eq_true ⟨by omega, hc⟩
theorem canon_cbits {v : Nat} (h0 : 0 < v) (hv : v < W256) : canon (cbits v) = true := by
  have hbl : blen v ≤ 256 := blen_le.2 (Nat.lt_of_lt_of_le hv (by decide))
  have hb0 : 0 < blen v := by
    rcases Nat.eq_zero_or_pos (blen v) with h | h
    · have := blen_le.1 (Nat.le_of_eq h); simp at this; omega
    · exact h
  obtain ⟨e, he⟩ : ∃ e, (blen v + 7) / 8 = e := ⟨_, rfl⟩
  have he1 : 1 ≤ e := by omega
  have he2 : e ≤ 32 := by omega
  have hup : v < 2 ^ (8 * e) := blen_le.1 (by omega)
  have hlo : 2 ^ (8 * (e - 1)) ≤ v := by
    rcases Nat.lt_or_ge v (2 ^ (8 * (e - 1))) with h | h
    · have := blen_le.2 h; omega
    · exact h
  have hm := cm_lt v
  rw [he] at hm
  have hcb := cbits_at he
  obtain ⟨m, hmm⟩ : ∃ m, v * 2 ^ (8 * (3 - e)) / 2 ^ (8 * (e - 3)) = m := ⟨_, rfl⟩
  rw [hmm] at hm hcb
  by_cases h3 : e ≤ 3
  · have hmv : m = v * 2 ^ (8 * (3 - e)) := by rw [← hmm, show 8 * (e - 3) = 0 by omega, Nat.pow_zero, Nat.div_one]
    by_cases hA : m / 8388608 % 2 = 1
    · have hc : cbits v = (e + 1) * 16777216 + m / 256 := by rw [hcb]; unfold cbitsOf; rw [if_pos hA]
      by_cases h2 : e ≤ 2
      · have ht : tgt (cbits v) = v := by
          rw [tgt_small hc (by omega) (by omega), hmv, show 8 * (3 - e) = 8 + 8 * (3 - (e + 1)) by omega, Nat.pow_add, show (2 : Nat) ^ 8 = 256 by decide, Nat.mul_left_comm, Nat.mul_div_cancel_left _ (by omega), Nat.mul_div_cancel _ (Nat.two_pow_pos _)]
        exact canon_of h0 ht rfl
      · have e3 : e = 3 := by omega
        subst e3
        simp only [Nat.sub_self, Nat.mul_zero, Nat.pow_zero, Nat.mul_one] at hmv
        have hb : blen (m / 256) ≤ 16 := blen_le.2 (by rw [show (2 : Nat) ^ 16 = 65536 by decide]; omega)
        have ht := tgt_big hc (by omega) (by omega) (by omega)
        simp only [Nat.reduceAdd, Nat.reduceSub, Nat.reduceMul, Nat.reducePow] at ht
        have hw : (blen (m / 256 * 256) + 7) / 8 = 3 := bytes_of (by omega) (by simp only [Nat.reduceSub, Nat.reduceMul, Nat.reducePow]; omega) (by simp only [Nat.reduceMul, Nat.reducePow]; omega)
        refine canon_of (by omega) ht ?_
        rw [cbits_at hw, hc]
        simp only [Nat.sub_self, Nat.mul_zero, Nat.pow_zero, Nat.mul_one, Nat.div_one]
        unfold cbitsOf
        rw [if_pos (by omega)]
        omega
    · have hc : cbits v = e * 16777216 + m := by rw [hcb]; unfold cbitsOf; rw [if_neg hA]
      have ht : tgt (cbits v) = v := by rw [tgt_small hc (by omega) h3, hmv, Nat.mul_div_cancel _ (Nat.two_pow_pos _)]
      exact canon_of h0 ht rfl
  · obtain ⟨s, hs⟩ : ∃ s, 8 * (e - 3) = s := ⟨_, rfl⟩
    have hmv : v / 2 ^ s = m := by rw [← hmm, show 8 * (3 - e) = 0 by omega, Nat.pow_zero, Nat.mul_one, hs]
    have hps := Nat.two_pow_pos s
    have hlo' : 65536 * 2 ^ s ≤ v := by
      have : 2 ^ (8 * (e - 1)) = 65536 * 2 ^ s := by rw [show 8 * (e - 1) = 16 + s by omega, Nat.pow_add, show (2 : Nat) ^ 16 = 65536 by decide]
      omega
    have hm2 : 65536 ≤ m := by rw [← hmv]; exact (Nat.le_div_iff_mul_le hps).2 hlo'
    have hle : m * 2 ^ s ≤ v := by rw [← hmv]; exact Nat.div_mul_le_self _ _
    by_cases hA : m / 8388608 % 2 = 1
    · have hc : cbits v = (e + 1) * 16777216 + m / 256 := by rw [hcb]; unfold cbitsOf; rw [if_pos hA]
      have hb : blen (m / 256) ≤ 16 := blen_le.2 (by rw [show (2 : Nat) ^ 16 = 65536 by decide]; omega)
      have ht := tgt_big hc (by omega) (by omega) (by omega)
      rw [show 8 * (e + 1 - 3) = 8 + s by omega, Nat.pow_add, show (2 : Nat) ^ 8 = 256 by decide, ← Nat.mul_assoc] at ht
      have g1 : m / 256 * 256 ≤ m := Nat.div_mul_le_self _ _
      have g2 : m / 256 * 256 * 2 ^ s ≤ m * 2 ^ s := Nat.mul_le_mul_right _ g1
      have g3 : 8388608 * 2 ^ s ≤ m / 256 * 256 * 2 ^ s := Nat.mul_le_mul_right _ (by omega)
      have g4 : 2 ^ (8 * (e - 1)) = 65536 * 2 ^ s := by rw [show 8 * (e - 1) = 16 + s by omega, Nat.pow_add, show (2 : Nat) ^ 16 = 65536 by decide]
      have hw : (blen (m / 256 * 256 * 2 ^ s) + 7) / 8 = e := bytes_of he1 (by omega) (by omega)
      refine canon_of (by omega) ht ?_
      rw [cbits_at hw, hc, show 8 * (3 - e) = 0 by omega, Nat.pow_zero, Nat.mul_one, hs, Nat.mul_div_cancel _ hps]
      unfold cbitsOf
      rw [if_pos (by omega)]
      omega
    · have hc : cbits v = e * 16777216 + m := by rw [hcb]; unfold cbitsOf; rw [if_neg hA]
      have hb : blen m ≤ 23 := blen_le.2 (by rw [show (2 : Nat) ^ 23 = 8388608 by decide]; omega)
      have ht := tgt_big hc (by omega) (by omega) (by omega)
      rw [hs] at ht
      have g3 : 65536 * 2 ^ s ≤ m * 2 ^ s := Nat.mul_le_mul_right _ hm2
      have g4 : 2 ^ (8 * (e - 1)) = 65536 * 2 ^ s := by rw [show 8 * (e - 1) = 16 + s by omega, Nat.pow_add, show (2 : Nat) ^ 16 = 65536 by decide]
      have hw : (blen (m * 2 ^ s) + 7) / 8 = e := bytes_of he1 (by omega) (by omega)
      refine canon_of (by omega) ht ?_
      rw [cbits_at hw, hc, show 8 * (3 - e) = 0 by omega, Nat.pow_zero, Nat.mul_one, hs, Nat.mul_div_cancel _ hps]
      unfold cbitsOf
      rw [if_neg hA]
end Go.Proofs
namespace Go.Proofs
open Go Go.Pe Go.Pm
set_option maxRecDepth 100000
set_option linter.unusedVariables false
attribute [local irreducible] hhash lv dsha
theorem held_mono {a b : Int} (h0 : 0 ≤ a) (h : a ≤ b) : held a ≤ held b := by
  unfold held mn mx
  split <;> split <;> (try split) <;> (try split) <;> omega
theorem jud_later {p : Prm} {l : List Hd} {h : Hd} {a b : Int} (h0 : 0 ≤ a) (hab : a ≤ b) (hj : jud p l h a = 0) : jud p l h b = 0 := by
  have hm := held_mono h0 hab
  unfold jud at *
  split at hj
  · cases hj
  · rename_i g1
    rw [if_neg g1]
    split at hj
    · cases hj
    · rename_i g2
      rw [if_neg g2]
      split at hj
      · cases hj
      · rename_i g3
        rw [if_neg g3]
        split at hj
        · cases hj
        · rename_i g4
          rw [if_neg g4]
          split at hj
          · cases hj
          · rw [if_neg (by omega)]
theorem jud_bits {p : Prm} {l : List Hd} {h : Hd} {a : Int} (hj : jud p l h a = 0) : (nbits p l).2 = true ∧ (nbits p l).1 = h.bits := by
  unfold jud at hj
  split at hj
  · cases hj
  · split at hj
    · cases hj
    · rename_i g
      simp only [not_or, Classical.not_not] at g
      exact ⟨by simpa using g.1, g.2⟩
theorem scan_all {p : Prm} {l : List Hd} {a : Int} : ∀ {k i : Nat}, (scan p l a k i).2 = 0 → ∀ j, i ≤ j → j < i + k → jud p (l.take j) (l.getD j default) a = 0
  | 0, i, h, j, h1, h2 => by omega
  | k + 1, i, h, j, h1, h2 => by
    rw [scan] at h
    by_cases hj : jud p (l.take i) (l.getD i default) a = 0
    · rw [if_pos hj] at h
      rcases Nat.eq_or_lt_of_le h1 with e | e
      · subst e; exact hj
      · exact scan_all h j (by omega) (by omega)
    · rw [if_neg hj] at h
      exact absurd h hj
theorem scan_of {p : Prm} {l : List Hd} {a : Int} : ∀ {k i : Nat}, (∀ j, i ≤ j → j < i + k → jud p (l.take j) (l.getD j default) a = 0) → scan p l a k i = (i + k, 0)
  | 0, i, h => rfl
  | k + 1, i, h => by
    rw [scan, if_pos (h i (by omega) (by omega)), scan_of fun j h1 h2 => h j (by omega) (by omega)]
    congr 1
    omega
theorem getD_take {l : List Hd} {i j : Nat} (h : j < i) : (l.take i).getD j default = l.getD j default := by
  rw [List.getD_eq_getElem?_getD, List.getElem?_take_of_lt h, List.getD_eq_getElem?_getD]
theorem line_part {p : Prm} {l : List Hd} {a b : Int} (h0 : 0 ≤ a) (hab : a ≤ b) (hg : l.getD 0 default = p.gen) (hall : ∀ j, 1 ≤ j → j < l.length → jud p (l.take j) (l.getD j default) a = 0) {i : Nat} (hi : 1 ≤ i) (hin : i ≤ l.length) : lineM p (l.take i) b = (i, 0) := by
  unfold lineM
  have hl : (l.take i).length = i := by rw [List.length_take]; omega
  rw [getD_take (by omega), if_pos hg, hl, scan_of (fun j h1 h2 => ?_)]
  · congr 1
    omega
  · rw [List.take_take, show min j i = j by omega, getD_take (by omega)]
    exact jud_later h0 hab (hall j h1 (by omega))
theorem nextN_pos {t u n l : Nat} (hu : 0 < u) : 0 < nextN t u n l := by
  unfold nextN
  generalize t * l / n = d
  generalize t * l / W256 = d2
  split
  · exact hu
  · split
    · omega
    · split <;> omega
theorem canons {p : Prm} (hp : p.Ok) (hm : p.May) {l : List Hd} {a : Int} (hg : l.getD 0 default = p.gen) (hall : ∀ j, 1 ≤ j → j < l.length → jud p (l.take j) (l.getD j default) a = 0) : ∀ j, j < l.length → canon (l.getD j default).bits = true
  | 0, _ => by rw [hg]; exact hm.c2
  | j + 1, hj => by
    have hb := jud_bits (hall (j + 1) (by omega) hj)
    have ih := canons hp hm hg hall j (by omega)
    have hl : (l.take (j + 1)).length = j + 1 := by rw [List.length_take]; omega
    rw [← hb.2]
    have hb1 := hb.1
    have eg : (l.take (j + 1)).getD j default = l.getD j default := getD_take (by omega)
    unfold nbits at hb1 ⊢
    dsimp only at hb1 ⊢
    simp only [hl, Nat.add_sub_cancel, eg] at hb1 ⊢
    split at hb1
    · rename_i hd
      rw [if_pos hd]
      split at hb1
      · cases hb1
      · rename_i ht
        rw [if_neg ht]
        have hlt := tgt_lt p.lim
        exact canon_cbits (nextN_pos (Nat.pos_of_ne_zero (canon_ne hm.c1))) (nextN_lt hlt)
    · rename_i hd
      rw [if_neg hd]
      exact ih
theorem tot_append : ∀ {a b : List Hd} {s : Nat}, (tot s a).2 = 0 → tot s (a ++ b) = tot (tot s a).1 b
  | [], b, s, _ => rfl
  | x :: a, b, s, h => by
    have e1 : ∀ c, tot s (x :: c) = if tgt x.bits = 0 then (0, 5) else if W256 ≤ s + work (tgt x.bits) then (0, 14) else tot (s + work (tgt x.bits)) c := fun _ => rfl
    rw [List.cons_append, e1, e1]
    rw [e1] at h
    by_cases g : tgt x.bits = 0
    · rw [if_pos g] at h; cases h
    · rw [if_neg g] at h
      rw [if_neg g, if_neg g]
      by_cases g2 : W256 ≤ s + work (tgt x.bits)
      · rw [if_pos g2] at h; cases h
      · rw [if_neg g2] at h
        rw [if_neg g2, if_neg g2]
        exact tot_append h
/-- the sum of the first i headers -/
def ptot (p : Prm) (l : List Hd) (i : Nat) : Nat × Int := tot p.sum ((l.take i).drop 1)
theorem ptot_one {p : Prm} {l : List Hd} {i : Nat} (hi : i ≤ 1) : ptot p l i = (p.sum, 0) := by
  unfold ptot
  rw [List.drop_of_length_le (by rw [List.length_take]; omega)]
  rfl
theorem ptot_next {p : Prm} {l : List Hd} {i : Nat} (h1 : 1 ≤ i) (hi : i < l.length) (h : (ptot p l i).2 = 0) (ht : ¬ tgt (l.getD i default).bits = 0) :
    ptot p l (i + 1) = if W256 ≤ (ptot p l i).1 + work (tgt (l.getD i default).bits) then (0, 14) else ((ptot p l i).1 + work (tgt (l.getD i default).bits), 0) := by
  unfold ptot at *
  rw [List.take_add_one, List.getElem?_eq_getElem hi, Option.toList_some, List.drop_append_of_le_length (by rw [List.length_take]; omega), tot_append h]
  have e : l[i] = l.getD i default := by rw [List.getD_eq_getElem?_getD, List.getElem?_eq_getElem hi]; rfl
  rw [e, tot, if_neg ht]
  rfl
theorem tot_lt' : ∀ {s : Nat} {l : List Hd}, s < W256 → (tot s l).1 < W256
  | s, [], h => h
  | s, x :: l, h => by
    unfold tot
    split
    · exact W256_pos
    · split
      · exact W256_pos
      · exact tot_lt' (by omega)
theorem ptot_lt {p : Prm} (hp : p.Ok) {l : List Hd} : ∀ {i : Nat}, (ptot p l i).1 < W256 := by
  intro i
  unfold ptot
  exact tot_lt' hp.sum
theorem pc_lineT {p : Prm} (hp : p.Ok) (hm : p.May) {nl : Bool} {l : List Hd} {i : Nat} (h0 : 1 ≤ i) (hi : i ≤ l.length) (hn : l.length ≤ 30) (ho : ∀ h ∈ l, h.Ok) {b : Int} (he : lineM p (l.take i) b = (i, 0)) :
    PC Tryz.prog G0 13 [] [p.pv, .vec nl (.parr 68 i hsh ((l.map Hd.pv).take i)), .int .i64 b] [] (.tup [.int .i64 i, .int .i64 0]) := by
  have hl : (l.take i).length = i := by rw [List.length_take]; omega
  have c := pc_line hp hm (nl := nl) (l := l.take i) (now := b) (by omega) (by omega) (take_ok ho)
  rw [he] at c
  unfold lpv at c
  rw [hl, List.map_take] at c
  exact c
theorem pc_totalT {p : Prm} (hp : p.Ok) {nl : Bool} {l : List Hd} {i : Nat} (hi : i ≤ l.length) (hn : l.length ≤ 30) (ho : ∀ h ∈ l, h.Ok) :
    PC Tryz.prog G0 14 [] [p.pv, .vec nl (.parr 68 i hsh ((l.map Hd.pv).take i))] [] (.tup [.iarr .u64 4 (uw (ptot p l i).1), .int .i64 (ptot p l i).2]) := by
  have hl : (l.take i).length = i := by rw [List.length_take]; omega
  have c := pc_total (p := p) (nl := nl) (l := l.take i) (by omega) (take_ok ho) hp.sum
  unfold lpv at c
  rw [hl, List.map_take] at c
  exact c
def dsPt (p : Prm) (nl : Bool) (H : List PV) (n : Nat) (now later : Int) (s i : Nat) : DS := ⟨[(3, .at 3 []), (4, .vec nl (.parr 68 n hsh H)), (5, .int .i64 now), (6, .int .i64 later), (9, .at 9 []), (10, .int .i64 i)], [(3, ⟨p.pv, false⟩), (9, ⟨.iarr .u64 4 (uw s), false⟩)]⟩
set_option maxHeartbeats 4000000 in
theorem W_pt {p : Prm} (hp : p.Ok) (hm : p.May) {now later : Int} (n1 : 0 ≤ now) (n2 : now ≤ 1099511627776) (m1 : 0 ≤ later) (m2 : later ≤ 1099511627776) {nl : Bool} {l : List Hd} {n : Nat} (hn : l.length = n) (hn1 : n ≤ 16) (ho : ∀ h ∈ l, h.Ok)
    (hg : l.getD 0 default = p.gen) (hall : ∀ j, 1 ≤ j → j < l.length → jud p (l.take j) (l.getD j default) now = 0) : ∀ (k i s : Nat), i + k = n + 1 → 1 ≤ i → (ptot p l (i - 1)).2 = 0 → s = (ptot p l (i - 1)).1 →
    W Tryz.prog G0 Tryz.f5 [] [] (.bool true) (loopAt Tryz.f5 0) (dsPt p nl (l.map Hd.pv) n now later s i)
  | 0, i, s, hk, h1, he, hs => by
    have hi : i = n + 1 := by omega
    subst hi
    have c4 := pc_awake19
    generalize l.map Hd.pv = H at *
    refine W.ret [(3, aF), (4, aK (PV.bool true))] [] [decide ((↑(n + 1) : Int) ≤ (n:Int)) = false, PC Tryz.prog G0 8 [] [] [] (PV.bool true), rr (PV.bool true)] (by kernel_rfl) (ac (decide_eq_false (by omega)) (ac (c4) (ao rfl)))
  | k + 1, i, s, hk, h1, he, hs => by
    have c4 := pc_awake19
    have hlen : (l.map Hd.pv).length = n := by rw [List.length_map, hn]
    have g := map_get (l := l) (i := i - 1) (by omega)
    have hok := ok_get (i := i - 1) ho (by omega)
    have c1 := pc_lineT hp hm (nl := nl) (l := l) (i := i) h1 (by omega) (by omega) ho (line_part n1 (b := now + later) (by omega) hg hall h1 (by omega))
    have c2 := pc_totalT hp (nl := nl) (l := l) (i := i) (by omega) (by omega) ho
    have hcan := canons hp hm hg hall (i - 1) (by omega)
    have c5 := pc_canon hok.bits
    rw [hcan] at c5
    have hin : i ≤ n := by omega
    have hi1 : (i : Int) - 1 = ((i - 1 : Nat) : Int) := by omega
    have hi2 : i - 1 < n := by omega
    have hcmp : i > 1 → (ptot p l i).2 = 0 → s < (ptot p l i).1 := by
      intro hi he2
      have hn := ptot_next (p := p) (l := l) (i := i - 1) (by omega) (by omega) he (canon_ne hcan)
      rw [show i - 1 + 1 = i by omega] at hn
      have hw := work_pos (t := tgt (l.getD (i - 1) default).bits) (Nat.pos_of_ne_zero (canon_ne hcan)) (tgt_lt _)
      rw [hn] at he2 ⊢
      split at he2
      · cases he2
      · rename_i g
        rw [if_neg g, ← hs]
        dsimp only
        omega
    have h14 : (ptot p l i).2 = 14 ∨ (ptot p l i).2 = 0 := by
      by_cases hi : i = 1
      · rw [hi, ptot_one (by omega)]; exact .inr rfl
      · have hn := ptot_next (p := p) (l := l) (i := i - 1) (by omega) (by omega) he (canon_ne hcan)
        rw [show i - 1 + 1 = i by omega] at hn
        rw [hn]
        split
        · exact .inl rfl
        · exact .inr rfl
    have hsl : s < W256 := by rw [hs]; exact ptot_lt hp
    have hvl : (ptot p l i).1 < W256 := ptot_lt hp
    have c6 := pc_wCmp hvl hsl
    have hw := W_pt hp hm n1 n2 m1 m2 (nl := nl) hn hn1 ho hg hall k (i + 1) (ptot p l i).1 (by omega) (by omega)
    rw [Nat.add_sub_cancel] at hw
    generalize ptot p l i = x at *
    generalize l.getD (i - 1) default = a at *
    generalize l.map Hd.pv = H at *
    obtain ⟨v, e⟩ := x
    dsimp only at *
    rcases h14 with h | h
    · subst h
      refine W.ret [(3, aT), (10, aV (I6 (now + later))), (11, aK (PV.tup [I6 (i:Int), I6 0])), (19, aF), (28, aK (PV.tup [B6 4 (uw v), I6 14])), (37, aK (PV.bool true))] [] [decide ((i:Int) ≤ (n:Int)) = true, (0 : Int) ≤ (0 : Int), 0 ≤ (i:Int), (i:Int) ≤ (n:Int), I6 (IntKind.wrap .i64 (now + later)) = I6 (now + later), PC Tryz.prog G0 13 [] [Prm.pv p, PV.vec nl (PV.parr 68 i hsh (List.take i H)), I6 (now + later)] [] (PV.tup [I6 (i:Int), I6 0]), ((i:Int) != (i:Int)) = false, (0 : Int) ≤ (0 : Int), 0 ≤ (i:Int), (i:Int) ≤ (n:Int), PC Tryz.prog G0 14 [] [Prm.pv p, PV.vec nl (PV.parr 68 i hsh (List.take i H))] [] (PV.tup [B6 4 (uw v), I6 14]), PC Tryz.prog G0 8 [] [] [] (PV.bool true), rr (PV.bool true)] (by kernel_rfl) (ac (decide_eq_true (by omega)) (ac (by omega) (ac (by omega) (ac (by omega) (ac (cg (w_i64 rfl (by omega) (by omega))) (ac (c1) (ac (bne_eq_false_iff_eq.2 (by omega)) (ac (by omega) (ac (by omega) (ac (by omega) (ac (c2) (ac (c4) (ao rfl)))))))))))))
    · subst h
      have hw := hw rfl rfl
      by_cases hi : i > 1
      · have hv := hcmp hi rfl
        rw [cmpN_gt hv] at c6
        generalize i - 1 = j at *
        refine W.seg [(3, aT), (10, aV (I6 (now + later))), (11, aK (PV.tup [I6 (i:Int), I6 0])), (19, aF), (28, aK (PV.tup [B6 4 (uw v), I6 0])), (41, aT), (45, aK (I6 1)), (52, aV (I6 (j:Int))), (55, aV (U3 (↑(Hd.bits a) : Int))), (56, aK (PV.bool true)), (62, aV (I6 (↑(i + 1) : Int)))] [(3, 3), (9, 9)] (dsPt p nl H n now later v (i + 1)) (todo' := loopAt Tryz.f5 0) [decide ((i:Int) ≤ (n:Int)) = true, (0 : Int) ≤ (0 : Int), 0 ≤ (i:Int), (i:Int) ≤ (n:Int), I6 (IntKind.wrap .i64 (now + later)) = I6 (now + later), PC Tryz.prog G0 13 [] [Prm.pv p, PV.vec nl (PV.parr 68 i hsh (List.take i H)), I6 (now + later)] [] (PV.tup [I6 (i:Int), I6 0]), ((i:Int) != (i:Int)) = false, (0 : Int) ≤ (0 : Int), 0 ≤ (i:Int), (i:Int) ≤ (n:Int), PC Tryz.prog G0 14 [] [Prm.pv p, PV.vec nl (PV.parr 68 i hsh (List.take i H))] [] (PV.tup [B6 4 (uw v), I6 0]), decide ((i:Int) > 1) = true, PC Tryz.prog G0 15 [] [B6 4 (uw v), B6 4 (uw s)] [] (I6 1), I6 (IntKind.wrap .i64 ((i:Int) - 1)) = I6 (j:Int), 0 ≤ (j:Int), (j:Int) < (n:Int), U3 (PV.num (List.headD (List.tail (List.tail (List.tail (List.tail (PV.fs (List.getD H j PV.undef)))))) PV.undef)) = U3 (↑(Hd.bits a) : Int), j < n, PC Tryz.prog G0 16 [] [U3 (↑(Hd.bits a) : Int)] [] (PV.bool true), I6 (IntKind.wrap .i64 ((i:Int) + 1)) = I6 (↑(i + 1) : Int), rr (PV.at 3 []), rr (PV.vec nl (PV.parr 68 n hsh H)), rr (I6 now), rr (I6 later), rr (PV.at 9 []), rr (I6 (↑(i + 1) : Int)), rr (Prm.pv p), rr (B6 4 (uw v))] (by kernel_rfl) (ac (decide_eq_true (by omega)) (ac (by omega) (ac (by omega) (ac (by omega) (ac (cg (w_i64 rfl (by omega) (by omega))) (ac (c1) (ac (bne_eq_false_iff_eq.2 (by omega)) (ac (by omega) (ac (by omega) (ac (by omega) (ac (c2) (ac (decide_eq_true (by omega)) (ac (c6) (ac (cg (w_i64 hi1 (by omega) (by omega))) (ac (by omega) (ac (by omega) (ac (cg (by (rw [g]; rfl))) (ac (by omega) (ac (c5) (ac (cg (w_i64 rfl (by omega) (by omega))) (ac rfl (ac rfl (ac rfl (ac rfl (ac rfl (ac rfl (ac rfl (ao rfl)))))))))))))))))))))))))))) ?_
        exact hw
      · generalize i - 1 = j at *
        refine W.seg [(3, aT), (10, aV (I6 (now + later))), (11, aK (PV.tup [I6 (i:Int), I6 0])), (19, aF), (28, aK (PV.tup [B6 4 (uw v), I6 0])), (41, aF), (52, aV (I6 (j:Int))), (55, aV (U3 (↑(Hd.bits a) : Int))), (56, aK (PV.bool true)), (62, aV (I6 (↑(i + 1) : Int)))] [(3, 3), (9, 9)] (dsPt p nl H n now later v (i + 1)) (todo' := loopAt Tryz.f5 0) [decide ((i:Int) ≤ (n:Int)) = true, (0 : Int) ≤ (0 : Int), 0 ≤ (i:Int), (i:Int) ≤ (n:Int), I6 (IntKind.wrap .i64 (now + later)) = I6 (now + later), PC Tryz.prog G0 13 [] [Prm.pv p, PV.vec nl (PV.parr 68 i hsh (List.take i H)), I6 (now + later)] [] (PV.tup [I6 (i:Int), I6 0]), ((i:Int) != (i:Int)) = false, (0 : Int) ≤ (0 : Int), 0 ≤ (i:Int), (i:Int) ≤ (n:Int), PC Tryz.prog G0 14 [] [Prm.pv p, PV.vec nl (PV.parr 68 i hsh (List.take i H))] [] (PV.tup [B6 4 (uw v), I6 0]), decide ((i:Int) > 1) = false, I6 (IntKind.wrap .i64 ((i:Int) - 1)) = I6 (j:Int), 0 ≤ (j:Int), (j:Int) < (n:Int), U3 (PV.num (List.headD (List.tail (List.tail (List.tail (List.tail (PV.fs (List.getD H j PV.undef)))))) PV.undef)) = U3 (↑(Hd.bits a) : Int), j < n, PC Tryz.prog G0 16 [] [U3 (↑(Hd.bits a) : Int)] [] (PV.bool true), I6 (IntKind.wrap .i64 ((i:Int) + 1)) = I6 (↑(i + 1) : Int), rr (PV.at 3 []), rr (PV.vec nl (PV.parr 68 n hsh H)), rr (I6 now), rr (I6 later), rr (PV.at 9 []), rr (I6 (↑(i + 1) : Int)), rr (Prm.pv p), rr (B6 4 (uw v))] (by kernel_rfl) (ac (decide_eq_true (by omega)) (ac (by omega) (ac (by omega) (ac (by omega) (ac (cg (w_i64 rfl (by omega) (by omega))) (ac (c1) (ac (bne_eq_false_iff_eq.2 (by omega)) (ac (by omega) (ac (by omega) (ac (by omega) (ac (c2) (ac (decide_eq_false (by omega)) (ac (cg (w_i64 hi1 (by omega) (by omega))) (ac (by omega) (ac (by omega) (ac (cg (by (rw [g]; rfl))) (ac (by omega) (ac (c5) (ac (cg (w_i64 rfl (by omega) (by omega))) (ac rfl (ac rfl (ac rfl (ac rfl (ac rfl (ac rfl (ac rfl (ao rfl))))))))))))))))))))))))))) ?_
        exact hw
/-- the law's parts -/
def ppv (p : Prm) (nl : Bool) (l : List Hd) (now later : Int) : PV := .st 80 [p.pv, lpv nl l, .int .i64 now, .int .i64 later]
set_option maxHeartbeats 4000000 in
theorem pc_ruleParts {p : Prm} {nl : Bool} {l : List Hd} (hp : p.Ok) (ho : ∀ h ∈ l, h.Ok) {now later : Int} : PC Tryz.prog G0 5 [] [ppv p nl l now later] [] (.bool true) := by
  refine PC.of (fn := Tryz.f5) (c := bodyOf Tryz.f5) Tryz.func5 (by kernel_rfl) (by kernel_rfl) (by kernel_rfl) (by kernel_rfl) ?_
  have c3 := pc_rref hp.sum
  have c4 := pc_awake19
  unfold ppv
  by_cases hb : l.length > 16
  · unfold lpv
    generalize l.length = n at *
    refine W.ret [(17, aT), (40, aK (PV.bool true))] [] [decide ((n:Int) > 16) = true, PC Tryz.prog G0 8 [] [] [] (PV.bool true), rr (PV.bool true)] (by kernel_rfl) (ac (decide_eq_true (by omega)) (ac (c4) (ao rfl)))
  · by_cases hm : p.May
    · have c5 := pc_mayY hp hm
      by_cases b1 : now < 0
      · unfold lpv
        generalize l.length = n at *
        refine W.ret [(17, aF), (20, Ans.call false [] [] (Prm.rpv p)), (21, aK (PV.bool true)), (26, aT), (40, aK (PV.bool true))] [] [decide ((n:Int) > 16) = false, PC Tryz.prog G0 7 [] [Prm.pv p] [] (Prm.rpv p), PC Tryz.prog G0 6 [] [Prm.rpv p] [] (PV.bool true), decide (now < (0 : Int)) = true, PC Tryz.prog G0 8 [] [] [] (PV.bool true), rr (PV.bool true)] (by kernel_rfl) (ac (decide_eq_false (by omega)) (ac (c3) (ac (c5) (ac (decide_eq_true (by omega)) (ac (c4) (ao rfl))))))
      · by_cases b2 : later < 0
        · unfold lpv
          generalize l.length = n at *
          refine W.ret [(17, aF), (20, Ans.call false [] [] (Prm.rpv p)), (21, aK (PV.bool true)), (26, aF), (30, aT), (40, aK (PV.bool true))] [] [decide ((n:Int) > 16) = false, PC Tryz.prog G0 7 [] [Prm.pv p] [] (Prm.rpv p), PC Tryz.prog G0 6 [] [Prm.rpv p] [] (PV.bool true), decide (now < (0 : Int)) = false, decide (later < (0 : Int)) = true, PC Tryz.prog G0 8 [] [] [] (PV.bool true), rr (PV.bool true)] (by kernel_rfl) (ac (decide_eq_false (by omega)) (ac (c3) (ac (c5) (ac (decide_eq_false (by omega)) (ac (decide_eq_true (by omega)) (ac (c4) (ao rfl)))))))
        · by_cases b3 : now > 1099511627776
          · unfold lpv
            generalize l.length = n at *
            refine W.ret [(17, aF), (20, Ans.call false [] [] (Prm.rpv p)), (21, aK (PV.bool true)), (26, aF), (30, aF), (34, aT), (40, aK (PV.bool true))] [] [decide ((n:Int) > 16) = false, PC Tryz.prog G0 7 [] [Prm.pv p] [] (Prm.rpv p), PC Tryz.prog G0 6 [] [Prm.rpv p] [] (PV.bool true), decide (now < (0 : Int)) = false, decide (later < (0 : Int)) = false, decide (now > (1099511627776 : Int)) = true, PC Tryz.prog G0 8 [] [] [] (PV.bool true), rr (PV.bool true)] (by kernel_rfl) (ac (decide_eq_false (by omega)) (ac (c3) (ac (c5) (ac (decide_eq_false (by omega)) (ac (decide_eq_false (by omega)) (ac (decide_eq_true (by omega)) (ac (c4) (ao rfl))))))))
          · by_cases b4 : later > 1099511627776
            · unfold lpv
              generalize l.length = n at *
              refine W.ret [(17, aF), (20, Ans.call false [] [] (Prm.rpv p)), (21, aK (PV.bool true)), (26, aF), (30, aF), (34, aF), (38, aT), (40, aK (PV.bool true))] [] [decide ((n:Int) > 16) = false, PC Tryz.prog G0 7 [] [Prm.pv p] [] (Prm.rpv p), PC Tryz.prog G0 6 [] [Prm.rpv p] [] (PV.bool true), decide (now < (0 : Int)) = false, decide (later < (0 : Int)) = false, decide (now > (1099511627776 : Int)) = false, decide (later > (1099511627776 : Int)) = true, PC Tryz.prog G0 8 [] [] [] (PV.bool true), rr (PV.bool true)] (by kernel_rfl) (ac (decide_eq_false (by omega)) (ac (c3) (ac (c5) (ac (decide_eq_false (by omega)) (ac (decide_eq_false (by omega)) (ac (decide_eq_false (by omega)) (ac (decide_eq_true (by omega)) (ac (c4) (ao rfl)))))))))
            · by_cases h0 : l.length = 0
              · have hl : l = [] := List.eq_nil_of_length_eq_zero h0
                subst hl
                have c1 := pc_line0 (p := p) (nl := nl) (now := now)
                refine W.ret [(16, aV (I6 0)), (20, Ans.call false [] [] (Prm.rpv p)), (21, aK (PV.bool true)), (26, aF), (30, aF), (34, aF), (38, aF), (43, aK (PV.tup [I6 0, I6 6])), (51, aK (PV.bool true))] [] [I6 (↑(0 : Nat) : Int) = I6 0, PC Tryz.prog G0 7 [] [Prm.pv p] [] (Prm.rpv p), PC Tryz.prog G0 6 [] [Prm.rpv p] [] (PV.bool true), decide (now < (0 : Int)) = false, decide (later < (0 : Int)) = false, decide (now > (1099511627776 : Int)) = false, decide (later > (1099511627776 : Int)) = false, PC Tryz.prog G0 13 [] [Prm.pv p, PV.vec nl (PV.parr 68 0 hsh []), I6 now] [] (PV.tup [I6 0, I6 6]), PC Tryz.prog G0 8 [] [] [] (PV.bool true), rr (PV.bool true)] (by kernel_rfl) (ac (cg (by omega)) (ac (c3) (ac (c5) (ac (decide_eq_false (by omega)) (ac (decide_eq_false (by omega)) (ac (decide_eq_false (by omega)) (ac (decide_eq_false (by omega)) (ac (c1) (ac (c4) (ao rfl))))))))))
              · have c1 := pc_line hp hm (nl := nl) (l := l) (now := now) (by omega) (by omega) ho
                by_cases h2 : (lineM p l now).2 = 0
                · have hg : l.getD 0 default = p.gen := by
                    unfold lineM at h2
                    split at h2
                    · rename_i g; exact g
                    · cases h2
                  have hall : ∀ j, 1 ≤ j → j < l.length → jud p (l.take j) (l.getD j default) now = 0 := by
                    unfold lineM at h2
                    rw [if_pos hg] at h2
                    intro j h1 hj
                    exact scan_all h2 j h1 (by omega)
                  have hw := W_pt hp hm (now := now) (later := later) (by omega) (by omega) (by omega) (by omega) (nl := nl) (l := l) rfl (by omega) ho hg hall l.length 1 p.sum (by omega) (by omega) (by rw [ptot_one (by omega)]) (by rw [ptot_one (by omega)])
                  rw [h2] at c1
                  unfold lpv at *
                  generalize (lineM p l now).1 = x at *
                  clear hall
                  generalize l.length = n at *
                  generalize l.map Hd.pv = H at *
                  refine W.seg [(17, aF), (20, Ans.call false [] [] (Prm.rpv p)), (21, aK (PV.bool true)), (26, aF), (30, aF), (34, aF), (38, aF), (43, aK (PV.tup [I6 (x:Int), I6 0]))] [(224, 3), (912, 9)] (dsPt p nl H n now later (Prm.sum p) 1) (todo' := loopAt Tryz.f5 0) [decide ((n:Int) > 16) = false, PC Tryz.prog G0 7 [] [Prm.pv p] [] (Prm.rpv p), PC Tryz.prog G0 6 [] [Prm.rpv p] [] (PV.bool true), decide (now < (0 : Int)) = false, decide (later < (0 : Int)) = false, decide (now > (1099511627776 : Int)) = false, decide (later > (1099511627776 : Int)) = false, PC Tryz.prog G0 13 [] [Prm.pv p, PV.vec nl (PV.parr 68 n hsh H), I6 now] [] (PV.tup [I6 (x:Int), I6 0]), rr (PV.at 3 []), rr (PV.vec nl (PV.parr 68 n hsh H)), rr (I6 now), rr (I6 later), rr (PV.at 9 []), I6 1 = I6 (↑(1 : Nat) : Int), rr (Prm.pv p), rr (B6 4 (uw (Prm.sum p)))] (by kernel_rfl) (ac (decide_eq_false (by omega)) (ac (c3) (ac (c5) (ac (decide_eq_false (by omega)) (ac (decide_eq_false (by omega)) (ac (decide_eq_false (by omega)) (ac (decide_eq_false (by omega)) (ac (c1) (ac rfl (ac rfl (ac rfl (ac rfl (ac rfl (ac (cg (by omega)) (ac rfl (ao rfl)))))))))))))))) ?_
                  exact hw
                · unfold lpv at *
                  generalize lineM p l now = x at *
                  generalize l.length = n at *
                  generalize l.map Hd.pv = H at *
                  refine W.ret [(17, aF), (20, Ans.call false [] [] (Prm.rpv p)), (21, aK (PV.bool true)), (26, aF), (30, aF), (34, aF), (38, aF), (43, aK (PV.tup [I6 (↑(Prod.fst x) : Int), I6 (Prod.snd x)])), (50, aT), (51, aK (PV.bool true))] [] [decide ((n:Int) > 16) = false, PC Tryz.prog G0 7 [] [Prm.pv p] [] (Prm.rpv p), PC Tryz.prog G0 6 [] [Prm.rpv p] [] (PV.bool true), decide (now < (0 : Int)) = false, decide (later < (0 : Int)) = false, decide (now > (1099511627776 : Int)) = false, decide (later > (1099511627776 : Int)) = false, PC Tryz.prog G0 13 [] [Prm.pv p, PV.vec nl (PV.parr 68 n hsh H), I6 now] [] (PV.tup [I6 (↑(Prod.fst x) : Int), I6 (Prod.snd x)]), (Prod.snd x != (0 : Int)) = true, PC Tryz.prog G0 8 [] [] [] (PV.bool true), rr (PV.bool true)] (by kernel_rfl) (ac (decide_eq_false (by omega)) (ac (c3) (ac (c5) (ac (decide_eq_false (by omega)) (ac (decide_eq_false (by omega)) (ac (decide_eq_false (by omega)) (ac (decide_eq_false (by omega)) (ac (c1) (ac (bne_iff_ne.2 (by omega)) (ac (c4) (ao rfl)))))))))))
    · have c5 := pc_mayN hp hm
      unfold lpv
      generalize l.length = n at *
      refine W.ret [(17, aF), (20, Ans.call false [] [] (Prm.rpv p)), (21, aK (PV.bool false)), (40, aK (PV.bool true))] [] [decide ((n:Int) > 16) = false, PC Tryz.prog G0 7 [] [Prm.pv p] [] (Prm.rpv p), PC Tryz.prog G0 6 [] [Prm.rpv p] [] (PV.bool false), PC Tryz.prog G0 8 [] [] [] (PV.bool true), rr (PV.bool true)] (by kernel_rfl) (ac (decide_eq_false (by omega)) (ac (c3) (ac (c5) (ac (c4) (ao rfl)))))
end Go.Proofs
namespace Go.Pe
def laysB (P : Program) (tot : Nat) : Nat → List Field → Bool
  | o, [] => Nat.beq o tot
  | o, f :: l => Nat.beq f.offset o && laysB P tot (o + P.cellsOf f.type) l
def okT (P : Program) : Nat → TypeId → Bool
  | 0, _ => false
  | d + 1, t => match P.underlying t with
    | some .bool | some (.int _) | some .string => Nat.beq (P.cellsOf t) 1
    | some (.struct fs) => laysB P (P.cellsOf t) 0 fs.toList && fs.toList.all fun f => okT P d f.type
    | some (.array n e) => Nat.beq (P.cellsOf t) (n * P.cellsOf e) && szOk P e && okT P d e
    | some (.slice e) => Nat.beq (P.cellsOf t) 1 && szOk P e && okT P d e
    | _ => false
theorem same_refl (k : IntKind) : IntKind.same k k = true := by cases k <;> rfl
theorem beq_refl (s : Sh) : Sh.beq s s = true :=
  Sh.rec (motive_1 := fun s => Sh.beq s s = true) (motive_2 := fun l => Sh.beqL l l = true) rfl same_refl rfl rfl (fun _ _ ih => by simp only [Sh.beq, Bool.and_eq_true]; exact ⟨Nat.beq_refl _, ih⟩)
    (fun k _ => by simp only [Sh.beq, Bool.and_eq_true]; exact ⟨same_refl k, Nat.beq_refl _⟩) (fun _ _ _ ih => by simp only [Sh.beq, Bool.and_eq_true]; exact ⟨⟨Nat.beq_refl _, Nat.beq_refl _⟩, ih⟩)
    (fun _ _ ih => by simp only [Sh.beq, Bool.and_eq_true]; exact ⟨Nat.beq_refl _, ih⟩) rfl (fun _ _ h1 h2 => by simp only [Sh.beqL, Bool.and_eq_true]; exact ⟨h1, h2⟩) s
structure Opens (P : Program) (w : World) (T : T2) (d : Nat) (t : TypeId) (cs : List Value) (p : PV) : Prop where
  conf : conf (shOf P d t) p = true
  wf : WF p
  noref : noref p = true
  untup : untup p = true
  size : size p = P.cellsOf t
  len : cs.length = P.cellsOf t
  agg : Pe.isAgg p = isAggT P t
  rel : ∀ (j : Nat) (q : PV) (u : Value), (flat p)[j]? = some q → cs[j]? = some u → RC w T u q
theorem mapM_get {α β : Type} {g : α → Option β} : ∀ {l : List α} {xs : List β}, l.mapM g = some xs → ∀ i ∈ l, ∃ y, g i = some y
  | [], _, _, i, hi => by cases hi
  | a :: l, xs, h, i, hi => by
    rw [List.mapM_cons] at h
    simp only [Option.bind_eq_bind, Option.bind_eq_some_iff] at h
    obtain ⟨y, hy, ys, hys, _⟩ := h
    rcases List.mem_cons.1 hi with rfl | hi
    · exact ⟨y, hy⟩
    · exact mapM_get hys i hi
theorem flatL_nth {s : Nat} (hs : 0 < s) : ∀ {l : List PV}, WFL l → (∀ q ∈ l, Pe.size q = s) → ∀ {j : Nat} {q : PV}, (flatL l)[j]? = some q → ∃ p, l[j / s]? = some p ∧ (flat p)[j % s]? = some q
  | [], _, _, j, q, h => by simp [flatL] at h
  | p :: l, hw, hz, j, q, h => by
    simp only [WFL] at hw
    have hl : (flat p).length = s := by rw [flat_length p hw.1, hz p (by simp)]
    simp only [flatL] at h
    by_cases hj : j < s
    · rw [List.getElem?_append_left (by omega)] at h
      refine ⟨p, by rw [Nat.div_eq_of_lt hj]; rfl, by rw [Nat.mod_eq_of_lt hj]; exact h⟩
    · rw [List.getElem?_append_right (by omega), hl] at h
      obtain ⟨p', h1, h2⟩ := flatL_nth hs hw.2 (fun q hq => hz q (by simp [hq])) h
      have e : j = (j - s) + s := by omega
      refine ⟨p', ?_, ?_⟩
      · rw [e, Nat.add_div_right _ hs]
        simpa using h1
      · rw [e, Nat.add_mod_right]; exact h2
/-- The row of n elements. -/
def arrOf (P : Program) (d : Nat) (e : TypeId) (l : List PV) : PV := match P.underlying e with
  | some (.int k) => .iarr k l.length (l.map PV.num)
  | _ => .parr (P.cellsOf e) l.length (shOf P d e) l
section
variable {P : Program} {w : World} {T : T2}
theorem shOf_int {d : Nat} {e : TypeId} {k : IntKind} (h : P.underlying e = some (.int k)) : shOf P (d + 1) e = .int k := by simp only [shOf, h]
theorem shOf_slice {d : Nat} {t e : TypeId} (h : P.underlying t = some (.slice e)) : shOf P (d + 1) t = .vec (P.cellsOf e) (shOf P d e) := by simp only [shOf, h]
theorem arrOf_spec {d : Nat} {e : TypeId} {l : List PV} (hok : okT P d e = true) (hl : ∀ q ∈ l, Pe.conf (shOf P d e) q = true ∧ WF q ∧ Pe.noref q = true ∧ Pe.untup q = true ∧ Pe.size q = P.cellsOf e) :
    WF (arrOf P d e l) ∧ isArr (arrOf P d e l) = true ∧ arrLen (arrOf P d e l) = l.length ∧ elSize (arrOf P d e l) = P.cellsOf e ∧ Pe.untup (arrOf P d e l) = true ∧ flat (arrOf P d e l) = flatL l ∧ Pe.size (arrOf P d e l) = l.length * P.cellsOf e := by
  have hut : untupL l = true := by
    clear hok
    induction l with
    | nil => rfl
    | cons p l ih =>
      simp only [untupL, Bool.and_eq_true]
      exact ⟨(hl p (by simp)).2.2.2.1, ih fun q hq => hl q (by simp [hq])⟩
  unfold arrOf
  split
  · rename_i k hu
    obtain ⟨d', rfl⟩ : ∃ d', d = d' + 1 := by cases d with
      | zero => simp [okT] at hok
      | succ d => exact ⟨d, rfl⟩
    have h1 : P.cellsOf e = 1 := by
      simp only [okT, hu] at hok
      exact Nat.eq_of_beq_eq_true hok
    have hq : ∀ q ∈ l, ∃ x, q = .int k x ∧ k.wrap x = x := by
      intro q hq
      have := hl q hq
      rw [shOf_int hu] at this
      cases q <;> simp only [Pe.conf, reduceCtorEq, false_and] at this
      rename_i k' x
      have hk := IntKind.same_eq this.1
      subst hk
      exact ⟨x, rfl, by simpa only [WF] using this.2.1⟩
    have hf : (l.map PV.num).map (PV.int k) = l := by
      rw [List.map_map]
      conv => rhs; rw [← List.map_id l]
      refine List.map_congr_left fun q hql => ?_
      obtain ⟨x, rfl, _⟩ := hq q hql
      rfl
    have hfl : flatL l = l := by
      clear hok hf
      induction l with
      | nil => rfl
      | cons p l ih =>
        obtain ⟨x, rfl, _⟩ := hq p (by simp)
        simp only [flatL, flat]
        rw [ih (by simp only [untupL, Bool.and_eq_true] at hut; exact hut.2) (fun q hq' => hl q (by simp [hq'])) (fun q hq' => hq q (by simp [hq']))]
        rfl
    refine ⟨?_, rfl, rfl, by simp only [elSize]; omega, rfl, by simp only [flat]; rw [hf, hfl], by simp only [Pe.size]; rw [h1, Nat.mul_one]⟩
    simp only [WF, List.length_map, List.mem_map, true_and]
    rintro x ⟨q, hql, rfl⟩
    obtain ⟨x, rfl, hx⟩ := hq q hql
    exact hx
  · refine ⟨?_, rfl, rfl, rfl, by simpa only [Pe.untup] using hut, rfl, rfl⟩
    simp only [WF]
    exact ⟨trivial, WFL_of fun q hq => (hl q hq).2.1, fun q hq => ⟨(hl q hq).2.2.2.2, (hl q hq).1, (hl q hq).2.2.1⟩⟩
theorem opens_array {d n : Nat} {t e : TypeId} {cs : List Value} (hu : P.underlying t = some (.array n e)) (hc : P.cellsOf t = n * P.cellsOf e) (hok : okT P d e = true) (hs : 0 < P.cellsOf e) (hl : cs.length = P.cellsOf t)
    (h : ∀ i, i < n → ∃ p, Opens P w T d e ((cs.drop (i * P.cellsOf e)).take (P.cellsOf e)) p) : ∃ p, Opens P w T (d + 1) t cs p := by
  have hex : ∀ i, ∃ p, i < n → Opens P w T d e ((cs.drop (i * P.cellsOf e)).take (P.cellsOf e)) p := fun i => by
    by_cases hi : i < n
    · obtain ⟨p, hp⟩ := h i hi; exact ⟨p, fun _ => hp⟩
    · exact ⟨.undef, fun h => absurd h hi⟩
  obtain ⟨f, hf⟩ := Classical.axiomOfChoice hex
  have hmem : ∀ q ∈ (List.range n).map f, Pe.conf (shOf P d e) q = true ∧ WF q ∧ Pe.noref q = true ∧ Pe.untup q = true ∧ Pe.size q = P.cellsOf e := by
    intro q hq
    obtain ⟨i, hi, rfl⟩ := List.mem_map.1 hq
    have := hf i (by simpa using hi)
    exact ⟨this.conf, this.wf, this.noref, this.untup, this.size⟩
  obtain ⟨a1, a2, a3, a4, a5, a6, a7⟩ := arrOf_spec hok hmem
  have hlen : ((List.range n).map f).length = n := by simp
  refine ⟨arrOf P d e ((List.range n).map f), ?_, a1, arr_noref a2, a5, by rw [a7, hlen, hc], hl, ?_, fun j q u hq hu' => ?_⟩
  · unfold arrOf
    simp only [shOf, hu]
    cases hk : P.underlying e with
    | none =>
      simp only [Pe.conf, Bool.and_eq_true, hlen]
      exact ⟨⟨Nat.beq_refl _, Nat.beq_refl _⟩, beq_refl _⟩
    | some dsc => cases dsc with
    | int k =>
      simp only [Pe.conf, Bool.and_eq_true, hlen]
      exact ⟨same_refl k, Nat.beq_refl _⟩
    | _ =>
      simp only [Pe.conf, Bool.and_eq_true, hlen]
      exact ⟨⟨Nat.beq_refl _, Nat.beq_refl _⟩, beq_refl _⟩
  · have : Pe.isAgg (arrOf P d e ((List.range n).map f)) = true := by unfold arrOf; split <;> rfl
    rw [this]
    simp only [isAggT, hu]
  · rw [a6] at hq
    have hwl : WFL ((List.range n).map f) := WFL_of fun q hq => (hmem q hq).2.1
    obtain ⟨p, h1, h2⟩ := flatL_nth hs hwl (fun q hq => (hmem q hq).2.2.2.2) hq
    have hjn : j / P.cellsOf e < n := by have := (List.getElem?_eq_some_iff.1 h1).1; simpa using this
    have hp : p = f (j / P.cellsOf e) := by simp [hjn] at h1; exact h1.symm
    subst hp
    refine (hf _ hjn).rel (j % P.cellsOf e) q u h2 ?_
    rw [List.getElem?_take, if_pos (Nat.mod_lt _ hs), List.getElem?_drop, ← hu']
    congr 1
    rw [Nat.mul_comm]
    exact Nat.div_add_mod j (P.cellsOf e)
theorem opens_fields {d tot : Nat} {cs : List Value} (hl : cs.length = tot) : ∀ {fs : List Field} {o : Nat}, laysB P tot o fs = true → (∀ f ∈ fs, okT P d f.type = true ∧ ∃ p, Opens P w T d f.type ((cs.drop f.offset).take (P.cellsOf f.type)) p) →
    ∃ ps, confL (fs.map fun f => shOf P d f.type) ps = true ∧ WFL ps ∧ norefL ps = true ∧ untupL ps = true ∧ o + sizeL ps = tot ∧ ∀ (j : Nat) (q : PV) (u : Value), (flatL ps)[j]? = some q → cs[o + j]? = some u → RC w T u q
  | [], o, h, _ => by
    simp only [laysB] at h
    exact ⟨[], rfl, by simp [WFL], rfl, rfl, by simp only [sizeL]; exact Nat.eq_of_beq_eq_true h, fun j q u hq => by simp [flatL] at hq⟩
  | f :: fs, o, h, hf => by
    simp only [laysB, Bool.and_eq_true] at h
    obtain ⟨h1, h2⟩ := h
    have ho := Nat.eq_of_beq_eq_true h1
    obtain ⟨_, p, hp⟩ := hf f (by simp)
    obtain ⟨ps, g1, g2, g3, g4, g5, g6⟩ := opens_fields hl h2 fun x hx => hf x (by simp [hx])
    refine ⟨p :: ps, by simp only [List.map_cons, confL, Bool.and_eq_true]; exact ⟨hp.conf, g1⟩, by simp only [WFL]; exact ⟨hp.wf, g2⟩, by simp only [norefL, Bool.and_eq_true]; exact ⟨hp.noref, g3⟩, by simp only [untupL, Bool.and_eq_true]; exact ⟨hp.untup, g4⟩, by simp only [sizeL, hp.size]; omega, fun j q u hq hu => ?_⟩
    simp only [flatL] at hq
    have hlp : (flat p).length = P.cellsOf f.type := by rw [flat_length p hp.wf, hp.size]
    by_cases hj : j < P.cellsOf f.type
    · rw [List.getElem?_append_left (by omega)] at hq
      refine hp.rel j q u hq ?_
      rw [List.getElem?_take, if_pos hj, List.getElem?_drop, ho]
      exact hu
    · rw [List.getElem?_append_right (by omega), hlp] at hq
      refine g6 _ q u hq ?_
      rw [← hu]
      congr 1
      omega
end
section
variable {H : Type} {enc : TypeId × Value → H} {P : Program} {w : World} {base : Nat} {spare : Nat → Bool} {held : Bool}
theorem cells?_spec {a : Addr} {n : Nat} {cs : List Value} (h : w.cells? base a n = some cs) : cs.length = n ∧ ∀ j u, cs[j]? = some u → w.cell? (a.add j) = some u := by
  unfold World.cells? at h
  split at h
  · have : ∀ {l : List Nat} {xs : List Value}, l.mapM (fun i => w.cell? (a.add i)) = some xs → xs.length = l.length ∧ ∀ (j : Nat) (i : Nat) (u : Value), l[j]? = some i → xs[j]? = some u → w.cell? (a.add i) = some u := by
      intro l
      induction l with
      | nil => intro xs h; simp at h; subst h; exact ⟨rfl, fun j i u hi => by simp at hi⟩
      | cons b l ih =>
        intro xs h
        rw [List.mapM_cons] at h
        simp only [Option.bind_eq_bind, Option.bind_eq_some_iff, Option.pure_def, Option.some.injEq] at h
        obtain ⟨y, hy, ys, hys, rfl⟩ := h
        obtain ⟨e1, e2⟩ := ih hys
        refine ⟨by simp [e1], fun j i u hi hu => ?_⟩
        cases j with
        | zero => simp at hi hu; subst hi; subst hu; exact hy
        | succ j => simp at hi hu; exact e2 j i u hi hu
    obtain ⟨e1, e2⟩ := this h
    refine ⟨by simpa using e1, fun j u hu => ?_⟩
    have hj : j < n := by have := (List.getElem?_eq_some_iff.1 hu).1; simp at e1; omega
    exact e2 j j u (by simp [hj]) hu
  · cases h
theorem trod_opens : ∀ (d : Nat) (t : TypeId) (fuel : Nat) (cs : List Value) (x : DataW H × List MemPlace), okT P d t = true → DataW.trod enc P w base spare held fuel t cs = some x → ∃ p, Opens P w (fun b _ => b < w.heap.size) d t cs p
  | 0, _, _, _, _, h, _ => by simp [okT] at h
  | d + 1, t, 0, cs, x, _, h => by simp [DataW.trod] at h
  | d + 1, t, fuel + 1, cs, x, hok, h => by
    have hsz : ∀ e, szOk P e = true → 0 < P.cellsOf e := fun e he => Nat.pos_of_ne_zero (szOk_ne he)
    simp only [okT] at hok
    split at hok
    · rename_i hu
      have hc := Nat.eq_of_beq_eq_true hok
      obtain ⟨b, rfl, _⟩ := DataW.trod_bool hu h
      refine ⟨.bool b, by simp only [shOf, hu]; rfl, trivial, rfl, rfl, hc.symm, by rw [hc]; rfl, by simp only [isAggT, hu]; rfl, fun j q u hq hu' => ?_⟩
      cases j with
      | zero => simp [flat] at hq hu'; subst hq; subst hu'; exact .bool b
      | succ j => simp [flat] at hq
    · rename_i k hu
      have hc := Nat.eq_of_beq_eq_true hok
      obtain ⟨n, rfl, _, hwf⟩ := DataW.trod_int hu h
      have hw : k.wrap n = n := by
        rw [wrap_bounds]
        simpa [Lit.wf, IntKind.has] using hwf
      refine ⟨.int k n, by simp only [shOf, hu, conf]; cases k <;> rfl, by simp only [WF]; exact hw, rfl, rfl, hc.symm, by rw [hc]; rfl, by simp only [isAggT, hu]; rfl, fun j q u hq hu' => ?_⟩
      cases j with
      | zero => simp [flat] at hq hu'; subst hq; subst hu'; exact .int k n
      | succ j => simp [flat] at hq
    · rename_i hu
      have hc := Nat.eq_of_beq_eq_true hok
      obtain ⟨s, rfl, _, hs⟩ := DataW.trod_string hu h
      refine ⟨.str s, by simp only [shOf, hu]; rfl, trivial, rfl, rfl, hc.symm, by rw [hc]; rfl, by simp only [isAggT, hu]; rfl, fun j q u hq hu' => ?_⟩
      cases j with
      | zero => simp [flat] at hq hu'; subst hq; subst hu'; exact .str s hs
      | succ j => simp [flat] at hq
    · rename_i fs hu
      simp only [Bool.and_eq_true, List.all_eq_true] at hok
      simp only [DataW.trod, hu] at h
      split at h
      · rename_i hl
        simp only [Option.map_eq_some_iff] at h
        obtain ⟨xs, hxs, _⟩ := h
        obtain ⟨ps, g1, g2, g3, g4, g5, g6⟩ := opens_fields (P := P) (w := w) (T := fun b _ => b < w.heap.size) (d := d) hl hok.1 (fun f hf => ⟨hok.2 f hf, by
          obtain ⟨y, hy⟩ := mapM_get hxs f hf
          exact trod_opens d f.type fuel _ y (hok.2 f hf) hy⟩)
        refine ⟨.st (P.cellsOf t) ps, by simp only [shOf, hu, conf, Bool.and_eq_true]; exact ⟨Nat.beq_refl _, g1⟩, by simp only [WF]; exact ⟨by omega, g2⟩, by simp only [noref]; exact g3, by simp only [untup]; exact g4, rfl, hl, by simp only [isAggT, hu]; rfl, fun j q u hq hu' => ?_⟩
        simp only [flat] at hq
        exact g6 j q u hq (by rw [Nat.zero_add]; exact hu')
      · cases h
    · rename_i n e hu
      simp only [Bool.and_eq_true] at hok
      have hc := Nat.eq_of_beq_eq_true hok.1.1
      simp only [DataW.trod, hu] at h
      split at h
      · rename_i hl
        simp only [Option.map_eq_some_iff] at h
        obtain ⟨xs, hxs, _⟩ := h
        exact opens_array hu hc hok.2 (hsz e hok.1.2) hl fun i hi => by
          obtain ⟨y, hy⟩ := mapM_get hxs i (by simpa using hi)
          exact trod_opens d e fuel _ y hok.2 hy
      · cases h
    · rename_i e hu
      simp only [Bool.and_eq_true] at hok
      have hc := Nat.eq_of_beq_eq_true hok.1.1
      have hpos := hsz e hok.1.2
      have hone : ∀ (v : Value) (c : PV) (nl : Bool), cs = [v] → WF (.vec nl c) → Pe.conf (shOf P (d + 1) t) (.vec nl c) = true → RC w (fun b _ => b < w.heap.size) v (.vec nl c) → ∃ p, Opens P w (fun b _ => b < w.heap.size) (d + 1) t cs p := by
        rintro v c nl rfl h1 h2 h3
        refine ⟨.vec nl c, h2, h1, rfl, rfl, hc.symm, by rw [hc]; rfl, by simp only [isAggT, hu]; rfl, fun j q u hq hu' => ?_⟩
        cases j with
        | zero => simp [flat] at hq hu'; subst hq; subst hu'; exact h3
        | succ j => simp [flat] at hq
      have hshape : ∀ l : List PV, ∀ nl, Pe.conf (shOf P (d + 1) t) (.vec nl (arrOf P d e l)) = true := by
        intro l nl
        obtain ⟨d', rfl⟩ : ∃ d', d = d' + 1 := by cases d with
          | zero => simp [okT] at hok
          | succ d => exact ⟨d, rfl⟩
        have hsh : shOf P (d' + 1 + 1) t = .vec (P.cellsOf e) (shOf P (d' + 1) e) := shOf_slice hu
        rw [hsh]
        by_cases hk : ∃ k, P.underlying e = some (.int k)
        · obtain ⟨k, hk⟩ := hk
          have : arrOf P (d' + 1) e l = .iarr k l.length (l.map PV.num) := by simp only [arrOf, hk]
          rw [this, shOf_int hk]
          simp only [Pe.conf]
          exact same_refl k
        · have : arrOf P (d' + 1) e l = .parr (P.cellsOf e) l.length (shOf P (d' + 1) e) l := by
            unfold arrOf
            split
            · rename_i k hk'; exact absurd ⟨k, hk'⟩ hk
            · rfl
          rw [this]
          have hni : Sh.isInt (shOf P (d' + 1) e) = false := by
            cases he : P.underlying e with
            | none => simp only [shOf, he, Sh.isInt]
            | some dsc => cases dsc with
              | int k => exact absurd ⟨k, he⟩ hk
              | array n e' =>
                simp only [shOf, he]
                split <;> rfl
              | _ => simp only [shOf, he, Sh.isInt]
          cases hs2 : shOf P (d' + 1) e with
          | int k => rw [hs2] at hni; simp [Sh.isInt] at hni
          | _ => simp only [Pe.conf, Bool.and_eq_true, Sh.isInt, Bool.not_false, true_and]; exact ⟨Nat.beq_refl _, beq_refl _⟩
      rcases DataW.trod_slice hu h with ⟨hx, _⟩ | ⟨a, len, cap, elems, rest, n, hf, hx, _, _, h1, h2, h3, h4, _⟩
      · obtain ⟨a1, a2, a3, _⟩ := arrOf_spec (P := P) (d := d) (e := e) (l := []) hok.2 (fun q hq => by cases hq)
        exact hone _ (arrOf P d e []) true hx (by simp only [WF]; exact ⟨a1, a2, fun _ => a3⟩) (hshape [] true) (.vec0 _ _ _ _ a3 rfl (fun _ => rfl))
      · have hfu : n = fuel := by omega
        subst hfu
        have hex : ∀ i, ∃ p, i < len → ∃ cs', w.cells? base (a.add (i * P.cellsOf e)) (P.cellsOf e) = some cs' ∧ Opens P w (fun b _ => b < w.heap.size) d e cs' p := fun i => by
          by_cases hi : i < len
          · have := h4 i hi
            rw [List.getElem?_eq_getElem (by omega), Option.bind_eq_some_iff] at this
            obtain ⟨cs', c1, c2⟩ := this
            obtain ⟨p, hp⟩ := trod_opens d e n cs' _ hok.2 c2
            exact ⟨p, fun _ => ⟨cs', c1, hp⟩⟩
          · exact ⟨.undef, fun h => absurd h hi⟩
        obtain ⟨f, hf⟩ := Classical.axiomOfChoice hex
        have hmem : ∀ q ∈ (List.range len).map f, Pe.conf (shOf P d e) q = true ∧ WF q ∧ Pe.noref q = true ∧ Pe.untup q = true ∧ Pe.size q = P.cellsOf e := by
          intro q hq
          obtain ⟨i, hi, rfl⟩ := List.mem_map.1 hq
          obtain ⟨cs', _, hp⟩ := hf i (by simpa using hi)
          exact ⟨hp.conf, hp.wf, hp.noref, hp.untup, hp.size⟩
        obtain ⟨a1, a2, a3, a4, a5, a6, a7⟩ := arrOf_spec hok.2 hmem
        have hlen : ((List.range len).map f).length = len := by simp
        rw [hlen] at a3
        rcases Nat.eq_zero_or_pos len with h0 | h0
        · subst h0
          exact hone _ (arrOf P d e ((List.range 0).map f)) false hx (by simp only [WF]; exact ⟨a1, a2, fun e => by cases e⟩) (hshape _ false) (.vec0 _ _ _ _ a3 rfl (fun e => by cases e))
        · have hsp : a.spot = none := by
            obtain ⟨cs', c1, hp⟩ := hf 0 h0
            obtain ⟨e1, e2⟩ := cells?_spec c1
            have := e2 0 cs'[0] (List.getElem?_eq_getElem (by omega))
            unfold World.cell? at this
            split at this
            · split at this
              · cases this
              · rename_i hs
                simpa [Addr.add] using hs
            · cases this
          obtain ⟨bk, o, sp⟩ := a
          simp only at hsp
          subst hsp
          have hcell : ∀ j, ∃ u, ∀ q, (flat (arrOf P d e ((List.range len).map f)))[j]? = some q → w.cell? ⟨bk, o + j, none⟩ = some u ∧ RC w (fun b _ => b < w.heap.size) u q := by
            intro j
            cases hj : (flat (arrOf P d e ((List.range len).map f)))[j]? with
            | none => exact ⟨Go.undef, fun q hq => by cases hq⟩
            | some q =>
              rw [a6] at hj
              obtain ⟨p, p1, p2⟩ := flatL_nth hpos (WFL_of fun q hq => (hmem q hq).2.1) (fun q hq => (hmem q hq).2.2.2.2) hj
              have hjn : j / P.cellsOf e < len := by have := (List.getElem?_eq_some_iff.1 p1).1; simpa using this
              have hp : p = f (j / P.cellsOf e) := by simp [hjn] at p1; exact p1.symm
              subst hp
              obtain ⟨cs', c1, hp⟩ := hf _ hjn
              obtain ⟨e1, e2⟩ := cells?_spec c1
              have hm : j % P.cellsOf e < cs'.length := by rw [e1]; exact Nat.mod_lt _ hpos
              refine ⟨cs'[j % P.cellsOf e], fun q' hq' => ?_⟩
              cases hq'
              refine ⟨?_, hp.rel _ q _ p2 (List.getElem?_eq_getElem hm)⟩
              have := e2 _ _ (List.getElem?_eq_getElem hm)
              rw [add_none, add_none] at this
              rw [← this]
              congr 2
              rw [Nat.add_assoc, Nat.mul_comm, Nat.div_add_mod]
          obtain ⟨us, hus⟩ := Classical.axiomOfChoice hcell
          exact hone _ (arrOf P d e ((List.range len).map f)) false hx (by simp only [WF]; exact ⟨a1, a2, fun e => by cases e⟩) (hshape _ false)
            (.vec1 _ _ _ _ _ us a3 h1 h2 (fun j q hq => ⟨lt_of_cell? (hus j q hq).1, (hus j q hq).1⟩) (fun j q hq => (hus j q hq).2))
    · cases hok
end
end Go.Pe
namespace Go.Pe
open Go.ChangeShapes Go.WideShapes Go.ChangeAt Go.RowKit
section
variable {H : Type} {enc : TypeId × Value → H} {P : Program}
theorem post_below {f : Func} {s : ChangeSpec} {apart fresh handsOn again : Bool} {W W' : World} {args : Array Value} {v : Value} {ds gs : List (DataW H)} {before pa pv : List MemPlace}
    (hW : DataW.Whole enc P f.params.toList s.vars apart W args.toList ds gs before)
    (hres : ∀ (b : Nat) (sp : Nat → Bool) (hd : Bool), DataW.TrodAll enc P W' b sp hd f.resultTypes.toList (v.resultList f.resultTypes.size) (s.fn H (ds ++ gs)).results [])
    (hargs : ∀ sp : Nat → Bool, (∀ p ∈ before, sp p.block = true) → DataW.TrodAll enc P W' 0 sp true f.params.toList args.toList (s.fn H (ds ++ gs)).args pa)
    (hvars : ∀ sp : Nat → Bool, (∀ p ∈ before, sp p.block = true) → DataW.TrodVars enc P W' sp s.vars (s.fn H (ds ++ gs)).vars pv)
    (hps : before = pa ++ pv) (hb : Below W.heap.size W W')
    (hok : ∀ (j : Nat) (t : TypeId) (r : Value), f.resultTypes[j]? = some t → (v.resultList f.resultTypes.size)[j]? = some r → Value.okWide P W' .any 0 t r) :
    s.post enc P f apart fresh handsOn again W args v W' := by
  have hlt : ∀ p ∈ before, p.block < W.heap.size := fun p hp => hW.lt p hp
  have hold : ∀ p ∈ before, (fun b => decide (b < W.heap.size)) p.block = true := fun p hp => by simpa using hlt p hp
  refine ⟨ds, gs, before, [], pa, pv, hW, hres _ _ _, hargs _ hold, hvars _ hold, World.keptBut_mono (fun p hp => ⟨hp, ?_⟩) (hb.frame (· ∈ before)), fun _ => ?_⟩
  · rw [hps, List.mem_append] at hp
    exact Or.inr hp
  · obtain ⟨_, _, _, _, _, hz, hn⟩ := hW
    refine ⟨hok, _, _, ([] ++ pa) ++ pv, ⟨[] ++ pa, pv, trodAll_append (hargs _ (fun _ _ => rfl)) (hres _ _ _), hvars _ (fun _ _ => rfl), rfl, ?_, ?_⟩, ?_⟩
    · intro b off hp
      have hin : MemPlace.cell b off ∈ before := by rw [hps]; simpa using hp
      rw [hb.frozen (hlt _ hin)]
      exact hz b off hin
    · intro ha
      have := hn ha
      rw [hps] at this
      simpa using this
    · intro p hp _
      rw [hps]
      simpa using hp
theorem trodAll_stays (hl : laidOutB P = true) {W W' : World} (hb : Below W.heap.size W W') {sp : Nat → Bool} : ∀ {ts : List TypeId} {vs : List Value} {ds : List (DataW H)} {ps : List MemPlace}, (∀ t ∈ ts, P.readableRec t = true ∧ t < P.types.size) →
    DataW.TrodAll enc P W 0 (fun _ => true) true ts vs ds ps → (∀ p ∈ ps, sp p.block = true) → DataW.TrodAll enc P W' 0 sp true ts vs ds ps
  | [], [], [], _, _, h, _ => h
  | t :: ts, v :: vs, d :: ds, ps, ht, h, hs => by
    have hlt := h.lt
    obtain ⟨p, q, h1, h2, rfl⟩ := h
    exact ⟨p, q, WideElems.Trod_stays hl (ht t (by simp)).1 (ht t (by simp)).2 h1 (fun x hx => hb.same (hlt x (by simp [hx]))) (fun x hx => hs x (by simp [hx])),
      trodAll_stays hl hb (fun t ht' => ht t (by simp [ht'])) h2 (fun x hx => hs x (by simp [hx])), rfl⟩
  | [], _ :: _, _, _, _, h, _ => by simp [DataW.TrodAll] at h
  | [], [], _ :: _, _, _, h, _ => by simp [DataW.TrodAll] at h
  | _ :: _, [], _, _, _, h, _ => by simp [DataW.TrodAll] at h
  | _ :: _, _ :: _, [], _, _, h, _ => by simp [DataW.TrodAll] at h
/-- What an input's values stand for. -/
structure Ins (P : Program) (ts : List TypeId) (ps : List PV) : Prop where
  conf : confL (ts.map (shOf P 9)) ps = true
  wf : WFL ps
  untup : untupL ps = true
theorem RV_opens {W : World} {base : Nat} {t : TypeId} {v : Value} {p : PV} (hv : Value.okWide P W .any base t v) (h : Opens P W (fun b _ => b < W.heap.size) 9 t v.cells.toList p) : RV W (fun b _ => b < W.heap.size) (fun _ => none) v p := by
  have hnt : ∀ vs, p ≠ .tup vs := fun vs e => by have := h.untup; subst e; simp [Pe.untup] at this
  cases ha : Pe.isAgg p with
  | true =>
    have hat : isAggT P t = true := by rw [← h.agg]; exact ha
    have : ∃ cs, v = .agg cs := by
      unfold isAggT at hat
      unfold Value.okWide at hv
      split at hat
      · rename_i fs hu
        rw [hu] at hv
        obtain ⟨cs, hc, _⟩ := hv
        exact ⟨cs, hc⟩
      · rename_i n e hu
        rw [hu] at hv
        obtain ⟨cs, hc, _⟩ := hv
        exact ⟨cs, hc⟩
      · cases hat
    obtain ⟨cs, rfl⟩ := this
    refine RV.of_agg ha h.wf ⟨cs, rfl, ?_, fun j q u hq hu => RO.of_closed (h.rel j q u hq ?_)⟩
    · have := h.len
      simp only [Value.cells, Array.length_toList] at this
      rw [this, h.size]
    · simpa [Value.cells] using hu
  | false =>
    have hl : Pe.leaf p = true := by rw [Pe.leaf_agg, ha]; rfl
    have hone : v.cells = #[v] := by
      have hnagg : ∀ cs, v ≠ .agg cs := by
        rintro cs rfl
        have hat : isAggT P t = false := by rw [← h.agg]; exact ha
        unfold Value.okWide at hv
        unfold isAggT at hat
        split at hv
        · rename_i fs hu; rw [hu] at hat; cases hat
        · rename_i n e hu; rw [hu] at hat; cases hat
        · unfold Cell.okWide at hv
          split at hv <;> simp_all [Cell.ok]
      cases v <;> first | rfl | exact absurd rfl (hnagg _)
    refine RV.of_leaf hl hnt h.wf (RO.of_closed (h.rel 0 p v (by rw [flat_leaf hl]; rfl) (by rw [hone]; rfl)))
theorem ins_of {W : World} {base : Nat} : ∀ {ts : List TypeId} {vs : List Value} {ds : List (DataW H)} {ps : List MemPlace}, (∀ t ∈ ts, okT P 9 t = true) → (∀ (j : Nat) t v, ts[j]? = some t → vs[j]? = some v → Value.okWide P W .any base t v) →
    DataW.TrodAll enc P W 0 (fun _ => true) true ts vs ds ps → ∃ qs, Ins P ts qs ∧ qs.length = vs.length ∧ ∀ (j : Nat) (p : PV) (v : Value), qs[j]? = some p → vs[j]? = some v → RV W (fun b _ => b < W.heap.size) (fun _ => none) v p
  | [], [], [], _, _, _, _ => ⟨[], ⟨rfl, by simp [WFL], rfl⟩, rfl, fun j p v hp => by simp at hp⟩
  | t :: ts, v :: vs, d :: ds, ps, ht, hv, h => by
    obtain ⟨p, q, ⟨fuel, h1⟩, h2, rfl⟩ := h
    obtain ⟨x, hx⟩ := trod_opens 9 t fuel _ _ (ht t (by simp)) h1
    obtain ⟨qs, g1, g2, g3⟩ := ins_of (fun t' h' => ht t' (by simp [h'])) (fun j t' v' hj hj' => hv (j + 1) t' v' (by simpa using hj) (by simpa using hj')) h2
    refine ⟨x :: qs, ⟨by simp only [List.map_cons, confL, Bool.and_eq_true]; exact ⟨hx.conf, g1.conf⟩, by simp only [WFL]; exact ⟨hx.wf, g1.wf⟩, by simp only [untupL, Bool.and_eq_true]; exact ⟨hx.untup, g1.untup⟩⟩, by simp [g2], fun j p' v' hp hv' => ?_⟩
    cases j with
    | zero =>
      simp at hp hv'
      subst hp; subst hv'
      exact RV_opens (hv 0 t v rfl rfl) hx
    | succ j => simp at hp hv'; exact g3 j p' v' hp hv'
  | [], _ :: _, _, _, _, _, h => by simp [DataW.TrodAll] at h
  | [], [], _ :: _, _, _, _, h => by simp [DataW.TrodAll] at h
  | _ :: _, [], _, _, _, _, h => by simp [DataW.TrodAll] at h
  | _ :: _, _ :: _, [], _, _, _, h => by simp [DataW.TrodAll] at h
theorem below_of_FR {w w' : World} {M : T2} (hM : ∀ b o, ¬ M b o) (h : FR M w w') : Below w.heap.size w w' := by
  refine ⟨h.os, h.tape, h.output, h.size, fun k hk => ?_⟩
  rcases h.block k hk with e | ⟨cs, cs', t, fz, e1, e2, e3, e4⟩
  · exact e.symm
  · rw [e1, e2]
    have : cs' = cs := by
      apply Array.ext_getElem?
      intro i
      exact e4 i (hM k i)
    rw [this]
end
end Go.Pe
