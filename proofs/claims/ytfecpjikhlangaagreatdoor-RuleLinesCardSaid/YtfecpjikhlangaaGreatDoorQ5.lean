/- Merged texts: the pure machine and what the walks show. Conditions: as each statement says. -/
import Derived.Test.YtfecpjikhlangaaGreatDoorQ4
namespace Go.Proofs
open Go Go.Pe Go.Pm
set_option maxRecDepth 100000
set_option linter.unusedVariables false
def dsRb0 (nt : Bool) (t e : Nat) : DS := ⟨[(0, bv nt t), (3, .int .i64 e)], []⟩
def dsRb1 (nm : Bool) (m e i : Nat) : DS := ⟨[(3, .int .i64 e), (4, bv nm m), (5, .int .i64 i)], []⟩
def dsRb2 (nm : Bool) (m e i : Nat) : DS := ⟨[(3, .int .i64 e), (4, bv nm m), (6, .int .i64 i)], []⟩
def dsRb3 (nm : Bool) (m e i : Nat) : DS := ⟨[(3, .int .i64 e), (4, bv nm m), (7, .int .i64 i)], []⟩
theorem nd_small {m : Nat} (h : m < 16777216 * 65536) : nd m ≤ 3 := nd_le_of_le (b := 16777216 * 65536) (Nat.le_of_lt h) (by decide)
theorem W_rb3 {E : Nat} (hE : E ≤ 32) : ∀ (k i m : Nat) (nm : Bool), i + k = 8 → m < 16777216 →
    W Tryz.prog G0 Tryz.f38 [] [] (.int .u32 (((E + 1) * 16777216 + m / 2 ^ k : Nat) : Int)) (loopAt Tryz.f38 3) (dsRb3 nm m E i)
  | 0, i, m, nm, hk, hm => by
    have h1 := pc_bWords (na := nm) (a := m) (by have := nd_small (m := m) (by omega); omega)
    rw [Nat.pow_zero, Nat.div_one]
    refine W.ret [(1, aF), (3, aV (I6 (↑(E + 1) : Int))), (6, aV (U3 (↑(E + 1) : Int))), (7, aV (U3 (↑(16777216 * E + 16777216) : Int))), (9, aK (B6 4 (uw m))), (10, aV (U6 (↑(m % 18446744073709551616) : Int))), (11, aV (U3 (↑(m % 18446744073709551616) : Int))), (12, aV (U3 (↑(16777216 * E + m % 18446744073709551616 + 16777216) : Int)))] [] [decide ((i:Int) < 8) = false, I6 (IntKind.wrap .i64 ((E:Int) + 1)) = I6 (↑(E + 1) : Int), U3 (IntKind.wrap .u32 (↑(E + 1) : Int)) = U3 (↑(E + 1) : Int), U3 (IntKind.wrap .u32 ((↑(E + 1) : Int) * (16777216 : Int))) = U3 (↑(16777216 * E + 16777216) : Int), PC Tryz.prog G0 64 [] [PV.vec nm (BI (nd m) (dg m))] [] (B6 4 (uw m)), U6 (List.getD (uw m) 0 (0 : Int)) = U6 (↑(m % 18446744073709551616) : Int), (0 : Int) ≤ (0 : Int), 0 < (↑(4 : Nat) : Int), U3 (IntKind.wrap .u32 (↑(m % 18446744073709551616) : Int)) = U3 (↑(m % 18446744073709551616) : Int), U3 (IntKind.wrap .u32 ((↑(16777216 * E + 16777216) : Int) + (↑(m % 18446744073709551616) : Int))) = U3 (↑(16777216 * E + m % 18446744073709551616 + 16777216) : Int), U3 (↑(16777216 * E + m % 18446744073709551616 + 16777216) : Int) = U3 (↑((E + 1) * 16777216 + m) : Int)] (by kernel_rfl) (ac (decide_eq_false (by omega)) (ac (cg (w_i64 rfl (by omega) (by omega))) (ac (cg (w_u32 rfl (by omega) (by omega))) (ac (cg (w_u32 (by omega) (by omega) (by omega))) (ac (h1) (ac (cg rfl) (ac (by omega) (ac (by omega) (ac (cg (w_u32 rfl (by omega) (by omega))) (ac (cg (w_u32 (by omega) (by omega) (by omega))) (ao (cg (by omega)))))))))))))
  | k + 1, i, m, nm, hk, hm => by
    have h1 := pc_bHalf (na := nm) (a := m) (by have := nd_small (m := m) (by omega); omega)
    refine W.seg [(1, aT), (3, Ans.call false [] [] (PV.vec false (BI (nd (m / 2)) (dg (m / 2))))), (6, aV (I6 (↑(i + 1) : Int)))] [] (dsRb3 false (m / 2) E (i + 1)) (todo' := loopAt Tryz.f38 3) [decide ((i:Int) < 8) = true, PC Tryz.prog G0 62 [] [PV.vec nm (BI (nd m) (dg m))] [] (PV.vec false (BI (nd (m / 2)) (dg (m / 2)))), I6 (IntKind.wrap .i64 ((i:Int) + 1)) = I6 (↑(i + 1) : Int), rr (I6 (E:Int)), rr (PV.vec false (BI (nd (m / 2)) (dg (m / 2)))), rr (I6 (↑(i + 1) : Int))] (by kernel_rfl) (ac (decide_eq_true (by omega)) (ac (h1) (ac (cg (w_i64 rfl (by omega) (by omega))) (ac rfl (ac rfl (ao rfl)))))) ?_
    have := W_rb3 hE k (i + 1) (m / 2) false (by omega) (by omega)
    rw [Nat.div_div_eq_div_mul, ← Nat.pow_succ'] at this
    exact this
theorem W_rb2 {E : Nat} (hE : E ≤ 32) : ∀ (k i m : Nat) (nm : Bool), (i + k = 3 ∨ (k = 0 ∧ 3 ≤ i)) → i ≤ 32 → m * 256 ^ k < 16777216 →
    W Tryz.prog G0 Tryz.f38 [] [] (.int .u32 ((cbitsOf E (m * 256 ^ k) : Nat) : Int)) (loopAt Tryz.f38 2) (dsRb2 nm m E i)
  | 0, i, m, nm, hk, hi, hm => by
    rw [Nat.pow_zero, Nat.mul_one] at hm ⊢
    have hn := nd_small (m := m) (by omega)
    have h0 := pc_bLess (na := nm) (nb := false) (a := m) (b := 8388608) (by omega) (by decide)
    have e0 : bv false 8388608 = .vec false (.iarr .i64 2 [0, 128]) := by rfl
    rw [e0] at h0
    have h1 := pc_bWords (na := nm) (a := m) (by omega)
    by_cases h : m < 8388608
    · rw [decide_eq_true h] at h0
      refine W.ret [(1, aF), (4, aK (PV.bool true)), (7, aV (U3 (E:Int))), (8, aV (U3 (↑(16777216 * E) : Int))), (10, aK (B6 4 (uw m))), (11, aV (U6 (↑(m % 18446744073709551616) : Int))), (12, aV (U3 (↑(m % 18446744073709551616) : Int))), (13, aV (U3 (↑(16777216 * E + m % 18446744073709551616) : Int)))] [] [decide ((i:Int) < 3) = false, 2 ≤ 2, PC Tryz.prog G0 19 [] [PV.vec nm (BI (nd m) (dg m)), PV.vec false (BI 2 [(0 : Int), (128 : Int)])] [] (PV.bool true), U3 (IntKind.wrap .u32 (E:Int)) = U3 (E:Int), U3 (IntKind.wrap .u32 ((E:Int) * (16777216 : Int))) = U3 (↑(16777216 * E) : Int), PC Tryz.prog G0 64 [] [PV.vec nm (BI (nd m) (dg m))] [] (B6 4 (uw m)), U6 (List.getD (uw m) 0 (0 : Int)) = U6 (↑(m % 18446744073709551616) : Int), (0 : Int) ≤ (0 : Int), 0 < (↑(4 : Nat) : Int), U3 (IntKind.wrap .u32 (↑(m % 18446744073709551616) : Int)) = U3 (↑(m % 18446744073709551616) : Int), U3 (IntKind.wrap .u32 ((↑(16777216 * E) : Int) + (↑(m % 18446744073709551616) : Int))) = U3 (↑(16777216 * E + m % 18446744073709551616) : Int), U3 (↑(16777216 * E + m % 18446744073709551616) : Int) = U3 (↑(cbitsOf E m) : Int)] (by kernel_rfl) (ac (decide_eq_false (by omega)) (ac (by omega) (ac (h0) (ac (cg (w_u32 rfl (by omega) (by omega))) (ac (cg (w_u32 (by omega) (by omega) (by omega))) (ac (h1) (ac (cg rfl) (ac (by omega) (ac (by omega) (ac (cg (w_u32 rfl (by omega) (by omega))) (ac (cg (w_u32 rfl (by omega) (by omega))) (ao ?_))))))))))))
      refine congrArg (fun x : Nat => PV.int .u32 (x : Int)) ?_
      unfold cbitsOf
      rw [if_neg (by omega)]
      omega
    · rw [decide_eq_false h] at h0
      refine W.seg [(1, aF), (4, aK (PV.bool false))] [] (dsRb3 nm m E 0) (todo' := loopAt Tryz.f38 3) [decide ((i:Int) < 3) = false, 2 ≤ 2, PC Tryz.prog G0 19 [] [PV.vec nm (BI (nd m) (dg m)), PV.vec false (BI 2 [(0 : Int), (128 : Int)])] [] (PV.bool false), rr (I6 (E:Int)), rr (PV.vec nm (BI (nd m) (dg m))), I6 0 = I6 (↑(0 : Nat) : Int)] (by kernel_rfl) (ac (decide_eq_false (by omega)) (ac (by omega) (ac (h0) (ac rfl (ac rfl (ao (cg (by omega)))))))) ?_
      have := W_rb3 hE 8 0 m nm (by omega) hm
      unfold cbitsOf
      rw [if_pos (by omega)]
      exact this
  | k + 1, i, m, nm, hk, hi, hm => by
    have hle : m ≤ m * 256 ^ (k + 1) := Nat.le_mul_of_pos_right m (Nat.pow_pos (by omega))
    have hn := nd_small (m := m) (by omega)
    have h1 := pc_bMul (na := nm) (nb := false) (a := m) (b := 256) (by omega) (by decide)
    have e0 : bv false 256 = .vec false (.iarr .i64 1 [256]) := by rfl
    rw [e0] at h1
    refine W.seg [(1, aT), (4, Ans.call false [] [] (PV.vec false (BI (nd (m * 256)) (dg (m * 256))))), (7, aV (I6 (↑(i + 1) : Int)))] [] (dsRb2 false (m * 256) E (i + 1)) (todo' := loopAt Tryz.f38 2) [decide ((i:Int) < 3) = true, 1 ≤ 1, PC Tryz.prog G0 63 [] [PV.vec nm (BI (nd m) (dg m)), PV.vec false (BI 1 [(256 : Int)])] [] (PV.vec false (BI (nd (m * 256)) (dg (m * 256)))), I6 (IntKind.wrap .i64 ((i:Int) + 1)) = I6 (↑(i + 1) : Int), rr (I6 (E:Int)), rr (PV.vec false (BI (nd (m * 256)) (dg (m * 256)))), rr (I6 (↑(i + 1) : Int))] (by kernel_rfl) (ac (decide_eq_true (by omega)) (ac (by omega) (ac (h1) (ac (cg (w_i64 rfl (by omega) (by omega))) (ac rfl (ac rfl (ao rfl))))))) ?_
    have e : m * 256 ^ (k + 1) = m * 256 * 256 ^ k := by rw [Nat.pow_succ, Nat.mul_comm (256 ^ k), Nat.mul_assoc]
    rw [e] at hm ⊢
    exact W_rb2 hE k (i + 1) (m * 256) false (by omega) (by omega) hm
theorem W_rb1 {E : Nat} (hE : E ≤ 32) : ∀ (k i m : Nat) (nm : Bool), i + k = 8 * (E - 3) → nd m ≤ 1000 → m / 2 ^ k * 256 ^ (3 - E) < 16777216 →
    W Tryz.prog G0 Tryz.f38 [] [] (.int .u32 ((cbitsOf E (m / 2 ^ k * 256 ^ (3 - E)) : Nat) : Int)) (loopAt Tryz.f38 1) (dsRb1 nm m E i)
  | 0, i, m, nm, hk, hm, hlt => by
    rw [Nat.pow_zero, Nat.div_one] at hlt ⊢
    refine W.seg [(2, aV (I6 ((E:Int) - 3))), (3, aV (I6 (8 * (E:Int) - 24))), (4, aF)] [] (dsRb2 nm m E E) (todo' := loopAt Tryz.f38 2) [I6 (IntKind.wrap .i64 ((E:Int) - 3)) = I6 ((E:Int) - 3), I6 (IntKind.wrap .i64 ((8 : Int) * ((E:Int) - 3))) = I6 (8 * (E:Int) - 24), decide ((i:Int) < 8 * (E:Int) - 24) = false, rr (I6 (E:Int)), rr (PV.vec nm (BI (nd m) (dg m))), rr (I6 (E:Int))] (by kernel_rfl) (ac (cg (w_i64 rfl (by omega) (by omega))) (ac (cg (w_i64 (by omega) (by omega) (by omega))) (ac (decide_eq_false (by omega)) (ac rfl (ac rfl (ao rfl)))))) ?_
    exact W_rb2 hE (3 - E) E m nm (by omega) hE hlt
  | k + 1, i, m, nm, hk, hm, hlt => by
    have h1 := pc_bHalf (na := nm) (a := m) (by omega)
    refine W.seg [(2, aV (I6 ((E:Int) - 3))), (3, aV (I6 (8 * (E:Int) - 24))), (4, aT), (6, Ans.call false [] [] (PV.vec false (BI (nd (m / 2)) (dg (m / 2))))), (9, aV (I6 (↑(i + 1) : Int)))] [] (dsRb1 false (m / 2) E (i + 1)) (todo' := loopAt Tryz.f38 1) [I6 (IntKind.wrap .i64 ((E:Int) - 3)) = I6 ((E:Int) - 3), I6 (IntKind.wrap .i64 ((8 : Int) * ((E:Int) - 3))) = I6 (8 * (E:Int) - 24), decide ((i:Int) < 8 * (E:Int) - 24) = true, PC Tryz.prog G0 62 [] [PV.vec nm (BI (nd m) (dg m))] [] (PV.vec false (BI (nd (m / 2)) (dg (m / 2)))), I6 (IntKind.wrap .i64 ((i:Int) + 1)) = I6 (↑(i + 1) : Int), rr (I6 (E:Int)), rr (PV.vec false (BI (nd (m / 2)) (dg (m / 2)))), rr (I6 (↑(i + 1) : Int))] (by kernel_rfl) (ac (cg (w_i64 rfl (by omega) (by omega))) (ac (cg (w_i64 (by omega) (by omega) (by omega))) (ac (decide_eq_true (by omega)) (ac (h1) (ac (cg (w_i64 rfl (by omega) (by omega))) (ac rfl (ac rfl (ao rfl)))))))) ?_
    have e : m / 2 ^ (k + 1) = m / 2 / 2 ^ k := by rw [Nat.pow_succ', Nat.div_div_eq_div_mul]
    rw [e] at hlt ⊢
    exact W_rb1 hE k (i + 1) (m / 2) false (by omega) (nd_le_of_le (Nat.div_le_self _ _) hm) hlt
theorem W_rb0 {nt : Bool} {t E : Nat} (hE : E = (blen t + 7) / 8) (hE2 : E ≤ 32) (ht : nd t ≤ 1000) (hlt : t / 2 ^ (8 * (E - 3)) * 256 ^ (3 - E) < 16777216) : ∀ (k e : Nat), e + k = E →
    W Tryz.prog G0 Tryz.f38 [] [] (.int .u32 ((cbitsOf E (t / 2 ^ (8 * (E - 3)) * 256 ^ (3 - E)) : Nat) : Int)) (loopAt Tryz.f38 0) (dsRb0 nt t e)
  | 0, e, hk => by
    have he : e = E := by omega
    subst he
    by_cases h32 : e < 32
    · have h1 := pc_bPow (k := 8 * e) (by omega)
      have h2 := pc_bLess (na := nt) (nb := false) (a := t) (b := 2 ^ (8 * e)) (by omega) (by rw [nd_pow]; omega)
      have hd : t < 2 ^ (8 * e) := blen_le.1 (by omega)
      rw [decide_eq_true hd] at h2
      refine W.seg [(1, aT), (5, aV (I6 (↑(8 * e) : Int))), (6, Ans.call false [] [] (PV.vec false (BI (nd (2 ^ (8 * e))) (dg (2 ^ (8 * e)))))), (7, aK (PV.bool true))] [] (dsRb1 nt t e 0) (todo' := loopAt Tryz.f38 1) [decide ((e:Int) < 32) = true, I6 (IntKind.wrap .i64 (8 * (e:Int))) = I6 (↑(8 * e) : Int), PC Tryz.prog G0 61 [] [I6 (↑(8 * e) : Int)] [] (PV.vec false (BI (nd (2 ^ (8 * e))) (dg (2 ^ (8 * e))))), PC Tryz.prog G0 19 [] [PV.vec nt (BI (nd t) (dg t)), PV.vec false (BI (nd (2 ^ (8 * e))) (dg (2 ^ (8 * e))))] [] (PV.bool true), rr (I6 (e:Int)), rr (PV.vec nt (BI (nd t) (dg t))), I6 0 = I6 (↑(0 : Nat) : Int)] (by kernel_rfl) (ac (decide_eq_true (by omega)) (ac (cg (w_i64 rfl (by omega) (by omega))) (ac (h1) (ac (h2) (ac rfl (ac rfl (ao (cg (by omega))))))))) ?_
      exact W_rb1 hE2 _ 0 t nt (Nat.zero_add _) ht hlt
    · refine W.seg [(1, aF)] [] (dsRb1 nt t e 0) (todo' := loopAt Tryz.f38 1) [decide ((e:Int) < 32) = false, rr (I6 (e:Int)), rr (PV.vec nt (BI (nd t) (dg t))), I6 0 = I6 (↑(0 : Nat) : Int)] (by kernel_rfl) (ac (decide_eq_false (by omega)) (ac rfl (ac rfl (ao (cg (by omega)))))) ?_
      exact W_rb1 hE2 _ 0 t nt (Nat.zero_add _) ht hlt
  | k + 1, e, hk => by
    have h1 := pc_bPow (k := 8 * e) (by omega)
    have h2 := pc_bLess (na := nt) (nb := false) (a := t) (b := 2 ^ (8 * e)) (by omega) (by rw [nd_pow]; omega)
    have hd : ¬ t < 2 ^ (8 * e) := fun h => by have := blen_le.2 h; omega
    rw [decide_eq_false hd] at h2
    refine W.seg [(1, aT), (5, aV (I6 (↑(8 * e) : Int))), (6, Ans.call false [] [] (PV.vec false (BI (nd (2 ^ (8 * e))) (dg (2 ^ (8 * e)))))), (7, aK (PV.bool false)), (11, aV (I6 (↑(e + 1) : Int)))] [] (dsRb0 nt t (e + 1)) (todo' := loopAt Tryz.f38 0) [decide ((e:Int) < 32) = true, I6 (IntKind.wrap .i64 (8 * (e:Int))) = I6 (↑(8 * e) : Int), PC Tryz.prog G0 61 [] [I6 (↑(8 * e) : Int)] [] (PV.vec false (BI (nd (2 ^ (8 * e))) (dg (2 ^ (8 * e))))), PC Tryz.prog G0 19 [] [PV.vec nt (BI (nd t) (dg t)), PV.vec false (BI (nd (2 ^ (8 * e))) (dg (2 ^ (8 * e))))] [] (PV.bool false), I6 (IntKind.wrap .i64 ((e:Int) + 1)) = I6 (↑(e + 1) : Int), rr (PV.vec nt (BI (nd t) (dg t))), rr (I6 (↑(e + 1) : Int))] (by kernel_rfl) (ac (decide_eq_true (by omega)) (ac (cg (w_i64 rfl (by omega) (by omega))) (ac (h1) (ac (h2) (ac (cg (w_i64 rfl (by omega) (by omega))) (ac rfl (ao rfl))))))) ?_
    exact W_rb0 hE hE2 ht hlt k (e + 1) (by omega)
theorem pc_rBits5 {nt : Bool} {t : Nat} (ht : t < W256) : PC Tryz.prog G0 38 [] [bv nt t] [] (.int .u32 ((cbits t : Nat) : Int)) := by
  refine PC.of (fn := Tryz.f38) (c := bodyOf Tryz.f38) Tryz.func38 (by kernel_rfl) (by kernel_rfl) (by kernel_rfl) (by kernel_rfl) ?_
  have hbl : blen t ≤ 256 := blen_le.2 (Nat.lt_of_lt_of_le ht (by decide))
  have hnd : nd t ≤ 16 := nd_W256.2 ht
  have hlt := cm_lt t
  have e : t * 2 ^ (8 * (3 - (blen t + 7) / 8)) / 2 ^ (8 * ((blen t + 7) / 8 - 3)) = t / 2 ^ (8 * ((blen t + 7) / 8 - 3)) * 256 ^ (3 - (blen t + 7) / 8) := by
    rw [show (256 : Nat) = 2 ^ 8 by decide, ← Nat.pow_mul]
    by_cases h3 : (blen t + 7) / 8 ≤ 3
    · rw [show 8 * ((blen t + 7) / 8 - 3) = 0 by omega, Nat.pow_zero, Nat.div_one, Nat.div_one]
    · rw [show 8 * (3 - (blen t + 7) / 8) = 0 by omega, Nat.pow_zero, Nat.mul_one, Nat.mul_one]
  unfold cbits
  rw [e] at hlt ⊢
  refine W.seg [] [] (dsRb0 nt t 0) (todo' := loopAt Tryz.f38 0) [rr (PV.vec nt (BI (nd t) (dg t))), I6 0 = I6 (↑(0 : Nat) : Int)] (by kernel_rfl) (ac rfl (ao (cg (by omega)))) ?_
  exact W_rb0 rfl (by omega) (by omega) hlt _ 0 (Nat.zero_add _)
theorem pc_rHeld18 (x : Int) : PC Tryz.prog G0 92 [] [.int .i64 x] [] (.int .i64 ((clampP x : Nat) : Int)) := by
  refine PC.of (fn := Tryz.f92) (c := bodyOf Tryz.f92) Tryz.func92 (by kernel_rfl) (by kernel_rfl) (by kernel_rfl) (by kernel_rfl) ?_
  have h := clampP_eq x
  rw [← h]
  by_cases h1 : x < 1
  · have e : mn (mx x 1) 65536 = 1 := by unfold mn mx; (repeat' split) <;> omega
    rw [e]
    refine W.ret [(2, aT)] [] [decide (x < (1 : Int)) = true, rr (I6 1)] (by kernel_rfl) (ac (decide_eq_true (by omega)) (ao rfl))
  · by_cases h2 : x > 65536
    · have e : mn (mx x 1) 65536 = 65536 := by unfold mn mx; (repeat' split) <;> omega
      rw [e]
      refine W.ret [(2, aF), (4, aT)] [] [decide (x < (1 : Int)) = false, decide (x > (65536 : Int)) = true, rr (I6 65536)] (by kernel_rfl) (ac (decide_eq_false (by omega)) (ac (decide_eq_true (by omega)) (ao rfl)))
    · have e : mn (mx x 1) 65536 = x := by unfold mn mx; (repeat' split) <;> omega
      rw [e]
      refine W.ret [(2, aF), (4, aF)] [] [decide (x < (1 : Int)) = false, decide (x > (65536 : Int)) = false, rr (I6 x)] (by kernel_rfl) (ac (decide_eq_false (by omega)) (ac (decide_eq_false (by omega)) (ao rfl)))
theorem pc_rLasted {p s : Int} {first last : Nat} (hf : first < 4294967296) (hl : last < 4294967296) : PC Tryz.prog G0 90 [] [.int .i64 p, .int .i64 s, .int .u32 first, .int .u32 last] [] (.int .i64 ((lastedN (idealN p s) first last : Nat) : Int)) := by
  refine PC.of (fn := Tryz.f90) (c := bodyOf Tryz.f90) Tryz.func90 (by kernel_rfl) (by kernel_rfl) (by kernel_rfl) (by kernel_rfl) ?_
  have h1 := idealN_pos p s
  have h2 := idealN_le p s
  have h3 := lastedN_eq (first := first) (last := last) h1
  have c1 := pc_rHeld18 p
  have c2 := pc_rHeld18 s
  have hi : ((clampP p * clampP s : Nat) : Int) = ((idealN p s : Nat) : Int) := rfl
  generalize hres : lastedN (idealN p s) first last = r at *
  generalize idealN p s = n at *
  by_cases g1 : (last : Int) - first < ((n / 4 : Nat) : Int)
  · by_cases g2 : n / 4 < 1
    · refine W.ret [(2, aK (I6 (↑(clampP p) : Int))), (4, aK (I6 (↑(clampP s) : Int))), (5, aV (I6 (n:Int))), (8, aV (I6 (last:Int))), (10, aV (I6 (first:Int))), (11, aV (I6 ((last:Int) - (first:Int)))), (15, aV (I6 (↑(n / 4) : Int))), (16, aT), (18, aV (I6 (↑(n / 4) : Int))), (21, aT), (25, aV (I6 (↑(4 * n) : Int))), (26, aF)] [] [PC Tryz.prog G0 92 [] [I6 p] [] (I6 (↑(clampP p) : Int)), PC Tryz.prog G0 92 [] [I6 s] [] (I6 (↑(clampP s) : Int)), I6 (IntKind.wrap .i64 ((↑(clampP p) : Int) * (↑(clampP s) : Int))) = I6 (n:Int), I6 (IntKind.wrap .i64 (last:Int)) = I6 (last:Int), I6 (IntKind.wrap .i64 (first:Int)) = I6 (first:Int), I6 (IntKind.wrap .i64 ((last:Int) - (first:Int))) = I6 ((last:Int) - (first:Int)), I6 (IntKind.wrap .i64 (Int.tdiv (n:Int) (4 : Int))) = I6 (↑(n / 4) : Int), (4 : Int) ≠ (0 : Int), decide ((last:Int) - (first:Int) < (↑(n / 4) : Int)) = true, I6 (IntKind.wrap .i64 (Int.tdiv (n:Int) (4 : Int))) = I6 (↑(n / 4) : Int), (4 : Int) ≠ (0 : Int), decide ((↑(n / 4) : Int) < 1) = true, I6 (IntKind.wrap .i64 (4 * (n:Int))) = I6 (↑(4 * n) : Int), decide (1 > (↑(4 * n) : Int)) = false, I6 1 = I6 (r:Int)] (by kernel_rfl) (ac (c1) (ac (c2) (ac (cg (w_i64 hi (by omega) (by omega))) (ac (cg (w_i64 rfl (by omega) (by omega))) (ac (cg (w_i64 rfl (by omega) (by omega))) (ac (cg (w_i64 rfl (by omega) (by omega))) (ac (cg (w_i64 rfl (by omega) (by omega))) (ac (by omega) (ac (decide_eq_true (by omega)) (ac (cg (w_i64 rfl (by omega) (by omega))) (ac (by omega) (ac (decide_eq_true (by omega)) (ac (cg (w_i64 rfl (by omega) (by omega))) (ac (decide_eq_false (by omega)) (ao ?_)))))))))))))))
      refine congrArg (PV.int .i64) ?_
      rw [← h3]; unfold mn mx; (repeat' split) <;> omega
    · refine W.ret [(2, aK (I6 (↑(clampP p) : Int))), (4, aK (I6 (↑(clampP s) : Int))), (5, aV (I6 (n:Int))), (8, aV (I6 (last:Int))), (10, aV (I6 (first:Int))), (11, aV (I6 ((last:Int) - (first:Int)))), (15, aV (I6 (↑(n / 4) : Int))), (16, aT), (18, aV (I6 (↑(n / 4) : Int))), (21, aF), (24, aV (I6 (↑(4 * n) : Int))), (25, aF)] [] [PC Tryz.prog G0 92 [] [I6 p] [] (I6 (↑(clampP p) : Int)), PC Tryz.prog G0 92 [] [I6 s] [] (I6 (↑(clampP s) : Int)), I6 (IntKind.wrap .i64 ((↑(clampP p) : Int) * (↑(clampP s) : Int))) = I6 (n:Int), I6 (IntKind.wrap .i64 (last:Int)) = I6 (last:Int), I6 (IntKind.wrap .i64 (first:Int)) = I6 (first:Int), I6 (IntKind.wrap .i64 ((last:Int) - (first:Int))) = I6 ((last:Int) - (first:Int)), I6 (IntKind.wrap .i64 (Int.tdiv (n:Int) (4 : Int))) = I6 (↑(n / 4) : Int), (4 : Int) ≠ (0 : Int), decide ((last:Int) - (first:Int) < (↑(n / 4) : Int)) = true, I6 (IntKind.wrap .i64 (Int.tdiv (n:Int) (4 : Int))) = I6 (↑(n / 4) : Int), (4 : Int) ≠ (0 : Int), decide ((↑(n / 4) : Int) < 1) = false, I6 (IntKind.wrap .i64 (4 * (n:Int))) = I6 (↑(4 * n) : Int), decide ((↑(n / 4) : Int) > (↑(4 * n) : Int)) = false, I6 (↑(n / 4) : Int) = I6 (r:Int)] (by kernel_rfl) (ac (c1) (ac (c2) (ac (cg (w_i64 hi (by omega) (by omega))) (ac (cg (w_i64 rfl (by omega) (by omega))) (ac (cg (w_i64 rfl (by omega) (by omega))) (ac (cg (w_i64 rfl (by omega) (by omega))) (ac (cg (w_i64 rfl (by omega) (by omega))) (ac (by omega) (ac (decide_eq_true (by omega)) (ac (cg (w_i64 rfl (by omega) (by omega))) (ac (by omega) (ac (decide_eq_false (by omega)) (ac (cg (w_i64 rfl (by omega) (by omega))) (ac (decide_eq_false (by omega)) (ao ?_)))))))))))))))
      refine congrArg (PV.int .i64) ?_
      rw [← h3]; unfold mn mx; (repeat' split) <;> omega
  · by_cases g2 : (last : Int) - first < 1
    · refine W.ret [(2, aK (I6 (↑(clampP p) : Int))), (4, aK (I6 (↑(clampP s) : Int))), (5, aV (I6 (n:Int))), (8, aV (I6 (last:Int))), (10, aV (I6 (first:Int))), (11, aV (I6 ((last:Int) - (first:Int)))), (15, aV (I6 (↑(n / 4) : Int))), (16, aF), (18, aT), (22, aV (I6 (↑(4 * n) : Int))), (23, aF)] [] [PC Tryz.prog G0 92 [] [I6 p] [] (I6 (↑(clampP p) : Int)), PC Tryz.prog G0 92 [] [I6 s] [] (I6 (↑(clampP s) : Int)), I6 (IntKind.wrap .i64 ((↑(clampP p) : Int) * (↑(clampP s) : Int))) = I6 (n:Int), I6 (IntKind.wrap .i64 (last:Int)) = I6 (last:Int), I6 (IntKind.wrap .i64 (first:Int)) = I6 (first:Int), I6 (IntKind.wrap .i64 ((last:Int) - (first:Int))) = I6 ((last:Int) - (first:Int)), I6 (IntKind.wrap .i64 (Int.tdiv (n:Int) (4 : Int))) = I6 (↑(n / 4) : Int), (4 : Int) ≠ (0 : Int), decide ((last:Int) - (first:Int) < (↑(n / 4) : Int)) = false, decide ((last:Int) - (first:Int) < 1) = true, I6 (IntKind.wrap .i64 (4 * (n:Int))) = I6 (↑(4 * n) : Int), decide (1 > (↑(4 * n) : Int)) = false, I6 1 = I6 (r:Int)] (by kernel_rfl) (ac (c1) (ac (c2) (ac (cg (w_i64 hi (by omega) (by omega))) (ac (cg (w_i64 rfl (by omega) (by omega))) (ac (cg (w_i64 rfl (by omega) (by omega))) (ac (cg (w_i64 rfl (by omega) (by omega))) (ac (cg (w_i64 rfl (by omega) (by omega))) (ac (by omega) (ac (decide_eq_false (by omega)) (ac (decide_eq_true (by omega)) (ac (cg (w_i64 rfl (by omega) (by omega))) (ac (decide_eq_false (by omega)) (ao ?_)))))))))))))
      refine congrArg (PV.int .i64) ?_
      rw [← h3]; unfold mn mx; (repeat' split) <;> omega
    · by_cases g3 : (last : Int) - first > 4 * (n : Int)
      · refine W.ret [(2, aK (I6 (↑(clampP p) : Int))), (4, aK (I6 (↑(clampP s) : Int))), (5, aV (I6 (n:Int))), (8, aV (I6 (last:Int))), (10, aV (I6 (first:Int))), (11, aV (I6 ((last:Int) - (first:Int)))), (15, aV (I6 (↑(n / 4) : Int))), (16, aF), (18, aF), (21, aV (I6 (↑(4 * n) : Int))), (22, aT), (24, aV (I6 (↑(4 * n) : Int)))] [] [PC Tryz.prog G0 92 [] [I6 p] [] (I6 (↑(clampP p) : Int)), PC Tryz.prog G0 92 [] [I6 s] [] (I6 (↑(clampP s) : Int)), I6 (IntKind.wrap .i64 ((↑(clampP p) : Int) * (↑(clampP s) : Int))) = I6 (n:Int), I6 (IntKind.wrap .i64 (last:Int)) = I6 (last:Int), I6 (IntKind.wrap .i64 (first:Int)) = I6 (first:Int), I6 (IntKind.wrap .i64 ((last:Int) - (first:Int))) = I6 ((last:Int) - (first:Int)), I6 (IntKind.wrap .i64 (Int.tdiv (n:Int) (4 : Int))) = I6 (↑(n / 4) : Int), (4 : Int) ≠ (0 : Int), decide ((last:Int) - (first:Int) < (↑(n / 4) : Int)) = false, decide ((last:Int) - (first:Int) < 1) = false, I6 (IntKind.wrap .i64 (4 * (n:Int))) = I6 (↑(4 * n) : Int), decide ((last:Int) - (first:Int) > (↑(4 * n) : Int)) = true, I6 (IntKind.wrap .i64 (4 * (n:Int))) = I6 (↑(4 * n) : Int), I6 (↑(4 * n) : Int) = I6 (r:Int)] (by kernel_rfl) (ac (c1) (ac (c2) (ac (cg (w_i64 hi (by omega) (by omega))) (ac (cg (w_i64 rfl (by omega) (by omega))) (ac (cg (w_i64 rfl (by omega) (by omega))) (ac (cg (w_i64 rfl (by omega) (by omega))) (ac (cg (w_i64 rfl (by omega) (by omega))) (ac (by omega) (ac (decide_eq_false (by omega)) (ac (decide_eq_false (by omega)) (ac (cg (w_i64 rfl (by omega) (by omega))) (ac (decide_eq_true (by omega)) (ac (cg (w_i64 rfl (by omega) (by omega))) (ao ?_))))))))))))))
        refine congrArg (PV.int .i64) ?_
        rw [← h3]; unfold mn mx; (repeat' split) <;> omega
      · refine W.ret [(2, aK (I6 (↑(clampP p) : Int))), (4, aK (I6 (↑(clampP s) : Int))), (5, aV (I6 (n:Int))), (8, aV (I6 (last:Int))), (10, aV (I6 (first:Int))), (11, aV (I6 ((last:Int) - (first:Int)))), (15, aV (I6 (↑(n / 4) : Int))), (16, aF), (18, aF), (21, aV (I6 (↑(4 * n) : Int))), (22, aF)] [] [PC Tryz.prog G0 92 [] [I6 p] [] (I6 (↑(clampP p) : Int)), PC Tryz.prog G0 92 [] [I6 s] [] (I6 (↑(clampP s) : Int)), I6 (IntKind.wrap .i64 ((↑(clampP p) : Int) * (↑(clampP s) : Int))) = I6 (n:Int), I6 (IntKind.wrap .i64 (last:Int)) = I6 (last:Int), I6 (IntKind.wrap .i64 (first:Int)) = I6 (first:Int), I6 (IntKind.wrap .i64 ((last:Int) - (first:Int))) = I6 ((last:Int) - (first:Int)), I6 (IntKind.wrap .i64 (Int.tdiv (n:Int) (4 : Int))) = I6 (↑(n / 4) : Int), (4 : Int) ≠ (0 : Int), decide ((last:Int) - (first:Int) < (↑(n / 4) : Int)) = false, decide ((last:Int) - (first:Int) < 1) = false, I6 (IntKind.wrap .i64 (4 * (n:Int))) = I6 (↑(4 * n) : Int), decide ((last:Int) - (first:Int) > (↑(4 * n) : Int)) = false, I6 ((last:Int) - (first:Int)) = I6 (r:Int)] (by kernel_rfl) (ac (c1) (ac (c2) (ac (cg (w_i64 hi (by omega) (by omega))) (ac (cg (w_i64 rfl (by omega) (by omega))) (ac (cg (w_i64 rfl (by omega) (by omega))) (ac (cg (w_i64 rfl (by omega) (by omega))) (ac (cg (w_i64 rfl (by omega) (by omega))) (ac (by omega) (ac (decide_eq_false (by omega)) (ac (decide_eq_false (by omega)) (ac (cg (w_i64 rfl (by omega) (by omega))) (ac (decide_eq_false (by omega)) (ao ?_)))))))))))))
        refine congrArg (PV.int .i64) ?_
        rw [← h3]; unfold mn mx; (repeat' split) <;> omega
theorem nextN_eq {t u n l : Nat} (hn : 0 < n) (hu : u < W256) (hu0 : 0 < u) : nextN t u n l = if t * l / n = 0 then (if u < 1 then u else 1) else if u < t * l / n then u else t * l / n := by
  unfold nextN
  by_cases h1 : n ≤ t * l / W256
  · have h2 : W256 ≤ t * l / n := by
      rw [Nat.le_div_iff_mul_le hn]
      rw [Nat.le_div_iff_mul_le W256_pos] at h1
      rw [Nat.mul_comm]
      exact h1
    have h3 := W256_pos
    rw [if_pos h1, if_neg (by omega), if_pos (by omega)]
  · rw [if_neg h1]
    by_cases h2 : t * l / n = 0
    · rw [if_pos h2, if_pos h2]
      rw [if_neg (by omega)]
    · rw [if_neg h2, if_neg h2]
theorem pc_rNext {na : Bool} {t u first last : Nat} (p s : Int) (ht : t < W256) (hu : u < W256) (hu0 : 0 < u) (hf : first < 4294967296) (hl : last < 4294967296) : PC Tryz.prog G0 74 [] [bv na t, bv false u, .int .i64 p, .int .i64 s, .int .u32 first, .int .u32 last] [] (bv false (nextN t u (idealN p s) (lastedN (idealN p s) first last))) := by
  refine PC.of (fn := Tryz.f74) (c := bodyOf Tryz.f74) Tryz.func74 (by kernel_rfl) (by kernel_rfl) (by kernel_rfl) (by kernel_rfl) ?_
  have h1 := idealN_pos p s
  have h2 := idealN_le p s
  have h4 := lastedN_le (n := idealN p s) (first := first) (last := last)
  have c1 := pc_rHeld18 p
  have c2 := pc_rHeld18 s
  have c3 := pc_rLasted (p := p) (s := s) hf hl
  have e := nextN_eq (t := t) (l := lastedN (idealN p s) first last) h1 hu hu0
  rw [e]
  have hi : ((clampP p * clampP s : Nat) : Int) = ((idealN p s : Nat) : Int) := rfl
  generalize hll : lastedN (idealN p s) first last = l at *
  generalize idealN p s = n at *
  have n1 : nd t ≤ 16 := nd_W256.2 ht
  have n2 : nd l ≤ 3 := nd_small (by omega)
  have n3 : nd n ≤ 3 := nd_small (by omega)
  have n4 : nd u ≤ 16 := nd_W256.2 hu
  have c4 := pc_bOf1 (w := l) (by omega)
  have c5 := pc_bOf1 (w := n) (by omega)
  have c6 := pc_bMul (na := na) (nb := false) (a := t) (b := l) (by omega) (by omega)
  have n5 : nd (t * l) ≤ 19 := by have := nd_mul t l; omega
  have c7 := pc_bQuo (na := false) (nb := false) (a := t * l) (b := n) (by omega) (by omega) h1
  have n6 : nd (t * l / n) ≤ 19 := nd_le_of_le (Nat.div_le_self _ _) n5
  have z := nd_eq_zero (v := t * l / n)
  generalize t * l / n = q at *
  by_cases h0 : q = 0
  · rw [decide_eq_true h0] at c7
    rw [if_pos h0, if_neg (by omega)]
    have c8 := pc_bLess (na := false) (nb := false) (a := u) (b := 1) (by omega) (by decide)
    have e1 : bv false 1 = .vec false (.iarr .i64 1 [1]) := by rfl
    rw [decide_eq_false (by omega), e1] at c8
    rw [e1]
    have z0 := z.2 h0
    refine W.ret [(5, aK (I6 (l:Int))), (6, aV (U6 (l:Int))), (8, Ans.call false [] [] (PV.vec false (BI (nd l) (dg l)))), (12, Ans.call false [] [] (PV.vec false (BI (nd (t * l)) (dg (t * l))))), (14, aK (I6 (↑(clampP p) : Int))), (16, aK (I6 (↑(clampP s) : Int))), (17, aV (I6 (n:Int))), (18, aV (U6 (n:Int))), (20, Ans.call false [] [] (PV.vec false (BI (nd n) (dg n)))), (21, Ans.call false [] [] (PV.tup [PV.vec true (BI (nd q) (dg q)), PV.vec (qf (t * l) n 0) (BI (nd (t * l % n)) (dg (t * l % n)))])), (29, aT), (34, aK (PV.bool false))] [] [PC Tryz.prog G0 90 [] [I6 p, I6 s, U3 (first:Int), U3 (last:Int)] [] (I6 (l:Int)), U6 (IntKind.wrap .u64 (l:Int)) = U6 (l:Int), 1 ≤ 1, PC Tryz.prog G0 20 [] [PV.vec false (B6 1 [(l:Int)])] [] (PV.vec false (BI (nd l) (dg l))), PC Tryz.prog G0 63 [] [PV.vec na (BI (nd t) (dg t)), PV.vec false (BI (nd l) (dg l))] [] (PV.vec false (BI (nd (t * l)) (dg (t * l)))), PC Tryz.prog G0 92 [] [I6 p] [] (I6 (↑(clampP p) : Int)), PC Tryz.prog G0 92 [] [I6 s] [] (I6 (↑(clampP s) : Int)), I6 (IntKind.wrap .i64 ((↑(clampP p) : Int) * (↑(clampP s) : Int))) = I6 (n:Int), U6 (IntKind.wrap .u64 (n:Int)) = U6 (n:Int), 1 ≤ 1, PC Tryz.prog G0 20 [] [PV.vec false (B6 1 [(n:Int)])] [] (PV.vec false (BI (nd n) (dg n))), PC Tryz.prog G0 91 [] [PV.vec false (BI (nd (t * l)) (dg (t * l))), PV.vec false (BI (nd n) (dg n))] [] (PV.tup [PV.vec true (BI (nd q) (dg q)), PV.vec (qf (t * l) n 0) (BI (nd (t * l % n)) (dg (t * l % n)))]), ((↑(nd q) : Int) == 0) = true, 1 ≤ 1, PC Tryz.prog G0 19 [] [PV.vec false (BI (nd u) (dg u)), PV.vec false (BI 1 [(1 : Int)])] [] (PV.bool false), 1 ≤ 1, rr (PV.vec false (BI 1 [(1 : Int)]))] (by kernel_rfl) (ac (c3) (ac (cg (w_u64 rfl (by omega) (by omega))) (ac (by omega) (ac (c4) (ac (c6) (ac (c1) (ac (c2) (ac (cg (w_i64 hi (by omega) (by omega))) (ac (cg (w_u64 rfl (by omega) (by omega))) (ac (by omega) (ac (c5) (ac (c7) (ac (decide_eq_true (by omega)) (ac (by omega) (ac (c8) (ac (by omega) (ao rfl)))))))))))))))))
  · rw [decide_eq_false h0] at c7
    rw [if_neg h0]
    have z0 : ¬ nd q = 0 := fun h => h0 (z.1 h)
    have c8 := pc_bLess (na := false) (nb := false) (a := u) (b := q) (by omega) (by omega)
    by_cases hq : u < q
    · rw [decide_eq_true hq] at c8
      rw [if_pos hq]
      refine W.ret [(5, aK (I6 (l:Int))), (6, aV (U6 (l:Int))), (8, Ans.call false [] [] (PV.vec false (BI (nd l) (dg l)))), (12, Ans.call false [] [] (PV.vec false (BI (nd (t * l)) (dg (t * l))))), (14, aK (I6 (↑(clampP p) : Int))), (16, aK (I6 (↑(clampP s) : Int))), (17, aV (I6 (n:Int))), (18, aV (U6 (n:Int))), (20, Ans.call false [] [] (PV.vec false (BI (nd n) (dg n)))), (21, Ans.call false [] [] (PV.tup [PV.vec false (BI (nd q) (dg q)), PV.vec (qf (t * l) n 0) (BI (nd (t * l % n)) (dg (t * l % n)))])), (29, aF), (32, aK (PV.bool true))] [] [PC Tryz.prog G0 90 [] [I6 p, I6 s, U3 (first:Int), U3 (last:Int)] [] (I6 (l:Int)), U6 (IntKind.wrap .u64 (l:Int)) = U6 (l:Int), 1 ≤ 1, PC Tryz.prog G0 20 [] [PV.vec false (B6 1 [(l:Int)])] [] (PV.vec false (BI (nd l) (dg l))), PC Tryz.prog G0 63 [] [PV.vec na (BI (nd t) (dg t)), PV.vec false (BI (nd l) (dg l))] [] (PV.vec false (BI (nd (t * l)) (dg (t * l)))), PC Tryz.prog G0 92 [] [I6 p] [] (I6 (↑(clampP p) : Int)), PC Tryz.prog G0 92 [] [I6 s] [] (I6 (↑(clampP s) : Int)), I6 (IntKind.wrap .i64 ((↑(clampP p) : Int) * (↑(clampP s) : Int))) = I6 (n:Int), U6 (IntKind.wrap .u64 (n:Int)) = U6 (n:Int), 1 ≤ 1, PC Tryz.prog G0 20 [] [PV.vec false (B6 1 [(n:Int)])] [] (PV.vec false (BI (nd n) (dg n))), PC Tryz.prog G0 91 [] [PV.vec false (BI (nd (t * l)) (dg (t * l))), PV.vec false (BI (nd n) (dg n))] [] (PV.tup [PV.vec false (BI (nd q) (dg q)), PV.vec (qf (t * l) n 0) (BI (nd (t * l % n)) (dg (t * l % n)))]), ((↑(nd q) : Int) == 0) = false, PC Tryz.prog G0 19 [] [PV.vec false (BI (nd u) (dg u)), PV.vec false (BI (nd q) (dg q))] [] (PV.bool true), rr (PV.vec false (BI (nd u) (dg u)))] (by kernel_rfl) (ac (c3) (ac (cg (w_u64 rfl (by omega) (by omega))) (ac (by omega) (ac (c4) (ac (c6) (ac (c1) (ac (c2) (ac (cg (w_i64 hi (by omega) (by omega))) (ac (cg (w_u64 rfl (by omega) (by omega))) (ac (by omega) (ac (c5) (ac (c7) (ac (decide_eq_false (by omega)) (ac (c8) (ao rfl)))))))))))))))
    · rw [decide_eq_false hq] at c8
      rw [if_neg hq]
      refine W.ret [(5, aK (I6 (l:Int))), (6, aV (U6 (l:Int))), (8, Ans.call false [] [] (PV.vec false (BI (nd l) (dg l)))), (12, Ans.call false [] [] (PV.vec false (BI (nd (t * l)) (dg (t * l))))), (14, aK (I6 (↑(clampP p) : Int))), (16, aK (I6 (↑(clampP s) : Int))), (17, aV (I6 (n:Int))), (18, aV (U6 (n:Int))), (20, Ans.call false [] [] (PV.vec false (BI (nd n) (dg n)))), (21, Ans.call false [] [] (PV.tup [PV.vec false (BI (nd q) (dg q)), PV.vec (qf (t * l) n 0) (BI (nd (t * l % n)) (dg (t * l % n)))])), (29, aF), (32, aK (PV.bool false))] [] [PC Tryz.prog G0 90 [] [I6 p, I6 s, U3 (first:Int), U3 (last:Int)] [] (I6 (l:Int)), U6 (IntKind.wrap .u64 (l:Int)) = U6 (l:Int), 1 ≤ 1, PC Tryz.prog G0 20 [] [PV.vec false (B6 1 [(l:Int)])] [] (PV.vec false (BI (nd l) (dg l))), PC Tryz.prog G0 63 [] [PV.vec na (BI (nd t) (dg t)), PV.vec false (BI (nd l) (dg l))] [] (PV.vec false (BI (nd (t * l)) (dg (t * l)))), PC Tryz.prog G0 92 [] [I6 p] [] (I6 (↑(clampP p) : Int)), PC Tryz.prog G0 92 [] [I6 s] [] (I6 (↑(clampP s) : Int)), I6 (IntKind.wrap .i64 ((↑(clampP p) : Int) * (↑(clampP s) : Int))) = I6 (n:Int), U6 (IntKind.wrap .u64 (n:Int)) = U6 (n:Int), 1 ≤ 1, PC Tryz.prog G0 20 [] [PV.vec false (B6 1 [(n:Int)])] [] (PV.vec false (BI (nd n) (dg n))), PC Tryz.prog G0 91 [] [PV.vec false (BI (nd (t * l)) (dg (t * l))), PV.vec false (BI (nd n) (dg n))] [] (PV.tup [PV.vec false (BI (nd q) (dg q)), PV.vec (qf (t * l) n 0) (BI (nd (t * l % n)) (dg (t * l % n)))]), ((↑(nd q) : Int) == 0) = false, PC Tryz.prog G0 19 [] [PV.vec false (BI (nd u) (dg u)), PV.vec false (BI (nd q) (dg q))] [] (PV.bool false), rr (PV.vec false (BI (nd q) (dg q)))] (by kernel_rfl) (ac (c3) (ac (cg (w_u64 rfl (by omega) (by omega))) (ac (by omega) (ac (c4) (ac (c6) (ac (c1) (ac (c2) (ac (cg (w_i64 hi (by omega) (by omega))) (ac (cg (w_u64 rfl (by omega) (by omega))) (ac (by omega) (ac (c5) (ac (c7) (ac (decide_eq_false (by omega)) (ac (c8) (ao rfl)))))))))))))))
theorem pc_rBits18N {c u first last : Nat} (p s : Int) (hc : c < 4294967296) (hu : u < 4294967296) (h : tgt c = 0 ∨ tgt u = 0) : PC Tryz.prog G0 48 [] [.int .u32 c, .int .u32 u, .int .i64 p, .int .i64 s, .int .u32 first, .int .u32 last] [] (.tup [.int .u32 0, .bool false]) := by
  refine PC.of (fn := Tryz.f48) (c := bodyOf Tryz.f48) Tryz.func48 (by kernel_rfl) (by kernel_rfl) (by kernel_rfl) (by kernel_rfl) ?_
  by_cases h1 : tgt c = 0
  · by_cases h2 : tgt u = 0
    · refine W.ret [(3, aK (PV.tup [PV.vec true (BI 0 (dg 0)), PV.bool false])), (10, aK (PV.tup [PV.vec true (BI 0 (dg 0)), PV.bool false]))] [] [PC Tryz.prog G0 18 [] [U3 (c:Int)] [] (PV.tup [PV.vec true (BI 0 (dg 0)), PV.bool false]), PC Tryz.prog G0 18 [] [U3 (u:Int)] [] (PV.tup [PV.vec true (BI 0 (dg 0)), PV.bool false]), rr (PV.tup [U3 0, PV.bool false])] (by kernel_rfl) (ac (pc_rTargetN (by first | omega | decide) (by first | omega | decide)) (ac (pc_rTargetN (by first | omega | decide) (by first | omega | decide)) (ao rfl)))
    · refine W.ret [(3, aK (PV.tup [PV.vec true (BI 0 (dg 0)), PV.bool false])), (10, Ans.call false [] [] (PV.tup [PV.vec false (BI (nd (tgt u)) (dg (tgt u))), PV.bool true]))] [] [PC Tryz.prog G0 18 [] [U3 (c:Int)] [] (PV.tup [PV.vec true (BI 0 (dg 0)), PV.bool false]), PC Tryz.prog G0 18 [] [U3 (u:Int)] [] (PV.tup [PV.vec false (BI (nd (tgt u)) (dg (tgt u))), PV.bool true]), rr (PV.tup [U3 0, PV.bool false])] (by kernel_rfl) (ac (pc_rTargetN (by first | omega | decide) (by first | omega | decide)) (ac (pc_rTargetY (by first | omega | decide) (by first | omega | decide)) (ao rfl)))
  · have h2 : tgt u = 0 := by omega
    refine W.ret [(3, Ans.call false [] [] (PV.tup [PV.vec false (BI (nd (tgt c)) (dg (tgt c))), PV.bool true])), (10, aK (PV.tup [PV.vec true (BI 0 (dg 0)), PV.bool false]))] [] [PC Tryz.prog G0 18 [] [U3 (c:Int)] [] (PV.tup [PV.vec false (BI (nd (tgt c)) (dg (tgt c))), PV.bool true]), PC Tryz.prog G0 18 [] [U3 (u:Int)] [] (PV.tup [PV.vec true (BI 0 (dg 0)), PV.bool false]), rr (PV.tup [U3 0, PV.bool false])] (by kernel_rfl) (ac (pc_rTargetY (by first | omega | decide) (by first | omega | decide)) (ac (pc_rTargetN (by first | omega | decide) (by first | omega | decide)) (ao rfl)))
theorem pc_rBits18Y {c u first last : Nat} (p s : Int) (hc : c < 4294967296) (hu : u < 4294967296) (hf : first < 4294967296) (hl : last < 4294967296) (h1 : ¬ tgt c = 0) (h2 : ¬ tgt u = 0) : PC Tryz.prog G0 48 [] [.int .u32 c, .int .u32 u, .int .i64 p, .int .i64 s, .int .u32 first, .int .u32 last] [] (.tup [.int .u32 ((cbits (nextN (tgt c) (tgt u) (idealN p s) (lastedN (idealN p s) first last)) : Nat) : Int), .bool true]) := by
  refine PC.of (fn := Tryz.f48) (c := bodyOf Tryz.f48) Tryz.func48 (by kernel_rfl) (by kernel_rfl) (by kernel_rfl) (by kernel_rfl) ?_
  have g1 := pc_rNext (na := false) p s (tgt_lt c) (tgt_lt u) (by omega) hf hl
  have g2 := pc_rBits5 (nt := false) (nextN_lt (t := tgt c) (n := idealN p s) (l := lastedN (idealN p s) first last) (tgt_lt u))
  refine W.ret [(3, Ans.call false [] [] (PV.tup [PV.vec false (BI (nd (tgt c)) (dg (tgt c))), PV.bool true])), (10, Ans.call false [] [] (PV.tup [PV.vec false (BI (nd (tgt u)) (dg (tgt u))), PV.bool true])), (28, Ans.call false [] [] (PV.vec false (BI (nd (nextN (tgt c) (tgt u) (idealN p s) (lastedN (idealN p s) first last))) (dg (nextN (tgt c) (tgt u) (idealN p s) (lastedN (idealN p s) first last)))))), (29, aK (U3 (↑(cbits (nextN (tgt c) (tgt u) (idealN p s) (lastedN (idealN p s) first last))) : Int)))] [] [PC Tryz.prog G0 18 [] [U3 (c:Int)] [] (PV.tup [PV.vec false (BI (nd (tgt c)) (dg (tgt c))), PV.bool true]), PC Tryz.prog G0 18 [] [U3 (u:Int)] [] (PV.tup [PV.vec false (BI (nd (tgt u)) (dg (tgt u))), PV.bool true]), PC Tryz.prog G0 74 [] [PV.vec false (BI (nd (tgt c)) (dg (tgt c))), PV.vec false (BI (nd (tgt u)) (dg (tgt u))), I6 p, I6 s, U3 (first:Int), U3 (last:Int)] [] (PV.vec false (BI (nd (nextN (tgt c) (tgt u) (idealN p s) (lastedN (idealN p s) first last))) (dg (nextN (tgt c) (tgt u) (idealN p s) (lastedN (idealN p s) first last))))), PC Tryz.prog G0 38 [] [PV.vec false (BI (nd (nextN (tgt c) (tgt u) (idealN p s) (lastedN (idealN p s) first last))) (dg (nextN (tgt c) (tgt u) (idealN p s) (lastedN (idealN p s) first last))))] [] (U3 (↑(cbits (nextN (tgt c) (tgt u) (idealN p s) (lastedN (idealN p s) first last))) : Int)), rr (PV.tup [U3 (↑(cbits (nextN (tgt c) (tgt u) (idealN p s) (lastedN (idealN p s) first last))) : Int), PV.bool true])] (by kernel_rfl) (ac (pc_rTargetY (by first | omega | decide) (by first | omega | decide)) (ac (pc_rTargetY (by first | omega | decide) (by first | omega | decide)) (ac (g1) (ac (g2) (ao rfl)))))
end Go.Proofs
namespace Go.Proofs
open Go Go.Pe Go.Pm
set_option maxRecDepth 100000
set_option linter.unusedVariables false
/-- a header -/
structure Hd where
  ver : Nat
  prev : List Int
  root : List Int
  time : Nat
  bits : Nat
  nonce : Nat
def Hd.pv (h : Hd) : PV := .st 68 [.int .u32 h.ver, .iarr .u8 32 h.prev, .iarr .u8 32 h.root, .int .u32 h.time, .int .u32 h.bits, .int .u32 h.nonce]
structure Hd.Ok (h : Hd) : Prop where
  ver : h.ver < 4294967296
  time : h.time < 4294967296
  bits : h.bits < 4294967296
  nonce : h.nonce < 4294967296
  prev : h.prev.length = 32
  root : h.root.length = 32
  prevB : ∀ x ∈ h.prev, 0 ≤ x ∧ x ≤ 255
  rootB : ∀ x ∈ h.root, 0 ≤ x ∧ x ≤ 255
/-- params -/
structure Prm where
  lim : Nat
  per : Int
  sp : Int
  fu : Int
  cap : Int
  gen : Hd
  sum : Nat
def Prm.pv (p : Prm) : PV := .st 77 [.int .u32 p.lim, .int .i64 p.per, .int .i64 p.sp, .int .i64 p.fu, .int .i64 p.cap, p.gen.pv, .iarr .u64 4 (uw p.sum)]
def Prm.rpv (p : Prm) : PV := .st 74 [.int .u32 p.lim, .int .i64 p.per, .int .i64 p.sp, .int .i64 p.fu, .int .i64 p.cap, p.gen.pv, bv false p.sum]
structure Prm.Ok (p : Prm) : Prop where
  lim : p.lim < 4294967296
  gen : p.gen.Ok
  sum : p.sum < W256
/-- may they be? -/
structure Prm.May (p : Prm) : Prop where
  c1 : canon p.lim = true
  c2 : canon p.gen.bits = true
  le : tgt p.gen.bits ≤ tgt p.lim
  per : 1 ≤ p.per ∧ p.per ≤ 65536
  sp : 1 ≤ p.sp ∧ p.sp ≤ 65536
  fu : 0 ≤ p.fu ∧ p.fu ≤ 4294967296
  cap : 1 ≤ p.cap ∧ p.cap ≤ 4096
theorem pc_withinT {x lo hi : Int} (h : lo ≤ x ∧ x ≤ hi) : PC Tryz.prog G0 43 [] [.int .i64 x, .int .i64 lo, .int .i64 hi] [] (.bool true) := by
  refine PC.of (fn := Tryz.f43) (c := bodyOf Tryz.f43) Tryz.func43 (by kernel_rfl) (by kernel_rfl) (by kernel_rfl) (by kernel_rfl) ?_
  refine W.ret [(3, aT), (7, aT)] [] [decide (x ≥ lo) = true, decide (x ≤ hi) = true, rr (PV.bool true)] (by kernel_rfl) (ac (decide_eq_true (by omega)) (ac (decide_eq_true (by omega)) (ao rfl)))
theorem pc_withinF {x lo hi : Int} (h : ¬ (lo ≤ x ∧ x ≤ hi)) : PC Tryz.prog G0 43 [] [.int .i64 x, .int .i64 lo, .int .i64 hi] [] (.bool false) := by
  refine PC.of (fn := Tryz.f43) (c := bodyOf Tryz.f43) Tryz.func43 (by kernel_rfl) (by kernel_rfl) (by kernel_rfl) (by kernel_rfl) ?_
  by_cases h1 : lo ≤ x
  · refine W.ret [(3, aT), (7, aF)] [] [decide (x ≥ lo) = true, decide (x ≤ hi) = false, rr (PV.bool false)] (by kernel_rfl) (ac (decide_eq_true (by omega)) (ac (decide_eq_false (by omega)) (ao rfl)))
  · refine W.ret [(3, aF)] [] [decide (x ≥ lo) = false, rr (PV.bool false)] (by kernel_rfl) (ac (decide_eq_false (by omega)) (ao rfl))
theorem pc_targetE {c : Nat} (hc : c < 4294967296) : ∃ e : Int, PC Tryz.prog G0 34 [] [.int .u32 c] [] (.tup [.iarr .u64 4 (uw (tgt c)), .int .i64 e]) := ⟨_, pc_target hc⟩
theorem cmpN_gt {a b : Nat} (h : b < a) : cmpN a b = 1 := by unfold cmpN; rw [if_neg (by omega), if_pos h]
theorem cmpN_le {a b : Nat} (h : a ≤ b) : ∃ z : Int, cmpN a b = z ∧ z ≤ 0 := ⟨_, rfl, by unfold cmpN; split <;> (try split) <;> omega⟩
set_option maxHeartbeats 4000000 in
theorem pc_checkY {p : Prm} (ho : p.Ok) (h : p.May) : PC Tryz.prog G0 23 [] [p.pv] [] (.int .i64 0) := by
  refine PC.of (fn := Tryz.f23) (c := bodyOf Tryz.f23) Tryz.func23 (by kernel_rfl) (by kernel_rfl) (by kernel_rfl) (by kernel_rfl) ?_
  obtain ⟨e1, g1⟩ := pc_targetE ho.lim
  obtain ⟨e2, g2⟩ := pc_targetE ho.gen.bits
  have g3 := pc_canon ho.lim
  have g4 := pc_canon ho.gen.bits
  rw [h.c1] at g3
  rw [h.c2] at g4
  have g5 := pc_wCmp (tgt_lt p.gen.bits) (tgt_lt p.lim)
  obtain ⟨z, hz, hz0⟩ := cmpN_le h.le
  rw [hz] at g5
  have g6 := pc_withinT h.per
  have g7 := pc_withinT h.sp
  have g8 := pc_withinT h.fu
  have g9 := pc_withinT h.cap
  refine W.ret [(4, aK (PV.tup [B6 4 (uw (tgt (Prm.lim p))), I6 e1])), (14, aK (PV.tup [B6 4 (uw (tgt (Hd.bits (Prm.gen p)))), I6 e2])), (23, aK (PV.bool true)), (29, aK (PV.bool true)), (34, aK (I6 z)), (35, aF), (39, aK (PV.bool true)), (44, aK (PV.bool true)), (49, aK (PV.bool true)), (54, aK (PV.bool true))] [] [PC Tryz.prog G0 34 [] [U3 (↑(Prm.lim p) : Int)] [] (PV.tup [B6 4 (uw (tgt (Prm.lim p))), I6 e1]), PC Tryz.prog G0 34 [] [U3 (↑(Hd.bits (Prm.gen p)) : Int)] [] (PV.tup [B6 4 (uw (tgt (Hd.bits (Prm.gen p)))), I6 e2]), PC Tryz.prog G0 16 [] [U3 (↑(Prm.lim p) : Int)] [] (PV.bool true), PC Tryz.prog G0 16 [] [U3 (↑(Hd.bits (Prm.gen p)) : Int)] [] (PV.bool true), PC Tryz.prog G0 15 [] [B6 4 (uw (tgt (Hd.bits (Prm.gen p)))), B6 4 (uw (tgt (Prm.lim p)))] [] (I6 z), decide (z > (0 : Int)) = false, PC Tryz.prog G0 43 [] [I6 (Prm.per p), I6 1, I6 65536] [] (PV.bool true), PC Tryz.prog G0 43 [] [I6 (Prm.sp p), I6 1, I6 65536] [] (PV.bool true), PC Tryz.prog G0 43 [] [I6 (Prm.fu p), I6 0, I6 4294967296] [] (PV.bool true), PC Tryz.prog G0 43 [] [I6 (Prm.cap p), I6 1, I6 4096] [] (PV.bool true), rr (I6 0)] (by kernel_rfl) (ac (g1) (ac (g2) (ac (g3) (ac (g4) (ac (g5) (ac (decide_eq_false (by omega)) (ac (g6) (ac (g7) (ac (g8) (ac (g9) (ao rfl)))))))))))
set_option maxHeartbeats 4000000 in
theorem pc_checkN {p : Prm} (ho : p.Ok) (h : ¬ p.May) : PC Tryz.prog G0 23 [] [p.pv] [] (.int .i64 1) := by
  refine PC.of (fn := Tryz.f23) (c := bodyOf Tryz.f23) Tryz.func23 (by kernel_rfl) (by kernel_rfl) (by kernel_rfl) (by kernel_rfl) ?_
  obtain ⟨e1, g1⟩ := pc_targetE ho.lim
  obtain ⟨e2, g2⟩ := pc_targetE ho.gen.bits
  have g3 := pc_canon ho.lim
  have g4 := pc_canon ho.gen.bits
  have g5 := pc_wCmp (tgt_lt p.gen.bits) (tgt_lt p.lim)
  by_cases c1 : canon p.lim = true
  · rw [c1] at g3
    by_cases c2 : canon p.gen.bits = true
    · rw [c2] at g4
      by_cases c3 : tgt p.gen.bits ≤ tgt p.lim
      · obtain ⟨z, hz, hz0⟩ := cmpN_le c3
        rw [hz] at g5
        by_cases c4 : 1 ≤ p.per ∧ p.per ≤ 65536
        · have g6 := pc_withinT c4
          by_cases c5 : 1 ≤ p.sp ∧ p.sp ≤ 65536
          · have g7 := pc_withinT c5
            by_cases c6 : 0 ≤ p.fu ∧ p.fu ≤ 4294967296
            · have g8 := pc_withinT c6
              by_cases c7 : 1 ≤ p.cap ∧ p.cap ≤ 4096
              · exact absurd ⟨c1, c2, c3, c4, c5, c6, c7⟩ h
              · have g9 := pc_withinF c7
                refine W.ret [(4, aK (PV.tup [B6 4 (uw (tgt (Prm.lim p))), I6 e1])), (14, aK (PV.tup [B6 4 (uw (tgt (Hd.bits (Prm.gen p)))), I6 e2])), (23, aK (PV.bool true)), (29, aK (PV.bool true)), (34, aK (I6 z)), (35, aF), (39, aK (PV.bool true)), (44, aK (PV.bool true)), (49, aK (PV.bool true)), (54, aK (PV.bool false))] [] [PC Tryz.prog G0 34 [] [U3 (↑(Prm.lim p) : Int)] [] (PV.tup [B6 4 (uw (tgt (Prm.lim p))), I6 e1]), PC Tryz.prog G0 34 [] [U3 (↑(Hd.bits (Prm.gen p)) : Int)] [] (PV.tup [B6 4 (uw (tgt (Hd.bits (Prm.gen p)))), I6 e2]), PC Tryz.prog G0 16 [] [U3 (↑(Prm.lim p) : Int)] [] (PV.bool true), PC Tryz.prog G0 16 [] [U3 (↑(Hd.bits (Prm.gen p)) : Int)] [] (PV.bool true), PC Tryz.prog G0 15 [] [B6 4 (uw (tgt (Hd.bits (Prm.gen p)))), B6 4 (uw (tgt (Prm.lim p)))] [] (I6 z), decide (z > (0 : Int)) = false, PC Tryz.prog G0 43 [] [I6 (Prm.per p), I6 1, I6 65536] [] (PV.bool true), PC Tryz.prog G0 43 [] [I6 (Prm.sp p), I6 1, I6 65536] [] (PV.bool true), PC Tryz.prog G0 43 [] [I6 (Prm.fu p), I6 0, I6 4294967296] [] (PV.bool true), PC Tryz.prog G0 43 [] [I6 (Prm.cap p), I6 1, I6 4096] [] (PV.bool false), rr (I6 1)] (by kernel_rfl) (ac (g1) (ac (g2) (ac (g3) (ac (g4) (ac (g5) (ac (decide_eq_false (by omega)) (ac (g6) (ac (g7) (ac (g8) (ac (g9) (ao rfl)))))))))))
            · have g8 := pc_withinF c6
              refine W.ret [(4, aK (PV.tup [B6 4 (uw (tgt (Prm.lim p))), I6 e1])), (14, aK (PV.tup [B6 4 (uw (tgt (Hd.bits (Prm.gen p)))), I6 e2])), (23, aK (PV.bool true)), (29, aK (PV.bool true)), (34, aK (I6 z)), (35, aF), (39, aK (PV.bool true)), (44, aK (PV.bool true)), (49, aK (PV.bool false))] [] [PC Tryz.prog G0 34 [] [U3 (↑(Prm.lim p) : Int)] [] (PV.tup [B6 4 (uw (tgt (Prm.lim p))), I6 e1]), PC Tryz.prog G0 34 [] [U3 (↑(Hd.bits (Prm.gen p)) : Int)] [] (PV.tup [B6 4 (uw (tgt (Hd.bits (Prm.gen p)))), I6 e2]), PC Tryz.prog G0 16 [] [U3 (↑(Prm.lim p) : Int)] [] (PV.bool true), PC Tryz.prog G0 16 [] [U3 (↑(Hd.bits (Prm.gen p)) : Int)] [] (PV.bool true), PC Tryz.prog G0 15 [] [B6 4 (uw (tgt (Hd.bits (Prm.gen p)))), B6 4 (uw (tgt (Prm.lim p)))] [] (I6 z), decide (z > (0 : Int)) = false, PC Tryz.prog G0 43 [] [I6 (Prm.per p), I6 1, I6 65536] [] (PV.bool true), PC Tryz.prog G0 43 [] [I6 (Prm.sp p), I6 1, I6 65536] [] (PV.bool true), PC Tryz.prog G0 43 [] [I6 (Prm.fu p), I6 0, I6 4294967296] [] (PV.bool false), rr (I6 1)] (by kernel_rfl) (ac (g1) (ac (g2) (ac (g3) (ac (g4) (ac (g5) (ac (decide_eq_false (by omega)) (ac (g6) (ac (g7) (ac (g8) (ao rfl))))))))))
          · have g7 := pc_withinF c5
            refine W.ret [(4, aK (PV.tup [B6 4 (uw (tgt (Prm.lim p))), I6 e1])), (14, aK (PV.tup [B6 4 (uw (tgt (Hd.bits (Prm.gen p)))), I6 e2])), (23, aK (PV.bool true)), (29, aK (PV.bool true)), (34, aK (I6 z)), (35, aF), (39, aK (PV.bool true)), (44, aK (PV.bool false))] [] [PC Tryz.prog G0 34 [] [U3 (↑(Prm.lim p) : Int)] [] (PV.tup [B6 4 (uw (tgt (Prm.lim p))), I6 e1]), PC Tryz.prog G0 34 [] [U3 (↑(Hd.bits (Prm.gen p)) : Int)] [] (PV.tup [B6 4 (uw (tgt (Hd.bits (Prm.gen p)))), I6 e2]), PC Tryz.prog G0 16 [] [U3 (↑(Prm.lim p) : Int)] [] (PV.bool true), PC Tryz.prog G0 16 [] [U3 (↑(Hd.bits (Prm.gen p)) : Int)] [] (PV.bool true), PC Tryz.prog G0 15 [] [B6 4 (uw (tgt (Hd.bits (Prm.gen p)))), B6 4 (uw (tgt (Prm.lim p)))] [] (I6 z), decide (z > (0 : Int)) = false, PC Tryz.prog G0 43 [] [I6 (Prm.per p), I6 1, I6 65536] [] (PV.bool true), PC Tryz.prog G0 43 [] [I6 (Prm.sp p), I6 1, I6 65536] [] (PV.bool false), rr (I6 1)] (by kernel_rfl) (ac (g1) (ac (g2) (ac (g3) (ac (g4) (ac (g5) (ac (decide_eq_false (by omega)) (ac (g6) (ac (g7) (ao rfl)))))))))
        · have g6 := pc_withinF c4
          refine W.ret [(4, aK (PV.tup [B6 4 (uw (tgt (Prm.lim p))), I6 e1])), (14, aK (PV.tup [B6 4 (uw (tgt (Hd.bits (Prm.gen p)))), I6 e2])), (23, aK (PV.bool true)), (29, aK (PV.bool true)), (34, aK (I6 z)), (35, aF), (39, aK (PV.bool false))] [] [PC Tryz.prog G0 34 [] [U3 (↑(Prm.lim p) : Int)] [] (PV.tup [B6 4 (uw (tgt (Prm.lim p))), I6 e1]), PC Tryz.prog G0 34 [] [U3 (↑(Hd.bits (Prm.gen p)) : Int)] [] (PV.tup [B6 4 (uw (tgt (Hd.bits (Prm.gen p)))), I6 e2]), PC Tryz.prog G0 16 [] [U3 (↑(Prm.lim p) : Int)] [] (PV.bool true), PC Tryz.prog G0 16 [] [U3 (↑(Hd.bits (Prm.gen p)) : Int)] [] (PV.bool true), PC Tryz.prog G0 15 [] [B6 4 (uw (tgt (Hd.bits (Prm.gen p)))), B6 4 (uw (tgt (Prm.lim p)))] [] (I6 z), decide (z > (0 : Int)) = false, PC Tryz.prog G0 43 [] [I6 (Prm.per p), I6 1, I6 65536] [] (PV.bool false), rr (I6 1)] (by kernel_rfl) (ac (g1) (ac (g2) (ac (g3) (ac (g4) (ac (g5) (ac (decide_eq_false (by omega)) (ac (g6) (ao rfl))))))))
      · rw [cmpN_gt (by omega)] at g5
        refine W.ret [(4, aK (PV.tup [B6 4 (uw (tgt (Prm.lim p))), I6 e1])), (14, aK (PV.tup [B6 4 (uw (tgt (Hd.bits (Prm.gen p)))), I6 e2])), (23, aK (PV.bool true)), (29, aK (PV.bool true)), (34, aK (I6 1))] [] [PC Tryz.prog G0 34 [] [U3 (↑(Prm.lim p) : Int)] [] (PV.tup [B6 4 (uw (tgt (Prm.lim p))), I6 e1]), PC Tryz.prog G0 34 [] [U3 (↑(Hd.bits (Prm.gen p)) : Int)] [] (PV.tup [B6 4 (uw (tgt (Hd.bits (Prm.gen p)))), I6 e2]), PC Tryz.prog G0 16 [] [U3 (↑(Prm.lim p) : Int)] [] (PV.bool true), PC Tryz.prog G0 16 [] [U3 (↑(Hd.bits (Prm.gen p)) : Int)] [] (PV.bool true), PC Tryz.prog G0 15 [] [B6 4 (uw (tgt (Hd.bits (Prm.gen p)))), B6 4 (uw (tgt (Prm.lim p)))] [] (I6 1), rr (I6 1)] (by kernel_rfl) (ac (g1) (ac (g2) (ac (g3) (ac (g4) (ac (g5) (ao rfl))))))
    · rw [Bool.not_eq_true] at c2
      rw [c2] at g4
      refine W.ret [(4, aK (PV.tup [B6 4 (uw (tgt (Prm.lim p))), I6 e1])), (14, aK (PV.tup [B6 4 (uw (tgt (Hd.bits (Prm.gen p)))), I6 e2])), (23, aK (PV.bool true)), (29, aK (PV.bool false))] [] [PC Tryz.prog G0 34 [] [U3 (↑(Prm.lim p) : Int)] [] (PV.tup [B6 4 (uw (tgt (Prm.lim p))), I6 e1]), PC Tryz.prog G0 34 [] [U3 (↑(Hd.bits (Prm.gen p)) : Int)] [] (PV.tup [B6 4 (uw (tgt (Hd.bits (Prm.gen p)))), I6 e2]), PC Tryz.prog G0 16 [] [U3 (↑(Prm.lim p) : Int)] [] (PV.bool true), PC Tryz.prog G0 16 [] [U3 (↑(Hd.bits (Prm.gen p)) : Int)] [] (PV.bool false), rr (I6 1)] (by kernel_rfl) (ac (g1) (ac (g2) (ac (g3) (ac (g4) (ao rfl)))))
  · rw [Bool.not_eq_true] at c1
    rw [c1] at g3
    refine W.ret [(4, aK (PV.tup [B6 4 (uw (tgt (Prm.lim p))), I6 e1])), (14, aK (PV.tup [B6 4 (uw (tgt (Hd.bits (Prm.gen p)))), I6 e2])), (23, aK (PV.bool false))] [] [PC Tryz.prog G0 34 [] [U3 (↑(Prm.lim p) : Int)] [] (PV.tup [B6 4 (uw (tgt (Prm.lim p))), I6 e1]), PC Tryz.prog G0 34 [] [U3 (↑(Hd.bits (Prm.gen p)) : Int)] [] (PV.tup [B6 4 (uw (tgt (Hd.bits (Prm.gen p)))), I6 e2]), PC Tryz.prog G0 16 [] [U3 (↑(Prm.lim p) : Int)] [] (PV.bool false), rr (I6 1)] (by kernel_rfl) (ac (g1) (ac (g2) (ac (g3) (ao rfl))))
theorem pc_canonical {c : Nat} (hc : c < 4294967296) : PC Tryz.prog G0 17 [] [.int .u32 c] [] (.bool (canon c)) := by
  refine PC.of (fn := Tryz.f17) (c := bodyOf Tryz.f17) Tryz.func17 (by kernel_rfl) (by kernel_rfl) (by kernel_rfl) (by kernel_rfl) ?_
  by_cases h : tgt c = 0
  · have g := pc_rTargetN hc h
    refine W.ret [(2, aK (PV.tup [PV.vec true (BI 0 (dg 0)), PV.bool false]))] [] [PC Tryz.prog G0 18 [] [U3 (c:Int)] [] (PV.tup [PV.vec true (BI 0 (dg 0)), PV.bool false]), PV.bool false = PV.bool (canon c)] (by kernel_rfl) (ac (g) (ao ?_))
    unfold canon
    simp [h]
  · have g := pc_rTargetY hc h
    have g2 := pc_rBits5 (nt := false) (tgt_lt c)
    refine W.ret [(2, Ans.call false [] [] (PV.tup [PV.vec false (BI (nd (tgt c)) (dg (tgt c))), PV.bool true])), (11, aK (U3 (↑(cbits (tgt c)) : Int)))] [] [PC Tryz.prog G0 18 [] [U3 (c:Int)] [] (PV.tup [PV.vec false (BI (nd (tgt c)) (dg (tgt c))), PV.bool true]), PC Tryz.prog G0 38 [] [PV.vec false (BI (nd (tgt c)) (dg (tgt c)))] [] (U3 (↑(cbits (tgt c)) : Int)), PV.bool ((↑(cbits (tgt c)) : Int) == (c:Int)) = PV.bool (canon c)] (by kernel_rfl) (ac (g) (ac (g2) (ao ?_)))
    refine congrArg PV.bool ?_
    unfold canon
    rw [Bool.eq_iff_iff]
    simp only [beq_iff_eq, Int.natCast_inj, decide_eq_true_eq]
    exact ⟨fun e => ⟨h, e⟩, fun e => e.2⟩
theorem canon_ne {c : Nat} (h : canon c = true) : ¬ tgt c = 0 := by
  unfold canon at h
  simp only [decide_eq_true_eq] at h
  exact h.1
set_option maxHeartbeats 4000000 in
theorem pc_mayY {p : Prm} (ho : p.Ok) (h : p.May) : PC Tryz.prog G0 6 [] [p.rpv] [] (.bool true) := by
  refine PC.of (fn := Tryz.f6) (c := bodyOf Tryz.f6) Tryz.func6 (by kernel_rfl) (by kernel_rfl) (by kernel_rfl) (by kernel_rfl) ?_
  have g1 := pc_rTargetY ho.lim (canon_ne h.c1)
  have g2 := pc_rTargetY ho.gen.bits (canon_ne h.c2)
  have g3 := pc_canonical ho.lim
  have g4 := pc_canonical ho.gen.bits
  rw [h.c1] at g3
  rw [h.c2] at g4
  have n1 := nd_W256.2 (tgt_lt p.lim)
  have n2 := nd_W256.2 (tgt_lt p.gen.bits)
  have g5 := pc_bLess (na := false) (nb := false) (a := tgt p.lim) (b := tgt p.gen.bits) (by omega) (by omega)
  rw [decide_eq_false (by have := h.le; omega)] at g5
  obtain ⟨q1, q2⟩ := h.per
  obtain ⟨q3, q4⟩ := h.sp
  obtain ⟨q5, q6⟩ := h.fu
  obtain ⟨q7, q8⟩ := h.cap
  refine W.ret [(4, aK (PV.bool true)), (10, aK (PV.bool true)), (16, Ans.call false [] [] (PV.tup [PV.vec false (BI (nd (tgt (Hd.bits (Prm.gen p)))) (dg (tgt (Hd.bits (Prm.gen p))))), PV.bool true])), (24, Ans.call false [] [] (PV.tup [PV.vec false (BI (nd (tgt (Prm.lim p))) (dg (tgt (Prm.lim p)))), PV.bool true])), (32, aK (PV.bool false)), (35, aT), (39, aT), (44, aT), (49, aT), (54, aT), (59, aT), (64, aT), (69, aT)] [] [PC Tryz.prog G0 17 [] [U3 (↑(Prm.lim p) : Int)] [] (PV.bool true), PC Tryz.prog G0 17 [] [U3 (↑(Hd.bits (Prm.gen p)) : Int)] [] (PV.bool true), PC Tryz.prog G0 18 [] [U3 (↑(Hd.bits (Prm.gen p)) : Int)] [] (PV.tup [PV.vec false (BI (nd (tgt (Hd.bits (Prm.gen p)))) (dg (tgt (Hd.bits (Prm.gen p))))), PV.bool true]), PC Tryz.prog G0 18 [] [U3 (↑(Prm.lim p) : Int)] [] (PV.tup [PV.vec false (BI (nd (tgt (Prm.lim p))) (dg (tgt (Prm.lim p)))), PV.bool true]), PC Tryz.prog G0 19 [] [PV.vec false (BI (nd (tgt (Prm.lim p))) (dg (tgt (Prm.lim p)))), PV.vec false (BI (nd (tgt (Hd.bits (Prm.gen p)))) (dg (tgt (Hd.bits (Prm.gen p)))))] [] (PV.bool false), decide (Prm.per p ≥ (1 : Int)) = true, decide (Prm.per p ≤ (65536 : Int)) = true, decide (Prm.sp p ≥ (1 : Int)) = true, decide (Prm.sp p ≤ (65536 : Int)) = true, decide (Prm.fu p ≥ (0 : Int)) = true, decide (Prm.fu p ≤ (4294967296 : Int)) = true, decide (Prm.cap p ≥ (1 : Int)) = true, decide (Prm.cap p ≤ (4096 : Int)) = true, rr (PV.bool true)] (by kernel_rfl) (ac (g3) (ac (g4) (ac (g2) (ac (g1) (ac (g5) (ac (decide_eq_true (by omega)) (ac (decide_eq_true (by omega)) (ac (decide_eq_true (by omega)) (ac (decide_eq_true (by omega)) (ac (decide_eq_true (by omega)) (ac (decide_eq_true (by omega)) (ac (decide_eq_true (by omega)) (ac (decide_eq_true (by omega)) (ao rfl))))))))))))))
set_option maxHeartbeats 4000000 in
theorem pc_mayN {p : Prm} (ho : p.Ok) (h : ¬ p.May) : PC Tryz.prog G0 6 [] [p.rpv] [] (.bool false) := by
  refine PC.of (fn := Tryz.f6) (c := bodyOf Tryz.f6) Tryz.func6 (by kernel_rfl) (by kernel_rfl) (by kernel_rfl) (by kernel_rfl) ?_
  have g3 := pc_canonical ho.lim
  have g4 := pc_canonical ho.gen.bits
  have n1 := nd_W256.2 (tgt_lt p.lim)
  have n2 := nd_W256.2 (tgt_lt p.gen.bits)
  have g5 := pc_bLess (na := false) (nb := false) (a := tgt p.lim) (b := tgt p.gen.bits) (by omega) (by omega)
  by_cases c1 : canon p.lim = true
  · rw [c1] at g3
    have g1 := pc_rTargetY ho.lim (canon_ne c1)
    by_cases c2 : canon p.gen.bits = true
    · rw [c2] at g4
      have g2 := pc_rTargetY ho.gen.bits (canon_ne c2)
      by_cases c3 : tgt p.gen.bits ≤ tgt p.lim
      · rw [decide_eq_false (by omega)] at g5
        by_cases c4 : 1 ≤ p.per
        · by_cases c4' : p.per ≤ 65536
          · by_cases c5 : 1 ≤ p.sp
            · by_cases c5' : p.sp ≤ 65536
              · by_cases c6 : 0 ≤ p.fu
                · by_cases c6' : p.fu ≤ 4294967296
                  · by_cases c7 : 1 ≤ p.cap
                    · by_cases c7' : p.cap ≤ 4096
                      · exact absurd ⟨c1, c2, c3, ⟨c4, c4'⟩, ⟨c5, c5'⟩, ⟨c6, c6'⟩, ⟨c7, c7'⟩⟩ h
                      · refine W.ret [(4, aK (PV.bool true)), (10, aK (PV.bool true)), (16, Ans.call false [] [] (PV.tup [PV.vec false (BI (nd (tgt (Hd.bits (Prm.gen p)))) (dg (tgt (Hd.bits (Prm.gen p))))), PV.bool true])), (24, Ans.call false [] [] (PV.tup [PV.vec false (BI (nd (tgt (Prm.lim p))) (dg (tgt (Prm.lim p)))), PV.bool true])), (32, aK (PV.bool false)), (35, aT), (39, aT), (44, aT), (49, aT), (54, aT), (59, aT), (64, aT), (69, aF)] [] [PC Tryz.prog G0 17 [] [U3 (↑(Prm.lim p) : Int)] [] (PV.bool true), PC Tryz.prog G0 17 [] [U3 (↑(Hd.bits (Prm.gen p)) : Int)] [] (PV.bool true), PC Tryz.prog G0 18 [] [U3 (↑(Hd.bits (Prm.gen p)) : Int)] [] (PV.tup [PV.vec false (BI (nd (tgt (Hd.bits (Prm.gen p)))) (dg (tgt (Hd.bits (Prm.gen p))))), PV.bool true]), PC Tryz.prog G0 18 [] [U3 (↑(Prm.lim p) : Int)] [] (PV.tup [PV.vec false (BI (nd (tgt (Prm.lim p))) (dg (tgt (Prm.lim p)))), PV.bool true]), PC Tryz.prog G0 19 [] [PV.vec false (BI (nd (tgt (Prm.lim p))) (dg (tgt (Prm.lim p)))), PV.vec false (BI (nd (tgt (Hd.bits (Prm.gen p)))) (dg (tgt (Hd.bits (Prm.gen p)))))] [] (PV.bool false), decide (Prm.per p ≥ (1 : Int)) = true, decide (Prm.per p ≤ (65536 : Int)) = true, decide (Prm.sp p ≥ (1 : Int)) = true, decide (Prm.sp p ≤ (65536 : Int)) = true, decide (Prm.fu p ≥ (0 : Int)) = true, decide (Prm.fu p ≤ (4294967296 : Int)) = true, decide (Prm.cap p ≥ (1 : Int)) = true, decide (Prm.cap p ≤ (4096 : Int)) = false, rr (PV.bool false)] (by kernel_rfl) (ac (g3) (ac (g4) (ac (g2) (ac (g1) (ac (g5) (ac (decide_eq_true (by omega)) (ac (decide_eq_true (by omega)) (ac (decide_eq_true (by omega)) (ac (decide_eq_true (by omega)) (ac (decide_eq_true (by omega)) (ac (decide_eq_true (by omega)) (ac (decide_eq_true (by omega)) (ac (decide_eq_false (by omega)) (ao rfl))))))))))))))
                    · refine W.ret [(4, aK (PV.bool true)), (10, aK (PV.bool true)), (16, Ans.call false [] [] (PV.tup [PV.vec false (BI (nd (tgt (Hd.bits (Prm.gen p)))) (dg (tgt (Hd.bits (Prm.gen p))))), PV.bool true])), (24, Ans.call false [] [] (PV.tup [PV.vec false (BI (nd (tgt (Prm.lim p))) (dg (tgt (Prm.lim p)))), PV.bool true])), (32, aK (PV.bool false)), (35, aT), (39, aT), (44, aT), (49, aT), (54, aT), (59, aT), (64, aF)] [] [PC Tryz.prog G0 17 [] [U3 (↑(Prm.lim p) : Int)] [] (PV.bool true), PC Tryz.prog G0 17 [] [U3 (↑(Hd.bits (Prm.gen p)) : Int)] [] (PV.bool true), PC Tryz.prog G0 18 [] [U3 (↑(Hd.bits (Prm.gen p)) : Int)] [] (PV.tup [PV.vec false (BI (nd (tgt (Hd.bits (Prm.gen p)))) (dg (tgt (Hd.bits (Prm.gen p))))), PV.bool true]), PC Tryz.prog G0 18 [] [U3 (↑(Prm.lim p) : Int)] [] (PV.tup [PV.vec false (BI (nd (tgt (Prm.lim p))) (dg (tgt (Prm.lim p)))), PV.bool true]), PC Tryz.prog G0 19 [] [PV.vec false (BI (nd (tgt (Prm.lim p))) (dg (tgt (Prm.lim p)))), PV.vec false (BI (nd (tgt (Hd.bits (Prm.gen p)))) (dg (tgt (Hd.bits (Prm.gen p)))))] [] (PV.bool false), decide (Prm.per p ≥ (1 : Int)) = true, decide (Prm.per p ≤ (65536 : Int)) = true, decide (Prm.sp p ≥ (1 : Int)) = true, decide (Prm.sp p ≤ (65536 : Int)) = true, decide (Prm.fu p ≥ (0 : Int)) = true, decide (Prm.fu p ≤ (4294967296 : Int)) = true, decide (Prm.cap p ≥ (1 : Int)) = false, rr (PV.bool false)] (by kernel_rfl) (ac (g3) (ac (g4) (ac (g2) (ac (g1) (ac (g5) (ac (decide_eq_true (by omega)) (ac (decide_eq_true (by omega)) (ac (decide_eq_true (by omega)) (ac (decide_eq_true (by omega)) (ac (decide_eq_true (by omega)) (ac (decide_eq_true (by omega)) (ac (decide_eq_false (by omega)) (ao rfl)))))))))))))
                  · refine W.ret [(4, aK (PV.bool true)), (10, aK (PV.bool true)), (16, Ans.call false [] [] (PV.tup [PV.vec false (BI (nd (tgt (Hd.bits (Prm.gen p)))) (dg (tgt (Hd.bits (Prm.gen p))))), PV.bool true])), (24, Ans.call false [] [] (PV.tup [PV.vec false (BI (nd (tgt (Prm.lim p))) (dg (tgt (Prm.lim p)))), PV.bool true])), (32, aK (PV.bool false)), (35, aT), (39, aT), (44, aT), (49, aT), (54, aT), (59, aF)] [] [PC Tryz.prog G0 17 [] [U3 (↑(Prm.lim p) : Int)] [] (PV.bool true), PC Tryz.prog G0 17 [] [U3 (↑(Hd.bits (Prm.gen p)) : Int)] [] (PV.bool true), PC Tryz.prog G0 18 [] [U3 (↑(Hd.bits (Prm.gen p)) : Int)] [] (PV.tup [PV.vec false (BI (nd (tgt (Hd.bits (Prm.gen p)))) (dg (tgt (Hd.bits (Prm.gen p))))), PV.bool true]), PC Tryz.prog G0 18 [] [U3 (↑(Prm.lim p) : Int)] [] (PV.tup [PV.vec false (BI (nd (tgt (Prm.lim p))) (dg (tgt (Prm.lim p)))), PV.bool true]), PC Tryz.prog G0 19 [] [PV.vec false (BI (nd (tgt (Prm.lim p))) (dg (tgt (Prm.lim p)))), PV.vec false (BI (nd (tgt (Hd.bits (Prm.gen p)))) (dg (tgt (Hd.bits (Prm.gen p)))))] [] (PV.bool false), decide (Prm.per p ≥ (1 : Int)) = true, decide (Prm.per p ≤ (65536 : Int)) = true, decide (Prm.sp p ≥ (1 : Int)) = true, decide (Prm.sp p ≤ (65536 : Int)) = true, decide (Prm.fu p ≥ (0 : Int)) = true, decide (Prm.fu p ≤ (4294967296 : Int)) = false, rr (PV.bool false)] (by kernel_rfl) (ac (g3) (ac (g4) (ac (g2) (ac (g1) (ac (g5) (ac (decide_eq_true (by omega)) (ac (decide_eq_true (by omega)) (ac (decide_eq_true (by omega)) (ac (decide_eq_true (by omega)) (ac (decide_eq_true (by omega)) (ac (decide_eq_false (by omega)) (ao rfl))))))))))))
                · refine W.ret [(4, aK (PV.bool true)), (10, aK (PV.bool true)), (16, Ans.call false [] [] (PV.tup [PV.vec false (BI (nd (tgt (Hd.bits (Prm.gen p)))) (dg (tgt (Hd.bits (Prm.gen p))))), PV.bool true])), (24, Ans.call false [] [] (PV.tup [PV.vec false (BI (nd (tgt (Prm.lim p))) (dg (tgt (Prm.lim p)))), PV.bool true])), (32, aK (PV.bool false)), (35, aT), (39, aT), (44, aT), (49, aT), (54, aF)] [] [PC Tryz.prog G0 17 [] [U3 (↑(Prm.lim p) : Int)] [] (PV.bool true), PC Tryz.prog G0 17 [] [U3 (↑(Hd.bits (Prm.gen p)) : Int)] [] (PV.bool true), PC Tryz.prog G0 18 [] [U3 (↑(Hd.bits (Prm.gen p)) : Int)] [] (PV.tup [PV.vec false (BI (nd (tgt (Hd.bits (Prm.gen p)))) (dg (tgt (Hd.bits (Prm.gen p))))), PV.bool true]), PC Tryz.prog G0 18 [] [U3 (↑(Prm.lim p) : Int)] [] (PV.tup [PV.vec false (BI (nd (tgt (Prm.lim p))) (dg (tgt (Prm.lim p)))), PV.bool true]), PC Tryz.prog G0 19 [] [PV.vec false (BI (nd (tgt (Prm.lim p))) (dg (tgt (Prm.lim p)))), PV.vec false (BI (nd (tgt (Hd.bits (Prm.gen p)))) (dg (tgt (Hd.bits (Prm.gen p)))))] [] (PV.bool false), decide (Prm.per p ≥ (1 : Int)) = true, decide (Prm.per p ≤ (65536 : Int)) = true, decide (Prm.sp p ≥ (1 : Int)) = true, decide (Prm.sp p ≤ (65536 : Int)) = true, decide (Prm.fu p ≥ (0 : Int)) = false, rr (PV.bool false)] (by kernel_rfl) (ac (g3) (ac (g4) (ac (g2) (ac (g1) (ac (g5) (ac (decide_eq_true (by omega)) (ac (decide_eq_true (by omega)) (ac (decide_eq_true (by omega)) (ac (decide_eq_true (by omega)) (ac (decide_eq_false (by omega)) (ao rfl)))))))))))
              · refine W.ret [(4, aK (PV.bool true)), (10, aK (PV.bool true)), (16, Ans.call false [] [] (PV.tup [PV.vec false (BI (nd (tgt (Hd.bits (Prm.gen p)))) (dg (tgt (Hd.bits (Prm.gen p))))), PV.bool true])), (24, Ans.call false [] [] (PV.tup [PV.vec false (BI (nd (tgt (Prm.lim p))) (dg (tgt (Prm.lim p)))), PV.bool true])), (32, aK (PV.bool false)), (35, aT), (39, aT), (44, aT), (49, aF)] [] [PC Tryz.prog G0 17 [] [U3 (↑(Prm.lim p) : Int)] [] (PV.bool true), PC Tryz.prog G0 17 [] [U3 (↑(Hd.bits (Prm.gen p)) : Int)] [] (PV.bool true), PC Tryz.prog G0 18 [] [U3 (↑(Hd.bits (Prm.gen p)) : Int)] [] (PV.tup [PV.vec false (BI (nd (tgt (Hd.bits (Prm.gen p)))) (dg (tgt (Hd.bits (Prm.gen p))))), PV.bool true]), PC Tryz.prog G0 18 [] [U3 (↑(Prm.lim p) : Int)] [] (PV.tup [PV.vec false (BI (nd (tgt (Prm.lim p))) (dg (tgt (Prm.lim p)))), PV.bool true]), PC Tryz.prog G0 19 [] [PV.vec false (BI (nd (tgt (Prm.lim p))) (dg (tgt (Prm.lim p)))), PV.vec false (BI (nd (tgt (Hd.bits (Prm.gen p)))) (dg (tgt (Hd.bits (Prm.gen p)))))] [] (PV.bool false), decide (Prm.per p ≥ (1 : Int)) = true, decide (Prm.per p ≤ (65536 : Int)) = true, decide (Prm.sp p ≥ (1 : Int)) = true, decide (Prm.sp p ≤ (65536 : Int)) = false, rr (PV.bool false)] (by kernel_rfl) (ac (g3) (ac (g4) (ac (g2) (ac (g1) (ac (g5) (ac (decide_eq_true (by omega)) (ac (decide_eq_true (by omega)) (ac (decide_eq_true (by omega)) (ac (decide_eq_false (by omega)) (ao rfl))))))))))
            · refine W.ret [(4, aK (PV.bool true)), (10, aK (PV.bool true)), (16, Ans.call false [] [] (PV.tup [PV.vec false (BI (nd (tgt (Hd.bits (Prm.gen p)))) (dg (tgt (Hd.bits (Prm.gen p))))), PV.bool true])), (24, Ans.call false [] [] (PV.tup [PV.vec false (BI (nd (tgt (Prm.lim p))) (dg (tgt (Prm.lim p)))), PV.bool true])), (32, aK (PV.bool false)), (35, aT), (39, aT), (44, aF)] [] [PC Tryz.prog G0 17 [] [U3 (↑(Prm.lim p) : Int)] [] (PV.bool true), PC Tryz.prog G0 17 [] [U3 (↑(Hd.bits (Prm.gen p)) : Int)] [] (PV.bool true), PC Tryz.prog G0 18 [] [U3 (↑(Hd.bits (Prm.gen p)) : Int)] [] (PV.tup [PV.vec false (BI (nd (tgt (Hd.bits (Prm.gen p)))) (dg (tgt (Hd.bits (Prm.gen p))))), PV.bool true]), PC Tryz.prog G0 18 [] [U3 (↑(Prm.lim p) : Int)] [] (PV.tup [PV.vec false (BI (nd (tgt (Prm.lim p))) (dg (tgt (Prm.lim p)))), PV.bool true]), PC Tryz.prog G0 19 [] [PV.vec false (BI (nd (tgt (Prm.lim p))) (dg (tgt (Prm.lim p)))), PV.vec false (BI (nd (tgt (Hd.bits (Prm.gen p)))) (dg (tgt (Hd.bits (Prm.gen p)))))] [] (PV.bool false), decide (Prm.per p ≥ (1 : Int)) = true, decide (Prm.per p ≤ (65536 : Int)) = true, decide (Prm.sp p ≥ (1 : Int)) = false, rr (PV.bool false)] (by kernel_rfl) (ac (g3) (ac (g4) (ac (g2) (ac (g1) (ac (g5) (ac (decide_eq_true (by omega)) (ac (decide_eq_true (by omega)) (ac (decide_eq_false (by omega)) (ao rfl)))))))))
          · refine W.ret [(4, aK (PV.bool true)), (10, aK (PV.bool true)), (16, Ans.call false [] [] (PV.tup [PV.vec false (BI (nd (tgt (Hd.bits (Prm.gen p)))) (dg (tgt (Hd.bits (Prm.gen p))))), PV.bool true])), (24, Ans.call false [] [] (PV.tup [PV.vec false (BI (nd (tgt (Prm.lim p))) (dg (tgt (Prm.lim p)))), PV.bool true])), (32, aK (PV.bool false)), (35, aT), (39, aF)] [] [PC Tryz.prog G0 17 [] [U3 (↑(Prm.lim p) : Int)] [] (PV.bool true), PC Tryz.prog G0 17 [] [U3 (↑(Hd.bits (Prm.gen p)) : Int)] [] (PV.bool true), PC Tryz.prog G0 18 [] [U3 (↑(Hd.bits (Prm.gen p)) : Int)] [] (PV.tup [PV.vec false (BI (nd (tgt (Hd.bits (Prm.gen p)))) (dg (tgt (Hd.bits (Prm.gen p))))), PV.bool true]), PC Tryz.prog G0 18 [] [U3 (↑(Prm.lim p) : Int)] [] (PV.tup [PV.vec false (BI (nd (tgt (Prm.lim p))) (dg (tgt (Prm.lim p)))), PV.bool true]), PC Tryz.prog G0 19 [] [PV.vec false (BI (nd (tgt (Prm.lim p))) (dg (tgt (Prm.lim p)))), PV.vec false (BI (nd (tgt (Hd.bits (Prm.gen p)))) (dg (tgt (Hd.bits (Prm.gen p)))))] [] (PV.bool false), decide (Prm.per p ≥ (1 : Int)) = true, decide (Prm.per p ≤ (65536 : Int)) = false, rr (PV.bool false)] (by kernel_rfl) (ac (g3) (ac (g4) (ac (g2) (ac (g1) (ac (g5) (ac (decide_eq_true (by omega)) (ac (decide_eq_false (by omega)) (ao rfl))))))))
        · refine W.ret [(4, aK (PV.bool true)), (10, aK (PV.bool true)), (16, Ans.call false [] [] (PV.tup [PV.vec false (BI (nd (tgt (Hd.bits (Prm.gen p)))) (dg (tgt (Hd.bits (Prm.gen p))))), PV.bool true])), (24, Ans.call false [] [] (PV.tup [PV.vec false (BI (nd (tgt (Prm.lim p))) (dg (tgt (Prm.lim p)))), PV.bool true])), (32, aK (PV.bool false)), (35, aF)] [] [PC Tryz.prog G0 17 [] [U3 (↑(Prm.lim p) : Int)] [] (PV.bool true), PC Tryz.prog G0 17 [] [U3 (↑(Hd.bits (Prm.gen p)) : Int)] [] (PV.bool true), PC Tryz.prog G0 18 [] [U3 (↑(Hd.bits (Prm.gen p)) : Int)] [] (PV.tup [PV.vec false (BI (nd (tgt (Hd.bits (Prm.gen p)))) (dg (tgt (Hd.bits (Prm.gen p))))), PV.bool true]), PC Tryz.prog G0 18 [] [U3 (↑(Prm.lim p) : Int)] [] (PV.tup [PV.vec false (BI (nd (tgt (Prm.lim p))) (dg (tgt (Prm.lim p)))), PV.bool true]), PC Tryz.prog G0 19 [] [PV.vec false (BI (nd (tgt (Prm.lim p))) (dg (tgt (Prm.lim p)))), PV.vec false (BI (nd (tgt (Hd.bits (Prm.gen p)))) (dg (tgt (Hd.bits (Prm.gen p)))))] [] (PV.bool false), decide (Prm.per p ≥ (1 : Int)) = false, rr (PV.bool false)] (by kernel_rfl) (ac (g3) (ac (g4) (ac (g2) (ac (g1) (ac (g5) (ac (decide_eq_false (by omega)) (ao rfl)))))))
      · rw [decide_eq_true (by omega)] at g5
        refine W.ret [(4, aK (PV.bool true)), (10, aK (PV.bool true)), (16, Ans.call false [] [] (PV.tup [PV.vec false (BI (nd (tgt (Hd.bits (Prm.gen p)))) (dg (tgt (Hd.bits (Prm.gen p))))), PV.bool true])), (24, Ans.call false [] [] (PV.tup [PV.vec false (BI (nd (tgt (Prm.lim p))) (dg (tgt (Prm.lim p)))), PV.bool true])), (32, aK (PV.bool true))] [] [PC Tryz.prog G0 17 [] [U3 (↑(Prm.lim p) : Int)] [] (PV.bool true), PC Tryz.prog G0 17 [] [U3 (↑(Hd.bits (Prm.gen p)) : Int)] [] (PV.bool true), PC Tryz.prog G0 18 [] [U3 (↑(Hd.bits (Prm.gen p)) : Int)] [] (PV.tup [PV.vec false (BI (nd (tgt (Hd.bits (Prm.gen p)))) (dg (tgt (Hd.bits (Prm.gen p))))), PV.bool true]), PC Tryz.prog G0 18 [] [U3 (↑(Prm.lim p) : Int)] [] (PV.tup [PV.vec false (BI (nd (tgt (Prm.lim p))) (dg (tgt (Prm.lim p)))), PV.bool true]), PC Tryz.prog G0 19 [] [PV.vec false (BI (nd (tgt (Prm.lim p))) (dg (tgt (Prm.lim p)))), PV.vec false (BI (nd (tgt (Hd.bits (Prm.gen p)))) (dg (tgt (Hd.bits (Prm.gen p)))))] [] (PV.bool true), rr (PV.bool false)] (by kernel_rfl) (ac (g3) (ac (g4) (ac (g2) (ac (g1) (ac (g5) (ao rfl))))))
    · rw [Bool.not_eq_true] at c2
      rw [c2] at g4
      refine W.ret [(4, aK (PV.bool true)), (10, aK (PV.bool false))] [] [PC Tryz.prog G0 17 [] [U3 (↑(Prm.lim p) : Int)] [] (PV.bool true), PC Tryz.prog G0 17 [] [U3 (↑(Hd.bits (Prm.gen p)) : Int)] [] (PV.bool false), rr (PV.bool false)] (by kernel_rfl) (ac (g3) (ac (g4) (ao rfl)))
  · rw [Bool.not_eq_true] at c1
    rw [c1] at g3
    refine W.ret [(4, aK (PV.bool false))] [] [PC Tryz.prog G0 17 [] [U3 (↑(Prm.lim p) : Int)] [] (PV.bool false), rr (PV.bool false)] (by kernel_rfl) (ac (g3) (ao rfl))
end Go.Proofs
namespace Go.Proofs
open Go Go.Pe Go.Pm
set_option maxRecDepth 100000
set_option linter.unusedVariables false
theorem pc_cloneB {nl : Bool} {n : Nat} (h0 : 0 < n) (hn : n ≤ 1000000000) {l : List Int} (hl : l.length = n) : PC Tryz.prog G0 87 [] [.vec false (.iarr .u8 n l)] [(1, rowB n l)] (.ref 1 [] 1 0 n) := by
  refine PC.of (fn := Tryz.f87) (c := bodyOf Tryz.f87) Tryz.func87 (by kernel_rfl) (by kernel_rfl) (by kernel_rfl) (by kernel_rfl) ?_
  refine W.ret [(5, Ans.vu (PV.ref 144 [] 1 0 n) [(112, none), (144, some (Row.mk (B8 n l) false))])] [(144, 1)] [([(112, none), (144, some (Row.mk (B8 (0 + n) l) false))] : List (Nat × Option Row)) = [(112, none), (144, some (Row.mk (B8 n l) false))], PV.ref 144 [] 1 0 (0 + n) = PV.ref 144 [] 1 0 n, rr (0), (0 + n) * 1 ≤ 140737488355328, 0 + n ≤ 9223372036854775807, rr (B8 n l), rr (PV.ref 1 [] 1 0 n)] (by kernel_rfl) (ac (by simp only [Nat.zero_add]) (ac (by simp only [Nat.zero_add]) (ac rfl (ac (by omega) (ac (by omega) (ac rfl (ao rfl)))))))
/-- a writer -/
def wrN : Row := ⟨.st 1 [.vec true (.iarr .u8 0 [])], false⟩
def wrR (i n : Nat) : Row := ⟨.st 1 [.ref i [] 1 0 n], false⟩
theorem pc_wrNew : PC Tryz.prog G0 67 [] [] [(1, wrN)] (.at 1 []) := by
  refine PC.of (fn := Tryz.f67) (c := bodyOf Tryz.f67) Tryz.func67 (by kernel_rfl) (by kernel_rfl) (by kernel_rfl) (by kernel_rfl) ?_
  refine W.ret [] [(96, 1)] [rr (PV.st 1 [PV.vec true (B8 0 [])]), rr (PV.at 1 [])] (by kernel_rfl) (ac rfl (ao rfl))
theorem pc_wrNumN {x w : Nat} (hx : x < 18446744073709551616) (hw : w ≤ 8) (hw0 : 0 < w) : PC Tryz.prog G0 68 [(0, wrN)] [.at 0 [], .int .u64 x, .int .i64 w] [(0, wrR 2 w), (2, rowB w (le x w))] (.tup []) := by
  refine PC.of (fn := Tryz.f68) (c := bodyOf Tryz.f68) Tryz.func68 (by kernel_rfl) (by kernel_rfl) (by kernel_rfl) (by kernel_rfl) ?_
  have c1 := pc_little hx hw
  have hl := le_length x w
  generalize le x w = l at *
  refine W.ret [(7, Ans.call true [] [(1, Row.mk (B8 w l) false)] (PV.ref 1 [] 1 0 w)), (8, Ans.ups [(192, some (Row.mk (B8 w l) false))])] [(0, 0), (192, 2)] [PC Tryz.prog G0 86 [] [U6 (x:Int), I6 (w:Int)] [(1, Row.mk (B8 w l) false)] (PV.ref 1 [] 1 0 w), ([(192, some (Row.mk (B8 w (List.take w l)) false))] : List (Nat × Option Row)) = [(192, some (Row.mk (B8 w l) false))], 0 + w ≤ w, 0 < w, w * 1 ≤ 140737488355328, w ≤ 9223372036854775807, rr (PV.st 1 [PV.ref 2 [] 1 0 w]), rr (B8 w l), rr (PV.tup [])] (by kernel_rfl) (ac (c1) (ac (by rw [List.take_of_length_le (show List.length l ≤ w by omega)]) (ac (by omega) (ac (by omega) (ac (by omega) (ac (by omega) (ac rfl (ac rfl (ao rfl)))))))))
theorem pc_wrNum {x w n : Nat} {l : List Int} (hx : x < 18446744073709551616) (hw : w ≤ 8) (hl : l.length = n) (hn : n ≤ 1000000000) : PC Tryz.prog G0 68 [(0, wrR 1 n), (1, rowB n l)] [.at 0 [], .int .u64 x, .int .i64 w] [(0, wrR 2 (n + w)), (2, rowB (n + w) (l ++ le x w))] (.tup []) := by
  refine PC.of (fn := Tryz.f68) (c := bodyOf Tryz.f68) Tryz.func68 (by kernel_rfl) (by kernel_rfl) (by kernel_rfl) (by kernel_rfl) ?_
  have c1 := pc_little hx hw
  have hl2 := le_length x w
  generalize le x w = m at *
  refine W.ret [(7, Ans.call true [] [(1, Row.mk (B8 w m) false)] (PV.ref 1 [] 1 0 w)), (8, Ans.ups [(1, none), (192, some (Row.mk (B8 (n + w) (l ++ m)) false))])] [(0, 0), (1, 1), (192, 2)] [PC Tryz.prog G0 86 [] [U6 (x:Int), I6 (w:Int)] [(1, Row.mk (B8 w m) false)] (PV.ref 1 [] 1 0 w), ([(1, none), (192, some (Row.mk (B8 (n + w) (List.take n l ++ List.take w m)) false))] : List (Nat × Option Row)) = [(1, none), (192, some (Row.mk (B8 (n + w) (l ++ m)) false))], 0 + w ≤ w, 0 + n = n, (n + w) * 1 ≤ 140737488355328, n + w ≤ 9223372036854775807, rr (PV.st 1 [PV.ref 2 [] 1 0 (n + w)]), rr (B8 (n + w) (l ++ m)), rr (PV.tup [])] (by kernel_rfl) (ac (c1) (ac (by rw [List.take_of_length_le (show List.length l ≤ n by omega), List.take_of_length_le (show List.length m ≤ w by omega)]) (ac (by omega) (ac (by omega) (ac (by omega) (ac (by omega) (ac rfl (ac rfl (ao rfl)))))))))
def dsPut0 (nl : Bool) (c : Nat) (L : List PV) (n : Nat) (b : List Int) : DS := ⟨[(0, .at 0 []), (6, .vec nl (.parr 1 c bsh L)), (7, .int .i64 c), (8, .int .i64 0)], [(0, wrR 1 n), (1, rowB n b)]⟩
def dsPut (nl : Bool) (c : Nat) (L : List PV) (n : Nat) (b : List Int) (i : Nat) : DS := ⟨[(0, .at 0 []), (6, .vec nl (.parr 1 c bsh L)), (7, .int .i64 c), (8, .int .i64 i)], [(0, wrR 2 n), (2, rowB n b)]⟩
theorem W_put {nl : Bool} {l : List (Bool × Nat × List Int)} {c : Nat} {q : List Int} (hc : l.length = c) (ho : ∀ x ∈ l, BsOk x) (hq : q.length ≤ 1000000000) (hcc : c ≤ 1000000) : ∀ (k i n : Nat) (b : List Int), i + k = c → b.length = n → b ++ cat (l.drop i) = q →
    W Tryz.prog G0 Tryz.f69 [0, 1] [(0, wrR 2 q.length), (2, rowB q.length q)] (.tup []) (loopAt Tryz.f69 0) (dsPut nl c (l.map bsPV) n b i)
  | 0, i, n, b, hk, hb, hpq => by
    have e : b = q := by rw [← hpq, List.drop_of_length_le (by omega)]; simp [cat]
    subst e
    subst hb
    refine W.ret [(0, aF)] [(0, 0), (1, 1), (2, 2)] [decide ((i:Int) < (c:Int)) = false, rr (PV.st 1 [PV.ref 2 [] 1 0 (List.length b)]), rr (B8 (List.length b) b), rr (PV.tup [])] (by kernel_rfl) (ac (decide_eq_false (by omega)) (ac rfl (ac rfl (ao rfl))))
  | k + 1, i, n, b, hk, hb, hpq => by
    have hx := bs_ok ho (i := i) (by omega)
    have g := bs_get (l := l) (i := i) (by omega)
    rw [cat_drop (by omega), ← List.append_assoc] at hpq
    generalize l.getD i default = x at *
    obtain ⟨xn, xm, xl⟩ := x
    have hxl := hx.len
    dsimp only at hxl hpq
    have hlen := congrArg List.length hpq
    rw [List.length_append, List.length_append, hb, hxl] at hlen
    have hw := W_put (nl := nl) hc ho hq hcc k (i + 1) (n + xm) (b ++ xl) (by omega) (by rw [List.length_append, hb, hxl]) hpq
    generalize l.map bsPV = L at *
    generalize q.length = ql at *
    refine W.seg [(0, aT), (2, aV (PV.vec xn (B8 xm xl))), (10, Ans.ups [(2, none), (224, some (Row.mk (B8 (n + xm) (b ++ xl)) false))]), (14, aV (I6 (↑(i + 1) : Int)))] [(0, 0), (1, 1), (224, 2)] (dsPut nl c L (n + xm) (b ++ xl) (i + 1)) (todo' := loopAt Tryz.f69 0) [decide ((i:Int) < (c:Int)) = true, 0 ≤ (i:Int), (i:Int) < (c:Int), PV.vec (PV.nil? (List.getD L i PV.undef)) (B8 (PV.len (PV.els (List.getD L i PV.undef))) (PV.nums (PV.els (List.getD L i PV.undef)))) = PV.vec xn (B8 xm xl), i < c, ([(2, none), (224, some (Row.mk (B8 (n + xm) (List.take n b ++ xl)) false))] : List (Nat × Option Row)) = [(2, none), (224, some (Row.mk (B8 (n + xm) (b ++ xl)) false))], 0 + n = n, (n + xm) * 1 ≤ 140737488355328, n + xm ≤ 9223372036854775807, I6 (IntKind.wrap .i64 ((i:Int) + 1)) = I6 (↑(i + 1) : Int), rr (PV.at 0 []), rr (PV.vec nl (PV.parr 1 c (Sh.vec 1 (Sh.int IntKind.u8)) L)), rr (I6 (c:Int)), rr (I6 (↑(i + 1) : Int)), rr (PV.st 1 [PV.ref 2 [] 1 0 (n + xm)]), rr (B8 (n + xm) (b ++ xl))] (by kernel_rfl) (ac (decide_eq_true (by omega)) (ac (by omega) (ac (by omega) (ac (by (rw [g]; rfl)) (ac (by omega) (ac (by rw [List.take_of_length_le (show List.length b ≤ n by omega)]) (ac (by omega) (ac (by omega) (ac (by omega) (ac (cg (w_i64 rfl (by omega) (by omega))) (ac rfl (ac rfl (ac rfl (ac rfl (ac rfl (ao rfl)))))))))))))))) ?_
    exact hw
theorem pc_wrPut {nl : Bool} {l : List (Bool × Nat × List Int)} {c n m : Nat} {b q : List Int} (hc : l.length = c) (hc0 : 0 < c) (ho : ∀ x ∈ l, BsOk x) (hm : m ≤ 1000000000) (hcc : c ≤ 1000000) (hb : b.length = n) (hq : b ++ cat l = q) (hql : q.length = m) :
    PC Tryz.prog G0 69 [(0, wrR 1 n), (1, rowB n b)] [.at 0 [], .vec nl (.parr 1 c bsh (l.map bsPV))] [(0, wrR 2 m), (2, rowB m q)] (.tup []) := by
  refine PC.of (fn := Tryz.f69) (c := bodyOf Tryz.f69) Tryz.func69 (by kernel_rfl) (by kernel_rfl) (by kernel_rfl) (by kernel_rfl) ?_
  have hx := bs_ok ho (i := 0) (by omega)
  have g := bs_get (l := l) (i := 0) (by omega)
  have hpq : b ++ cat (l.drop 0) = q := hq
  rw [cat_drop (by omega), ← List.append_assoc] at hpq
  generalize l.getD 0 default = x at *
  obtain ⟨xn, xm, xl⟩ := x
  have hxl := hx.len
  dsimp only at hxl hpq
  have hlen := congrArg List.length hpq
  rw [List.length_append, List.length_append, hb, hxl] at hlen
  have hw := W_put (nl := nl) hc ho (by rw [hql]; exact hm) hcc (c - 1) 1 (n + xm) (b ++ xl) (by omega) (by rw [List.length_append, hb, hxl]) hpq
  rw [hql] at hw hlen
  generalize l.map bsPV = L at *
  refine W.seg [] [(0, 0), (1, 1)] (dsPut0 nl c L n b) (todo' := loopAt Tryz.f69 0) [rr (PV.at 0 []), rr (PV.vec nl (PV.parr 1 c (Sh.vec 1 (Sh.int IntKind.u8)) L)), rr (I6 (c:Int)), rr (I6 0), rr (PV.st 1 [PV.ref 1 [] 1 0 n]), rr (B8 n b)] (by kernel_rfl) (ac rfl (ac rfl (ac rfl (ac rfl (ac rfl (ao rfl)))))) ?_
  refine W.seg [(0, aT), (2, aV (PV.vec xn (B8 xm xl))), (10, Ans.ups [(1, none), (224, some (Row.mk (B8 (n + xm) (b ++ xl)) false))]), (14, aV (I6 1))] [(0, 0), (1, 1), (224, 2)] (dsPut nl c L (n + xm) (b ++ xl) 1) (todo' := loopAt Tryz.f69 0) [decide (0 < (c:Int)) = true, (0 : Int) ≤ (0 : Int), 0 < (c:Int), PV.vec (PV.nil? (List.getD L 0 PV.undef)) (B8 (PV.len (PV.els (List.getD L 0 PV.undef))) (PV.nums (PV.els (List.getD L 0 PV.undef)))) = PV.vec xn (B8 xm xl), 0 < c, ([(1, none), (224, some (Row.mk (B8 (n + xm) (List.take n b ++ xl)) false))] : List (Nat × Option Row)) = [(1, none), (224, some (Row.mk (B8 (n + xm) (b ++ xl)) false))], 0 + n = n, (n + xm) * 1 ≤ 140737488355328, n + xm ≤ 9223372036854775807, I6 (IntKind.wrap .i64 ((0 : Int) + (1 : Int))) = I6 1, rr (PV.at 0 []), rr (PV.vec nl (PV.parr 1 c (Sh.vec 1 (Sh.int IntKind.u8)) L)), rr (I6 (c:Int)), I6 1 = I6 (↑(1 : Nat) : Int), rr (PV.st 1 [PV.ref 2 [] 1 0 (n + xm)]), rr (B8 (n + xm) (b ++ xl))] (by kernel_rfl) (ac (decide_eq_true (by omega)) (ac (by omega) (ac (by omega) (ac (by (rw [g]; rfl)) (ac (by omega) (ac (by rw [List.take_of_length_le (show List.length b ≤ n by omega)]) (ac (by omega) (ac (by omega) (ac (by omega) (ac (cg (w_i64 rfl (by omega) (by omega))) (ac rfl (ac rfl (ac rfl (ac (cg (by omega)) (ac rfl (ao rfl)))))))))))))))) ?_
  exact hw
theorem pc_wrBytes {n : Nat} {l : List Int} (h0 : 0 < n) (hn : n ≤ 1000000000) (hl : l.length = n) : PC Tryz.prog G0 70 [(0, wrR 1 n), (1, rowB n l)] [.at 0 []] [(0, wrR 1 n), (1, rowB n l), (2, rowB n l)] (.ref 2 [] 1 0 n) := by
  refine PC.of (fn := Tryz.f70) (c := bodyOf Tryz.f70) Tryz.func70 (by kernel_rfl) (by kernel_rfl) (by kernel_rfl) (by kernel_rfl) ?_
  have c1 := pc_cloneB (nl := false) h0 hn hl
  refine W.ret [(5, Ans.calla true [] [] [PV.vec false (B8 n l)] [(1, Row.mk (B8 n l) false)] (PV.ref 1 [] 1 0 n))] [(0, 0), (1, 1), (145, 2)] [0 + n ≤ n, rr ([] : List (Nat × Row)), ([PV.vec false (B8 n (List.take n l))] : List PV) = [PV.vec false (B8 n l)], PC Tryz.prog G0 87 [] [PV.vec false (B8 n l)] [(1, Row.mk (B8 n l) false)] (PV.ref 1 [] 1 0 n), rr (PV.st 1 [PV.ref 1 [] 1 0 n]), rr (B8 n l), rr (B8 n l), rr (PV.ref 2 [] 1 0 n)] (by kernel_rfl) (ac (by omega) (ac rfl (ac (by rw [List.take_of_length_le (show List.length l ≤ n by omega)]) (ac (c1) (ac rfl (ac rfl (ac rfl (ao rfl))))))))
end Go.Proofs
namespace Go.Proofs
open Go Go.Pe Go.Pm
set_option maxRecDepth 100000
set_option linter.unusedVariables false
/-- a header's bytes -/
def hb (h : Hd) : List Int := (((le h.ver 4 ++ (h.prev ++ h.root)) ++ le h.time 4) ++ le h.bits 4) ++ le h.nonce 4
/-- a header's hash -/
def hhash (h : Hd) : List Int := dsha (hb h)
theorem hb_length {h : Hd} (ho : h.Ok) : (hb h).length = 80 := by
  unfold hb
  simp only [List.length_append, le_length, ho.prev, ho.root]
theorem hb_bytes {h : Hd} (ho : h.Ok) : Bytes (hb h) := by
  unfold hb
  exact (((((le_bytes _ _).append (Bytes.append ho.prevB ho.rootB)).append (le_bytes _ _)).append (le_bytes _ _)).append (le_bytes _ _))
theorem hhash_length (h : Hd) : (hhash h).length = 32 := sha_length _
theorem hhash_bytes (h : Hd) : Bytes (hhash h) := sha_bytes _
def dsHb (ns : List Int) (n : Nat) (b : List Int) (i : Nat) : DS := ⟨[(3, .at 2 []), (25, .iarr .u32 3 ns), (26, .int .i64 i)], [(2, wrR 3 n), (3, rowB n b)]⟩
set_option maxHeartbeats 4000000 in
theorem pc_hdBytes {h : Hd} (ho : h.Ok) : PC Tryz.prog G0 45 [] [h.pv] [(1, rowB 80 (hb h))] (.ref 1 [] 1 0 80) := by
  refine PC.of (fn := Tryz.f45) (c := bodyOf Tryz.f45) Tryz.func45 (by kernel_rfl) (by kernel_rfl) (by kernel_rfl) (by kernel_rfl) ?_
  have hlen := hb_length ho
  have p1 := ho.ver
  have p2 := ho.time
  have p3 := ho.bits
  have p4 := ho.nonce
  have p5 := ho.prev
  have p6 := ho.root
  have c1 := pc_wrNew
  have c2 := pc_wrNumN (x := h.ver) (w := 4) (by omega) (by omega) (by omega)
  have l1 := le_length h.ver 4
  have c3 := pc_wrPut (nl := false) (l := [(false, 32, h.prev), (false, 32, h.root)]) (c := 2) (n := 4) (m := 68) (b := le h.ver 4) (q := le h.ver 4 ++ (h.prev ++ h.root)) rfl (by omega) (by
    intro x hx
    simp only [List.mem_cons, List.not_mem_nil, or_false] at hx
    rcases hx with rfl | rfl
    · exact ⟨ho.prev, ho.prevB⟩
    · exact ⟨ho.root, ho.rootB⟩) (by omega) (by omega) l1 (by simp [cat]) (by simp only [List.length_append, l1, p5, p6])
  have l2 : (le h.ver 4 ++ (h.prev ++ h.root)).length = 68 := by simp only [List.length_append, l1, p5, p6]
  have c4 := pc_wrNum (x := h.time) (w := 4) (by omega) (by omega) l2 (by omega)
  have l3 : ((le h.ver 4 ++ (h.prev ++ h.root)) ++ le h.time 4).length = 72 := by rw [List.length_append, l2, le_length]
  have c5 := pc_wrNum (x := h.bits) (w := 4) (by omega) (by omega) l3 (by omega)
  have l4 : (((le h.ver 4 ++ (h.prev ++ h.root)) ++ le h.time 4) ++ le h.bits 4).length = 76 := by rw [List.length_append, l3, le_length]
  have c6 := pc_wrNum (x := h.nonce) (w := 4) (by omega) (by omega) l4 (by omega)
  have c7 := pc_wrBytes (n := 80) (l := hb h) (by omega) (by omega) hlen
  unfold hb at c7 hlen ⊢
  unfold bsPV at c3
  dsimp only [List.map] at c3
  generalize le h.ver 4 ++ (h.prev ++ h.root) = b1 at *
  generalize b1 ++ le h.time 4 = b2 at *
  generalize b2 ++ le h.bits 4 = b3 at *
  generalize b3 ++ le h.nonce 4 = b4 at *
  generalize le h.ver 4 = b0 at *
  obtain ⟨ver, prev, root, time, bits, nonce⟩ := h
  unfold Hd.pv
  dsimp only at *
  refine W.seg [(2, Ans.call true [] [(1, Row.mk (PV.st 1 [PV.vec true (B8 0 [])]) false)] (PV.at 1 [])), (7, aV (U6 (ver:Int))), (8, Ans.call true [(97, 0)] [(0, Row.mk (PV.st 1 [PV.ref 2 [] 1 0 4]) false), (2, Row.mk (B8 4 b0) false)] (PV.tup [])), (14, Ans.frz [64]), (15, Ans.calla true [(97, 0), (194, 1)] [(0, wrR 1 4), (1, rowB 4 b0)] [PV.at 0 [], PV.vec false (PV.parr 1 2 bsh [PV.vec false (B8 32 prev), PV.vec false (B8 32 root)])] [(0, Row.mk (PV.st 1 [PV.ref 2 [] 1 0 68]) false), (2, Row.mk (B8 68 b1) false)] (PV.tup []))] [(97, 2), (306, 3)] (dsHb [(time:Int), (bits:Int), (nonce:Int)] 68 b1 0) (todo' := loopAt Tryz.f45 0) [PC Tryz.prog G0 67 [] [] [(1, Row.mk (PV.st 1 [PV.vec true (B8 0 [])]) false)] (PV.at 1 []), U6 (IntKind.wrap .u64 (ver:Int)) = U6 (ver:Int), PC Tryz.prog G0 68 [(0, Row.mk (PV.st 1 [PV.vec true (B8 0 [])]) false)] [PV.at 0 [], U6 (ver:Int), I6 4] [(0, Row.mk (PV.st 1 [PV.ref 2 [] 1 0 4]) false), (2, Row.mk (B8 4 b0) false)] (PV.tup []), (0 : Int) ≤ (0 : Int), 0 ≤ (↑(32 : Nat) : Int), (↑(32 : Nat) : Int) ≤ (↑(32 : Nat) : Int), (0 : Int) ≤ (0 : Int), 0 ≤ (↑(32 : Nat) : Int), (↑(32 : Nat) : Int) ≤ (↑(32 : Nat) : Int), 32 ≤ 32, 32 ≤ 32, 2 ≤ 2, rr ([(0, Row.mk (PV.st 1 [PV.ref 1 [] 1 0 4]) false), (1, Row.mk (B8 4 b0) false)] : List (Nat × Row)), ([PV.at 0 [], PV.vec false (PV.parr 1 2 (Sh.vec 1 (Sh.int IntKind.u8)) [PV.vec false (B8 32 (List.take 32 prev)), PV.vec false (B8 32 (List.take 32 root))])] : List PV) = [PV.at 0 [], PV.vec false (PV.parr 1 2 (Sh.vec 1 (Sh.int IntKind.u8)) [PV.vec false (B8 32 prev), PV.vec false (B8 32 root)])], PC Tryz.prog G0 69 [(0, Row.mk (PV.st 1 [PV.ref 1 [] 1 0 4]) false), (1, Row.mk (B8 4 b0) false)] [PV.at 0 [], PV.vec false (PV.parr 1 2 (Sh.vec 1 (Sh.int IntKind.u8)) [PV.vec false (B8 32 prev), PV.vec false (B8 32 root)])] [(0, Row.mk (PV.st 1 [PV.ref 2 [] 1 0 68]) false), (2, Row.mk (B8 68 b1) false)] (PV.tup []), rr (PV.at 2 []), rr (B3 3 [(time:Int), (bits:Int), (nonce:Int)]), I6 0 = I6 (↑(0 : Nat) : Int), rr (PV.st 1 [PV.ref 3 [] 1 0 68]), rr (B8 68 b1)] (by kernel_rfl) (ac (c1) (ac (cg (w_u64 rfl (by omega) (by omega))) (ac (c2) (ac (by omega) (ac (by omega) (ac (by omega) (ac (by omega) (ac (by omega) (ac (by omega) (ac (by omega) (ac (by omega) (ac (by omega) (ac rfl (ac (by rw [List.take_of_length_le (show List.length prev ≤ 32 by omega), List.take_of_length_le (show List.length root ≤ 32 by omega)]) (ac (c3) (ac rfl (ac rfl (ac (cg (by omega)) (ac rfl (ao rfl)))))))))))))))))))) ?_
  refine W.seg [(5, aV (U6 (time:Int))), (6, Ans.call true [(2, 0), (3, 1)] [(0, Row.mk (PV.st 1 [PV.ref 2 [] 1 0 72]) false), (2, Row.mk (B8 72 b2) false)] (PV.tup [])), (7, aV (I6 1))] [(2, 2), (162, 3)] (dsHb [(time:Int), (bits:Int), (nonce:Int)] 72 b2 1) (todo' := loopAt Tryz.f45 0) [0 ≤ (↑(0 : Nat) : Int), (↑(0 : Nat) : Int) < (↑(3 : Nat) : Int), U6 (IntKind.wrap .u64 (time:Int)) = U6 (time:Int), PC Tryz.prog G0 68 [(0, Row.mk (PV.st 1 [PV.ref 1 [] 1 0 68]) false), (1, Row.mk (B8 68 b1) false)] [PV.at 0 [], U6 (time:Int), I6 4] [(0, Row.mk (PV.st 1 [PV.ref 2 [] 1 0 72]) false), (2, Row.mk (B8 72 b2) false)] (PV.tup []), I6 (IntKind.wrap .i64 ((↑(0 : Nat) : Int) + 1)) = I6 1, rr (PV.at 2 []), rr (B3 3 [(time:Int), (bits:Int), (nonce:Int)]), I6 1 = I6 (↑(1 : Nat) : Int), rr (PV.st 1 [PV.ref 3 [] 1 0 72]), rr (B8 72 b2)] (by kernel_rfl) (ac (by omega) (ac (by omega) (ac (cg (w_u64 rfl (by omega) (by omega))) (ac (c4) (ac (cg (w_i64 rfl (by omega) (by omega))) (ac rfl (ac rfl (ac (cg (by omega)) (ac rfl (ao rfl)))))))))) ?_
  refine W.seg [(5, aV (U6 (bits:Int))), (6, Ans.call true [(2, 0), (3, 1)] [(0, Row.mk (PV.st 1 [PV.ref 2 [] 1 0 76]) false), (2, Row.mk (B8 76 b3) false)] (PV.tup [])), (7, aV (I6 2))] [(2, 2), (162, 3)] (dsHb [(time:Int), (bits:Int), (nonce:Int)] 76 b3 2) (todo' := loopAt Tryz.f45 0) [0 ≤ (↑(1 : Nat) : Int), (↑(1 : Nat) : Int) < (↑(3 : Nat) : Int), U6 (IntKind.wrap .u64 (bits:Int)) = U6 (bits:Int), PC Tryz.prog G0 68 [(0, Row.mk (PV.st 1 [PV.ref 1 [] 1 0 72]) false), (1, Row.mk (B8 72 b2) false)] [PV.at 0 [], U6 (bits:Int), I6 4] [(0, Row.mk (PV.st 1 [PV.ref 2 [] 1 0 76]) false), (2, Row.mk (B8 76 b3) false)] (PV.tup []), I6 (IntKind.wrap .i64 ((↑(1 : Nat) : Int) + 1)) = I6 2, rr (PV.at 2 []), rr (B3 3 [(time:Int), (bits:Int), (nonce:Int)]), I6 2 = I6 (↑(2 : Nat) : Int), rr (PV.st 1 [PV.ref 3 [] 1 0 76]), rr (B8 76 b3)] (by kernel_rfl) (ac (by omega) (ac (by omega) (ac (cg (w_u64 rfl (by omega) (by omega))) (ac (c5) (ac (cg (w_i64 rfl (by omega) (by omega))) (ac rfl (ac rfl (ac (cg (by omega)) (ac rfl (ao rfl)))))))))) ?_
  refine W.seg [(5, aV (U6 (nonce:Int))), (6, Ans.call true [(2, 0), (3, 1)] [(0, Row.mk (PV.st 1 [PV.ref 2 [] 1 0 80]) false), (2, Row.mk (B8 80 b4) false)] (PV.tup [])), (7, aV (I6 3))] [(2, 2), (162, 3)] (dsHb [(time:Int), (bits:Int), (nonce:Int)] 80 b4 3) (todo' := loopAt Tryz.f45 0) [0 ≤ (↑(2 : Nat) : Int), (↑(2 : Nat) : Int) < (↑(3 : Nat) : Int), U6 (IntKind.wrap .u64 (nonce:Int)) = U6 (nonce:Int), PC Tryz.prog G0 68 [(0, Row.mk (PV.st 1 [PV.ref 1 [] 1 0 76]) false), (1, Row.mk (B8 76 b3) false)] [PV.at 0 [], U6 (nonce:Int), I6 4] [(0, Row.mk (PV.st 1 [PV.ref 2 [] 1 0 80]) false), (2, Row.mk (B8 80 b4) false)] (PV.tup []), I6 (IntKind.wrap .i64 ((↑(2 : Nat) : Int) + 1)) = I6 3, rr (PV.at 2 []), rr (B3 3 [(time:Int), (bits:Int), (nonce:Int)]), I6 3 = I6 (↑(3 : Nat) : Int), rr (PV.st 1 [PV.ref 3 [] 1 0 80]), rr (B8 80 b4)] (by kernel_rfl) (ac (by omega) (ac (by omega) (ac (cg (w_u64 rfl (by omega) (by omega))) (ac (c6) (ac (cg (w_i64 rfl (by omega) (by omega))) (ac rfl (ac rfl (ac (cg (by omega)) (ac rfl (ao rfl)))))))))) ?_
  refine W.ret [(2, Ans.call true [(2, 0), (3, 1)] [(0, Row.mk (PV.st 1 [PV.ref 1 [] 1 0 80]) false), (1, Row.mk (B8 80 b4) false), (2, Row.mk (B8 80 b4) false)] (PV.ref 2 [] 1 0 80))] [(98, 1)] [PC Tryz.prog G0 70 [(0, Row.mk (PV.st 1 [PV.ref 1 [] 1 0 80]) false), (1, Row.mk (B8 80 b4) false)] [PV.at 0 []] [(0, Row.mk (PV.st 1 [PV.ref 1 [] 1 0 80]) false), (1, Row.mk (B8 80 b4) false), (2, Row.mk (B8 80 b4) false)] (PV.ref 2 [] 1 0 80), rr (B8 80 b4), rr (PV.ref 1 [] 1 0 80)] (by kernel_rfl) (ac (c7) (ac rfl (ao rfl)))
theorem pc_hdHash {h : Hd} (ho : h.Ok) : PC Tryz.prog G0 24 [] [h.pv] [] (.iarr .u8 32 (hhash h)) := by
  refine PC.of (fn := Tryz.f24) (c := bodyOf Tryz.f24) Tryz.func24 (by kernel_rfl) (by kernel_rfl) (by kernel_rfl) (by kernel_rfl) ?_
  have c1 := pc_hdBytes ho
  have hl := hb_length ho
  have e : cat [(false, 80, hb h)] = hb h := by simp [cat]
  have c2 := pc_twice (nl := false) (l := [(false, 80, hb h)]) (c := 1) rfl (by intro x hx; simp at hx; subst hx; exact ⟨hl, hb_bytes ho⟩) (by rw [e]; omega) (by omega)
  rw [e] at c2
  unfold bsPV at c2
  dsimp only [List.map] at c2
  unfold hhash
  generalize dsha (hb h) = res at *
  generalize hb h = b at *
  refine W.ret [(3, Ans.call true [] [(1, Row.mk (B8 80 b) false)] (PV.ref 1 [] 1 0 80)), (4, Ans.frz [113]), (5, Ans.calla true [] [] [PV.vec false (PV.parr 1 1 bsh [PV.vec false (B8 80 b)])] [] (B8 32 res))] [] [PC Tryz.prog G0 45 [] [Hd.pv h] [(1, Row.mk (B8 80 b) false)] (PV.ref 1 [] 1 0 80), 80 ≤ 80, 1 ≤ 1, rr ([] : List (Nat × Row)), ([PV.vec false (PV.parr 1 1 (Sh.vec 1 (Sh.int IntKind.u8)) [PV.vec false (B8 80 (List.take 80 b))])] : List PV) = [PV.vec false (PV.parr 1 1 (Sh.vec 1 (Sh.int IntKind.u8)) [PV.vec false (B8 80 b)])], PC Tryz.prog G0 44 [] [PV.vec false (PV.parr 1 1 (Sh.vec 1 (Sh.int IntKind.u8)) [PV.vec false (B8 80 b)])] [] (B8 32 res), rr (B8 32 res)] (by kernel_rfl) (ac (c1) (ac (by omega) (ac (by omega) (ac rfl (ac (by rw [List.take_of_length_le (show List.length b ≤ 80 by omega)]) (ac (c2) (ao rfl)))))))
end Go.Proofs
namespace Go.Pm
/-- the number of the first k bytes -/
def lv (l : List Int) : Nat → Nat
  | 0 => 0
  | k + 1 => lv l k + at0 l k * 2 ^ (8 * k)
theorem pow8 (k : Nat) : 2 ^ (8 * (k + 1)) = 256 * 2 ^ (8 * k) := by rw [Nat.mul_add, Nat.pow_add, Nat.mul_comm]
theorem lv_lt {l : List Int} (h : Bytes l) : ∀ k, lv l k < 2 ^ (8 * k)
  | 0 => by simp [lv]
  | k + 1 => by
    have h1 := lv_lt h k
    have h2 := (h.get k).2
    have h3 : at0 l k * 2 ^ (8 * k) ≤ 255 * 2 ^ (8 * k) := Nat.mul_le_mul_right _ (by omega)
    rw [lv, pow8]
    omega
theorem lv_or {l : List Int} (h : Bytes l) (k : Nat) : lv l k ||| at0 l k * 2 ^ (8 * k) = lv l (k + 1) := by
  have h1 := lv_lt h k
  rw [lv, Nat.or_comm, Nat.mul_comm (at0 l k), ← Nat.two_pow_add_eq_or_of_lt h1, Nat.add_comm]
theorem at0_drop (l : List Int) (a i : Nat) : at0 (l.drop a) i = at0 l (a + i) := by
  unfold at0
  rw [List.getD_eq_getElem?_getD, List.getElem?_drop, List.getD_eq_getElem?_getD]
theorem at0_take {l : List Int} {a i : Nat} (h : i < a) : at0 (l.take a) i = at0 l i := by
  unfold at0
  rw [List.getD_eq_getElem?_getD, List.getElem?_take_of_lt h, List.getD_eq_getElem?_getD]
theorem lv_add (l : List Int) (a : Nat) : ∀ b, lv l (a + b) = lv l a + 2 ^ (8 * a) * lv (l.drop a) b
  | 0 => by simp [lv]
  | b + 1 => by
    rw [← Nat.add_assoc, lv, lv_add l a b, lv, at0_drop, Nat.mul_add 8 a b, Nat.pow_add, Nat.mul_add (2 ^ (8 * a)), Nat.add_assoc, Nat.mul_left_comm (at0 l (a + b))]
theorem lv_take {l : List Int} {a : Nat} : ∀ {k : Nat}, k ≤ a → lv (l.take a) k = lv l k
  | 0, _ => rfl
  | k + 1, h => by rw [lv, lv, lv_take (by omega), at0_take (by omega)]
theorem lv_digit {l : List Int} (h : Bytes l) {n k : Nat} (hk : k < n) : lv l n / 256 ^ k % 256 = at0 l k := by
  obtain ⟨m, rfl⟩ : ∃ m, n = k + (1 + m) := ⟨n - k - 1, by omega⟩
  have e : (256 : Nat) ^ k = 2 ^ (8 * k) := by rw [Nat.pow_mul]
  rw [e, lv_add, Nat.add_mul_div_left _ _ (Nat.two_pow_pos _), Nat.div_eq_of_lt (lv_lt h k), Nat.zero_add, lv_add, lv, lv, at0_drop]
  have := (h.get k).2
  simp only [Nat.mul_zero, Nat.pow_zero, Nat.mul_one, Nat.zero_add, Nat.add_zero]
  omega
theorem bdiv_digit' (v i : Nat) : v / 256 ^ (i + 1) = v / 256 ^ i / 256 := by rw [Nat.pow_succ, Nat.div_div_eq_div_mul]
theorem lv32_lt {l : List Int} (h : Bytes l) : lv l 32 < W256 := lv_lt h 32
/-- the four words of 32 bytes -/
theorem lv_uw {l : List Int} (h : Bytes l) : uw (lv l 32) = [((lv l 8 : Nat) : Int), ((lv (l.drop 8) 8 : Nat) : Int), ((lv (l.drop 16) 8 : Nat) : Int), ((lv (l.drop 24) 8 : Nat) : Int)] := by
  have e : lv l 32 = wu (lv l 8) (lv (l.drop 8) 8) (lv (l.drop 16) 8) (lv (l.drop 24) 8) := by
    have a1 := lv_add l 8 24
    have a2 := lv_add (l.drop 8) 8 16
    have a3 := lv_add (l.drop 16) 8 8
    rw [List.drop_drop] at a2 a3
    simp only [Nat.reduceAdd, Nat.reduceMul, Nat.reducePow] at a1 a2 a3
    unfold wu
    rw [a1, a2, a3]
  have b1 : ∀ n, lv (l.drop n) 8 < 18446744073709551616 := fun n => lv_lt (h.drop n) 8
  rw [e]
  exact uw_wu (b1 0) (b1 8) (b1 16) (b1 24)
def bwat (v n j : Nat) : Nat := v / 256 ^ (max n (8 * j)) % 256 ^ (8 * j + 8 - max n (8 * j))
def bwsn (v n : Nat) : List Int := [((bwat v n 0 : Nat) : Int), ((bwat v n 1 : Nat) : Int), ((bwat v n 2 : Nat) : Int), ((bwat v n 3 : Nat) : Int)]
theorem bwat_lt (v n j : Nat) : bwat v n j < 18446744073709551616 := by
  unfold bwat
  have h1 : v / 256 ^ (max n (8 * j)) % 256 ^ (8 * j + 8 - max n (8 * j)) < 256 ^ (8 * j + 8 - max n (8 * j)) := Nat.mod_lt _ (Nat.pow_pos (by omega))
  have h2 : 256 ^ (8 * j + 8 - max n (8 * j)) ≤ 256 ^ 8 := Nat.pow_le_pow_right (by omega) (by omega)
  have h3 : 256 ^ 8 = 18446744073709551616 := by decide
  omega
theorem bwat_step {v n x : Nat} (hx : v / 256 ^ n % 256 = x) : bwat v n (n / 8) = 256 * bwat v (n + 1) (n / 8) + x := by
  unfold bwat
  rw [show max n (8 * (n / 8)) = n by omega, show max (n + 1) (8 * (n / 8)) = n + 1 by omega, bdiv_digit',
    show 8 * (n / 8) + 8 - n = (8 * (n / 8) + 8 - (n + 1)) + 1 by omega, Nat.pow_succ, Nat.mul_comm (256 ^ _) 256, Nat.mod_mul, hx]
  omega
theorem bwat_other {v n j : Nat} (h : j ≠ n / 8) : bwat v n j = bwat v (n + 1) j := by
  unfold bwat
  by_cases h1 : n / 8 < j
  · rw [show max n (8 * j) = 8 * j by omega, show max (n + 1) (8 * j) = 8 * j by omega]
  · rw [show 8 * j + 8 - max n (8 * j) = 0 by omega, show 8 * j + 8 - max (n + 1) (8 * j) = 0 by omega]
    simp [Nat.mod_one]
theorem bwsn_get {v n : Nat} (hn : n < 32) : (bwsn v (n + 1)).getD (n / 8) 0 = ((bwat v (n + 1) (n / 8) : Nat) : Int) := by
  have : n / 8 = 0 ∨ n / 8 = 1 ∨ n / 8 = 2 ∨ n / 8 = 3 := by omega
  rcases this with h | h | h | h <;> rw [h] <;> rfl
theorem bwsn_set {v n x : Nat} (hn : n < 32) (hx : v / 256 ^ n % 256 = x) : (bwsn v (n + 1)).set (n / 8) ((256 * bwat v (n + 1) (n / 8) + x : Nat) : Int) = bwsn v n := by
  rw [← bwat_step hx]
  have : n / 8 = 0 ∨ n / 8 = 1 ∨ n / 8 = 2 ∨ n / 8 = 3 := by omega
  unfold bwsn
  rcases this with h | h | h | h
  · rw [bwat_other (j := 1) (n := n) (by omega), bwat_other (j := 2) (n := n) (by omega), bwat_other (j := 3) (n := n) (by omega), h]; rfl
  · rw [bwat_other (j := 0) (n := n) (by omega), bwat_other (j := 2) (n := n) (by omega), bwat_other (j := 3) (n := n) (by omega), h]; rfl
  · rw [bwat_other (j := 0) (n := n) (by omega), bwat_other (j := 1) (n := n) (by omega), bwat_other (j := 3) (n := n) (by omega), h]; rfl
  · rw [bwat_other (j := 0) (n := n) (by omega), bwat_other (j := 1) (n := n) (by omega), bwat_other (j := 2) (n := n) (by omega), h]; rfl
theorem bwsn_zero (v : Nat) : bwsn v 0 = uw v := by
  unfold bwsn bwat uw
  simp only [Nat.mul_zero, Nat.zero_max, Nat.max_self, Nat.pow_zero, Nat.div_one, Nat.zero_add, Nat.sub_zero, Nat.mul_one]
  have e : ∀ a b : Nat, v / a / b = v / (a * b) := fun a b => Nat.div_div_eq_div_mul v a b
  rw [e, e, show 8 + 8 - 8 = 8 by omega, show (256 : Nat) ^ 8 = 18446744073709551616 by decide,
    show (256 : Nat) ^ (8 * 2) = 18446744073709551616 * 18446744073709551616 by decide, show (256 : Nat) ^ (8 * 3) = 18446744073709551616 * 18446744073709551616 * 18446744073709551616 by decide]
theorem bwat_end {v n : Nat} (h : v < 256 ^ n) (j : Nat) : bwat v n j = 0 := by
  unfold bwat
  rw [Nat.div_eq_of_lt (Nat.lt_of_lt_of_le h (Nat.pow_le_pow_right (by omega) (Nat.le_max_left _ _))), Nat.zero_mod]
theorem bwsn_end {v n : Nat} (h : v < 256 ^ n) : bwsn v n = [0, 0, 0, 0] := by unfold bwsn; rw [bwat_end h, bwat_end h, bwat_end h, bwat_end h]; rfl
theorem bwat_lv {l : List Int} (h : Bytes l) {n : Nat} (hn : n < 32) : lv l 32 / 256 ^ n % 256 = at0 l n := lv_digit h hn
end Go.Pm
namespace Go.Proofs
open Go Go.Pe Go.Pm
set_option maxRecDepth 100000
set_option linter.unusedVariables false
def dsNum8 (nl : Bool) (n c : Nat) (l : List Int) (x i : Nat) : DS := ⟨[(0, .vec nl (.iarr .u8 n l)), (3, .int .u64 x), (7, .int .i64 c), (8, .int .i64 i)], []⟩
theorem W_num8 {nl : Bool} {n c : Nat} {l : List Int} (hl : l.length = n) (hb : Bytes l) (hc : c ≤ 8) (hcn : c ≤ n) : ∀ (k i x : Nat), i + k = c → x = lv l i →
    W Tryz.prog G0 Tryz.f71 [] [] (.int .u64 ((lv l c : Nat) : Int)) (loopAt Tryz.f71 0) (dsNum8 nl n c l x i)
  | 0, i, x, hk, hx => by
    have hi : i = c := by omega
    subst hi
    rw [← hx]
    refine W.ret [(0, aF)] [] [decide ((i:Int) < (i:Int)) = false, rr (U6 (x:Int))] (by kernel_rfl) (ac (decide_eq_false (by omega)) (ao rfl))
  | k + 1, i, x, hk, hx => by
    obtain ⟨e, h1⟩ := hb.get i
    have ho := lv_or hb i
    have hlt := lv_lt hb (i + 1)
    have hle : 2 ^ (8 * (i + 1)) ≤ 2 ^ 64 := Nat.pow_le_pow_right (by omega) (by omega)
    have hxl : lv l (i + 1) < 18446744073709551616 := Nat.lt_of_lt_of_le hlt hle
    have hstep : lv l (i + 1) = lv l i + at0 l i * 2 ^ (8 * i) := rfl
    rw [← hx] at ho hstep
    have hmod : at0 l i * 2 ^ (8 * i) % 18446744073709551616 = at0 l i * 2 ^ (8 * i) := Nat.mod_eq_of_lt (by omega)
    have hw := W_num8 (nl := nl) hl hb hc hcn k (i + 1) (lv l (i + 1)) (by omega) rfl
    have hxlt : x < 18446744073709551616 := by omega
    have hmodl : at0 l i * 2 ^ (8 * i) % 18446744073709551616 < 18446744073709551616 := Nat.mod_lt _ (by decide)
    have hor : ((x ||| at0 l i * 2 ^ (8 * i) % 18446744073709551616 : Nat) : Int) = ((lv l (i + 1) : Nat) : Int) := by rw [hmod, ho]
    generalize lv l (i + 1) = y at *
    generalize lv l c = z at *
    generalize at0 l i = b at *
    refine W.seg [(0, aT), (7, aV (U8 (b:Int))), (8, aV (U6 (b:Int))), (10, aV (I6 (↑(8 * i) : Int))), (11, aV (U6 (↑(b * 2 ^ (8 * i) % 18446744073709551616) : Int))), (12, aV (U6 (↑(x ||| b * 2 ^ (8 * i) % 18446744073709551616) : Int))), (13, aV (U6 (y:Int))), (14, aV (I6 (↑(i + 1) : Int)))] [] (dsNum8 nl n c l y (i + 1)) (todo' := loopAt Tryz.f71 0) [decide ((i:Int) < (c:Int)) = true, 0 ≤ (i:Int), (i:Int) < (n:Int), U8 (List.getD l i (0 : Int)) = U8 (b:Int), i < n, U6 (IntKind.wrap .u64 (b:Int)) = U6 (b:Int), I6 (IntKind.wrap .i64 (8 * (i:Int))) = I6 (↑(8 * i) : Int), U6 (IntKind.wrap .u64 ((b:Int) * (2 : Int) ^ min (Int.toNat (↑(8 * i) : Int)) 64)) = U6 (↑(b * 2 ^ (8 * i) % 18446744073709551616) : Int), 0 ≤ (↑(8 * i) : Int), U6 (bits BinOp.or IntKind.u64 (x:Int) (↑(b * 2 ^ (8 * i) % 18446744073709551616) : Int)) = U6 (↑(x ||| b * 2 ^ (8 * i) % 18446744073709551616) : Int), U6 (↑(x ||| b * 2 ^ (8 * i) % 18446744073709551616) : Int) = U6 (y:Int), I6 (IntKind.wrap .i64 ((i:Int) + 1)) = I6 (↑(i + 1) : Int), rr (PV.vec nl (B8 n l)), rr (U6 (y:Int)), rr (I6 (c:Int)), rr (I6 (↑(i + 1) : Int))] (by kernel_rfl) (ac (decide_eq_true (by omega)) (ac (by omega) (ac (by omega) (ac (cg (e)) (ac (by omega) (ac (cg (w_u64 rfl (by omega) (by omega))) (ac (cg (w_i64 rfl (by omega) (by omega))) (ac (cg (shl_u64 rfl rfl)) (ac (by omega) (ac (cg (bor_u64 rfl rfl (by omega) (by omega))) (ac (cg (hor)) (ac (cg (w_i64 rfl (by omega) (by omega))) (ac rfl (ac rfl (ac rfl (ao rfl)))))))))))))))) ?_
    exact hw
theorem pc_num8 {nl : Bool} {n : Nat} {l : List Int} (hl : l.length = n) (hb : Bytes l) : PC Tryz.prog G0 71 [] [.vec nl (.iarr .u8 n l)] [] (.int .u64 ((lv l (min n 8) : Nat) : Int)) := by
  refine PC.of (fn := Tryz.f71) (c := bodyOf Tryz.f71) Tryz.func71 (by kernel_rfl) (by kernel_rfl) (by kernel_rfl) (by kernel_rfl) ?_
  have hm : mn (n : Int) 8 = ((min n 8 : Nat) : Int) := by unfold mn; split <;> omega
  have hw := W_num8 (nl := nl) hl hb (c := min n 8) (by omega) (by omega) (min n 8) 0 0 (by omega) rfl
  generalize lv l (min n 8) = z at *
  generalize min n 8 = c at *
  refine W.seg [(4, aV (I6 (c:Int)))] [] (dsNum8 nl n c l 0 0) (todo' := loopAt Tryz.f71 0) [I6 (mn (n:Int) (8 : Int)) = I6 (c:Int), rr (PV.vec nl (B8 n l)), U6 0 = U6 (↑(0 : Nat) : Int), rr (I6 (c:Int)), I6 0 = I6 (↑(0 : Nat) : Int)] (by kernel_rfl) (ac (cg (hm)) (ac rfl (ac (cg (by omega)) (ac rfl (ao (cg (by omega))))))) ?_
  exact hw
def dsLi (b w : List Int) (i : Nat) : DS := ⟨[(1, .at 1 []), (2, .at 2 []), (3, .at 3 []), (5, .int .i64 i)], [(1, rowB 32 b), (2, ⟨.iarr .u64 4 [0, 0, 0, 0], false⟩), (3, ⟨.iarr .u64 4 w, false⟩)]⟩
set_option maxHeartbeats 4000000 in
theorem pc_wLittle {b : List Int} (hb : Bytes b) (hl : b.length = 32) : PC Tryz.prog G0 46 [] [.iarr .u8 32 b] [] (.iarr .u64 4 (uw (lv b 32))) := by
  refine PC.of (fn := Tryz.f46) (c := bodyOf Tryz.f46) Tryz.func46 (by kernel_rfl) (by kernel_rfl) (by kernel_rfl) (by kernel_rfl) ?_
  rw [lv_uw hb]
  have c : ∀ a, a + 8 ≤ 32 → PC Tryz.prog G0 71 [] [.vec false (.iarr .u8 8 ((drop0 b a).take 8))] [] (.int .u64 ((lv (b.drop a) 8 : Nat) : Int)) := fun a ha => by
    have h := pc_num8 (nl := false) (n := 8) (l := (drop0 b a).take 8) (by rw [drop0_eq, List.length_take, List.length_drop]; omega) (by rw [drop0_eq]; exact (hb.drop a).take 8)
    rw [Nat.min_self, lv_take (Nat.le_refl 8), drop0_eq] at h
    rw [drop0_eq]
    exact h
  have c0 : PC Tryz.prog G0 71 [] [.vec false (.iarr .u8 8 (b.take 8))] [] (.int .u64 ((lv b 8 : Nat) : Int)) := by
    have := c 0 (by omega)
    rw [drop0_eq] at this
    exact this
  have c1 := c 8 (by omega)
  have c2 := c 16 (by omega)
  have c3 := c 24 (by omega)
  clear c
  generalize lv b 8 = w0 at *
  generalize lv (b.drop 8) 8 = w1 at *
  generalize lv (b.drop 16) 8 = w2 at *
  generalize lv (b.drop 24) 8 = w3 at *
  refine W.seg [] [(64, 1), (80, 2), (96, 3)] (dsLi b [(0 : Int), (0 : Int), (0 : Int), (0 : Int)] 0) (todo' := loopAt Tryz.f46 0) [rr (PV.at 1 []), rr (PV.at 2 []), rr (PV.at 3 []), I6 0 = I6 (↑(0 : Nat) : Int), rr (B8 32 b), rr (B6 4 [(0 : Int), (0 : Int), (0 : Int), (0 : Int)]), rr (B6 4 [(0 : Int), (0 : Int), (0 : Int), (0 : Int)])] (by kernel_rfl) (ac rfl (ac rfl (ac rfl (ac (cg (by omega)) (ac rfl (ac rfl (ao rfl))))))) ?_
  refine W.seg [(1, aV (I6 0)), (5, aV (I6 0)), (7, aV (I6 0)), (8, aV (I6 8)), (10, aK (U6 (w0:Int))), (13, aV (I6 1))] [(1, 1), (2, 2), (3, 3)] (dsLi b [(w0:Int), (0 : Int), (0 : Int), (0 : Int)] 1) (todo' := loopAt Tryz.f46 0) [I6 (↑(0 : Nat) : Int) = I6 0, I6 (IntKind.wrap .i64 ((8 : Int) * (0 : Int))) = I6 0, I6 (IntKind.wrap .i64 ((8 : Int) * (0 : Int))) = I6 0, I6 (IntKind.wrap .i64 ((0 : Int) + (8 : Int))) = I6 8, (0 : Int) ≤ (0 : Int), (0 : Int) ≤ (8 : Int), 8 ≤ (↑(32 : Nat) : Int), 8 ≤ 32, PC Tryz.prog G0 71 [] [PV.vec false (B8 8 (List.take 8 b))] [] (U6 (w0:Int)), (0 : Int) ≤ (0 : Int), 0 < (↑(4 : Nat) : Int), 0 < 4, I6 (IntKind.wrap .i64 ((↑(0 : Nat) : Int) + 1)) = I6 1, rr (PV.at 1 []), rr (PV.at 2 []), rr (PV.at 3 []), I6 1 = I6 (↑(1 : Nat) : Int), rr (B8 32 b), rr (B6 4 [(0 : Int), (0 : Int), (0 : Int), (0 : Int)]), rr (B6 4 [(w0:Int), (0 : Int), (0 : Int), (0 : Int)])] (by kernel_rfl) (ac (cg (by omega)) (ac (cg (w_i64 rfl (by omega) (by omega))) (ac (cg (w_i64 rfl (by omega) (by omega))) (ac (cg (w_i64 rfl (by omega) (by omega))) (ac (by omega) (ac (by omega) (ac (by omega) (ac (by omega) (ac (c0) (ac (by omega) (ac (by omega) (ac (by omega) (ac (cg (w_i64 rfl (by omega) (by omega))) (ac rfl (ac rfl (ac rfl (ac (cg (by omega)) (ac rfl (ac rfl (ao rfl)))))))))))))))))))) ?_
  refine W.seg [(1, aV (I6 1)), (5, aV (I6 8)), (7, aV (I6 8)), (8, aV (I6 16)), (10, aK (U6 (w1:Int))), (13, aV (I6 2))] [(1, 1), (2, 2), (3, 3)] (dsLi b [(w0:Int), (w1:Int), (0 : Int), (0 : Int)] 2) (todo' := loopAt Tryz.f46 0) [I6 (↑(1 : Nat) : Int) = I6 1, I6 (IntKind.wrap .i64 ((8 : Int) * (1 : Int))) = I6 8, I6 (IntKind.wrap .i64 ((8 : Int) * (1 : Int))) = I6 8, I6 (IntKind.wrap .i64 ((8 : Int) + (8 : Int))) = I6 16, (0 : Int) ≤ (8 : Int), (8 : Int) ≤ (16 : Int), 16 ≤ (↑(32 : Nat) : Int), 16 ≤ 32, PC Tryz.prog G0 71 [] [PV.vec false (B8 8 (List.take 8 (drop0 b 8)))] [] (U6 (w1:Int)), (0 : Int) ≤ (1 : Int), 1 < (↑(4 : Nat) : Int), 1 < 4, I6 (IntKind.wrap .i64 ((↑(1 : Nat) : Int) + 1)) = I6 2, rr (PV.at 1 []), rr (PV.at 2 []), rr (PV.at 3 []), I6 2 = I6 (↑(2 : Nat) : Int), rr (B8 32 b), rr (B6 4 [(0 : Int), (0 : Int), (0 : Int), (0 : Int)]), rr (B6 4 [(w0:Int), (w1:Int), (0 : Int), (0 : Int)])] (by kernel_rfl) (ac (cg (by omega)) (ac (cg (w_i64 rfl (by omega) (by omega))) (ac (cg (w_i64 rfl (by omega) (by omega))) (ac (cg (w_i64 rfl (by omega) (by omega))) (ac (by omega) (ac (by omega) (ac (by omega) (ac (by omega) (ac (c1) (ac (by omega) (ac (by omega) (ac (by omega) (ac (cg (w_i64 rfl (by omega) (by omega))) (ac rfl (ac rfl (ac rfl (ac (cg (by omega)) (ac rfl (ac rfl (ao rfl)))))))))))))))))))) ?_
  refine W.seg [(1, aV (I6 2)), (5, aV (I6 16)), (7, aV (I6 16)), (8, aV (I6 24)), (10, aK (U6 (w2:Int))), (13, aV (I6 3))] [(1, 1), (2, 2), (3, 3)] (dsLi b [(w0:Int), (w1:Int), (w2:Int), (0 : Int)] 3) (todo' := loopAt Tryz.f46 0) [I6 (↑(2 : Nat) : Int) = I6 2, I6 (IntKind.wrap .i64 ((8 : Int) * (2 : Int))) = I6 16, I6 (IntKind.wrap .i64 ((8 : Int) * (2 : Int))) = I6 16, I6 (IntKind.wrap .i64 ((16 : Int) + (8 : Int))) = I6 24, (0 : Int) ≤ (16 : Int), (16 : Int) ≤ (24 : Int), 24 ≤ (↑(32 : Nat) : Int), 24 ≤ 32, PC Tryz.prog G0 71 [] [PV.vec false (B8 8 (List.take 8 (drop0 b 16)))] [] (U6 (w2:Int)), (0 : Int) ≤ (2 : Int), 2 < (↑(4 : Nat) : Int), 2 < 4, I6 (IntKind.wrap .i64 ((↑(2 : Nat) : Int) + 1)) = I6 3, rr (PV.at 1 []), rr (PV.at 2 []), rr (PV.at 3 []), I6 3 = I6 (↑(3 : Nat) : Int), rr (B8 32 b), rr (B6 4 [(0 : Int), (0 : Int), (0 : Int), (0 : Int)]), rr (B6 4 [(w0:Int), (w1:Int), (w2:Int), (0 : Int)])] (by kernel_rfl) (ac (cg (by omega)) (ac (cg (w_i64 rfl (by omega) (by omega))) (ac (cg (w_i64 rfl (by omega) (by omega))) (ac (cg (w_i64 rfl (by omega) (by omega))) (ac (by omega) (ac (by omega) (ac (by omega) (ac (by omega) (ac (c2) (ac (by omega) (ac (by omega) (ac (by omega) (ac (cg (w_i64 rfl (by omega) (by omega))) (ac rfl (ac rfl (ac rfl (ac (cg (by omega)) (ac rfl (ac rfl (ao rfl)))))))))))))))))))) ?_
  refine W.seg [(1, aV (I6 3)), (5, aV (I6 24)), (7, aV (I6 24)), (8, aV (I6 32)), (10, aK (U6 (w3:Int))), (13, aV (I6 4))] [(1, 1), (2, 2), (3, 3)] (dsLi b [(w0:Int), (w1:Int), (w2:Int), (w3:Int)] 4) (todo' := loopAt Tryz.f46 0) [I6 (↑(3 : Nat) : Int) = I6 3, I6 (IntKind.wrap .i64 ((8 : Int) * (3 : Int))) = I6 24, I6 (IntKind.wrap .i64 ((8 : Int) * (3 : Int))) = I6 24, I6 (IntKind.wrap .i64 ((24 : Int) + (8 : Int))) = I6 32, (0 : Int) ≤ (24 : Int), (24 : Int) ≤ (32 : Int), 32 ≤ (↑(32 : Nat) : Int), 32 ≤ 32, PC Tryz.prog G0 71 [] [PV.vec false (B8 8 (List.take 8 (drop0 b 24)))] [] (U6 (w3:Int)), (0 : Int) ≤ (3 : Int), 3 < (↑(4 : Nat) : Int), 3 < 4, I6 (IntKind.wrap .i64 ((↑(3 : Nat) : Int) + 1)) = I6 4, rr (PV.at 1 []), rr (PV.at 2 []), rr (PV.at 3 []), I6 4 = I6 (↑(4 : Nat) : Int), rr (B8 32 b), rr (B6 4 [(0 : Int), (0 : Int), (0 : Int), (0 : Int)]), rr (B6 4 [(w0:Int), (w1:Int), (w2:Int), (w3:Int)])] (by kernel_rfl) (ac (cg (by omega)) (ac (cg (w_i64 rfl (by omega) (by omega))) (ac (cg (w_i64 rfl (by omega) (by omega))) (ac (cg (w_i64 rfl (by omega) (by omega))) (ac (by omega) (ac (by omega) (ac (by omega) (ac (by omega) (ac (c3) (ac (by omega) (ac (by omega) (ac (by omega) (ac (cg (w_i64 rfl (by omega) (by omega))) (ac rfl (ac rfl (ac rfl (ac (cg (by omega)) (ac rfl (ac rfl (ao rfl)))))))))))))))))))) ?_
  refine W.ret [] [] [rr (B6 4 [(w0:Int), (w1:Int), (w2:Int), (w3:Int)])] (by kernel_rfl) (ao rfl)
/-- a hash's number -/
def hnum (h : Hd) : Nat := lv (hhash h) 32
def meets (h : Hd) : Bool := decide (tgt h.bits ≠ 0 ∧ hnum h ≤ tgt h.bits)
set_option maxHeartbeats 4000000 in
theorem pc_hdMeets {h : Hd} (ho : h.Ok) : PC Tryz.prog G0 25 [] [h.pv] [] (.bool (meets h)) := by
  refine PC.of (fn := Tryz.f25) (c := bodyOf Tryz.f25) Tryz.func25 (by kernel_rfl) (by kernel_rfl) (by kernel_rfl) (by kernel_rfl) ?_
  by_cases h0 : tgt h.bits = 0
  · have c1 := pc_targetN ho.bits h0
    have e : meets h = false := by unfold meets; exact decide_eq_false fun x => x.1 h0
    rw [e]
    refine W.ret [(4, aK (PV.tup [B6 4 (uw 0), I6 5]))] [] [PC Tryz.prog G0 34 [] [U3 (↑(Hd.bits h) : Int)] [] (PV.tup [B6 4 (uw 0), I6 5]), rr (PV.bool false)] (by kernel_rfl) (ac (c1) (ao rfl))
  · have c1 := pc_targetY ho.bits h0
    have c2 := pc_hdHash ho
    have c3 := pc_wLittle (hhash_bytes h) (hhash_length h)
    have hn := lv32_lt (hhash_bytes h)
    have c4 := pc_wCmp hn (tgt_lt h.bits)
    have hl := hhash_length h
    have e0 : meets h = decide (lv (hhash h) 32 ≤ tgt h.bits) := by
      unfold meets hnum
      rw [decide_eq_decide]
      exact ⟨fun x => x.2, fun x => ⟨h0, x⟩⟩
    rw [e0]
    by_cases hc : lv (hhash h) 32 ≤ tgt h.bits
    · obtain ⟨z, hz, hz0⟩ := cmpN_le hc
      rw [hz] at c4
      rw [decide_eq_true hc]
      generalize lv (hhash h) 32 = v at *
      generalize hhash h = hh at *
      refine W.ret [(4, aK (PV.tup [B6 4 (uw (tgt (Hd.bits h))), I6 0])), (15, aK (B8 32 hh)), (16, aK (B6 4 (uw v))), (18, aK (I6 z)), (19, aT)] [] [PC Tryz.prog G0 34 [] [U3 (↑(Hd.bits h) : Int)] [] (PV.tup [B6 4 (uw (tgt (Hd.bits h))), I6 0]), PC Tryz.prog G0 24 [] [Hd.pv h] [] (B8 32 hh), PC Tryz.prog G0 46 [] [B8 32 hh] [] (B6 4 (uw v)), PC Tryz.prog G0 15 [] [B6 4 (uw v), B6 4 (uw (tgt (Hd.bits h)))] [] (I6 z), decide (z ≤ (0 : Int)) = true, rr (PV.bool true)] (by kernel_rfl) (ac (c1) (ac (c2) (ac (c3) (ac (c4) (ac (decide_eq_true (by omega)) (ao rfl))))))
    · rw [cmpN_gt (by omega)] at c4
      rw [decide_eq_false hc]
      generalize lv (hhash h) 32 = v at *
      generalize hhash h = hh at *
      refine W.ret [(4, aK (PV.tup [B6 4 (uw (tgt (Hd.bits h))), I6 0])), (15, aK (B8 32 hh)), (16, aK (B6 4 (uw v))), (18, aK (I6 1))] [] [PC Tryz.prog G0 34 [] [U3 (↑(Hd.bits h) : Int)] [] (PV.tup [B6 4 (uw (tgt (Hd.bits h))), I6 0]), PC Tryz.prog G0 24 [] [Hd.pv h] [] (B8 32 hh), PC Tryz.prog G0 46 [] [B8 32 hh] [] (B6 4 (uw v)), PC Tryz.prog G0 15 [] [B6 4 (uw v), B6 4 (uw (tgt (Hd.bits h)))] [] (I6 1), rr (PV.bool false)] (by kernel_rfl) (ac (c1) (ac (c2) (ac (c3) (ac (c4) (ao rfl)))))
end Go.Proofs
namespace Go.Proofs
open Go Go.Pe Go.Pm
set_option maxRecDepth 100000
set_option linter.unusedVariables false
def dsRt (x k i : Nat) : DS := ⟨[(0, .int .u32 x), (1, .int .i64 k), (5, .int .i64 i)], []⟩
theorem W_rt {k : Nat} (hk : k ≤ 32) : ∀ (j i x : Nat), i + j = k → x < 4294967296 →
    W Tryz.prog G0 Tryz.f126 [] [] (.int .u32 ((turnN j x : Nat) : Int)) (loopAt Tryz.f126 0) (dsRt x k i)
  | 0, i, x, hj, hx => by
    rw [turnN_zero]
    refine W.ret [(2, aF)] [] [decide ((i:Int) < (k:Int)) = false, rr (U3 (x:Int))] (by kernel_rfl) (ac (decide_eq_false (by omega)) (ao rfl))
  | j + 1, i, x, hj, hx => by
    rw [turnN_succ']
    have e : turn1 x = x / 2 + 2147483648 * (x % 2) := by unfold turn1; rw [Nat.mul_comm]
    rw [e]
    have hw := W_rt hk j (i + 1) (x / 2 + 2147483648 * (x % 2)) (by omega) (by omega)
    refine W.seg [(2, aT), (4, aV (U3 (↑(x % 2) : Int))), (7, aV (U3 (↑(x / 2) : Int))), (9, aV (U3 (↑(2147483648 * (x % 2)) : Int))), (10, aV (U3 (↑(x / 2 + 2147483648 * (x % 2)) : Int))), (13, aV (I6 (↑(i + 1) : Int)))] [] (dsRt (x / 2 + 2147483648 * (x % 2)) k (i + 1)) (todo' := loopAt Tryz.f126 0) [decide ((i:Int) < (k:Int)) = true, U3 (Int.tmod (x:Int) (2 : Int)) = U3 (↑(x % 2) : Int), (2 : Int) ≠ (0 : Int), U3 (IntKind.wrap .u32 (Int.tdiv (x:Int) (2 : Int))) = U3 (↑(x / 2) : Int), (2 : Int) ≠ (0 : Int), U3 (IntKind.wrap .u32 ((↑(x % 2) : Int) * (2147483648 : Int))) = U3 (↑(2147483648 * (x % 2)) : Int), U3 (IntKind.wrap .u32 ((↑(x / 2) : Int) + (↑(2147483648 * (x % 2)) : Int))) = U3 (↑(x / 2 + 2147483648 * (x % 2)) : Int), I6 (IntKind.wrap .i64 ((i:Int) + 1)) = I6 (↑(i + 1) : Int), rr (U3 (↑(x / 2 + 2147483648 * (x % 2)) : Int)), rr (I6 (k:Int)), rr (I6 (↑(i + 1) : Int))] (by kernel_rfl) (ac (decide_eq_true (by omega)) (ac (cg rfl) (ac (by omega) (ac (cg (w_u32 rfl (by omega) (by omega))) (ac (by omega) (ac (cg (w_u32 (by omega) (by omega) (by omega))) (ac (cg (w_u32 rfl (by omega) (by omega))) (ac (cg (w_i64 rfl (by omega) (by omega))) (ac rfl (ac rfl (ao rfl))))))))))) ?_
    exact hw
theorem pc_rRight {x k : Nat} (hx : x < 4294967296) (hk : k ≤ 32) : PC Tryz.prog G0 126 [] [.int .u32 x, .int .i64 k] [] (.int .u32 ((rot x k : Nat) : Int)) := by
  refine PC.of (fn := Tryz.f126) (c := bodyOf Tryz.f126) Tryz.func126 (by kernel_rfl) (by kernel_rfl) (by kernel_rfl) (by kernel_rfl) ?_
  rw [← turnN_rot hx hk]
  have hw := W_rt hk k 0 x (by omega) hx
  generalize turnN k x = r at *
  refine W.seg [] [] (dsRt x k 0) (todo' := loopAt Tryz.f126 0) [rr (U3 (x:Int)), rr (I6 (k:Int)), I6 0 = I6 (↑(0 : Nat) : Int)] (by kernel_rfl) (ac rfl (ac rfl (ao (cg (by omega))))) ?_
  exact hw
theorem pc_rK : PC Tryz.prog G0 127 [] [] [] (.iarr .u32 64 kS) := by
  refine PC.of (fn := Tryz.f127) (c := bodyOf Tryz.f127) Tryz.func127 (by kernel_rfl) (by kernel_rfl) (by kernel_rfl) (by kernel_rfl) ?_
  refine W.ret [] [] [B3 64 [(1116352408 : Int), (1899447441 : Int), (3049323471 : Int), (3921009573 : Int), (961987163 : Int), (1508970993 : Int), (2453635748 : Int), (2870763221 : Int), (3624381080 : Int), (310598401 : Int), (607225278 : Int), (1426881987 : Int), (1925078388 : Int), (2162078206 : Int), (2614888103 : Int), (3248222580 : Int), (3835390401 : Int), (4022224774 : Int), (264347078 : Int), (604807628 : Int), (770255983 : Int), (1249150122 : Int), (1555081692 : Int), (1996064986 : Int), (2554220882 : Int), (2821834349 : Int), (2952996808 : Int), (3210313671 : Int), (3336571891 : Int), (3584528711 : Int), (113926993 : Int), (338241895 : Int), (666307205 : Int), (773529912 : Int), (1294757372 : Int), (1396182291 : Int), (1695183700 : Int), (1986661051 : Int), (2177026350 : Int), (2456956037 : Int), (2730485921 : Int), (2820302411 : Int), (3259730800 : Int), (3345764771 : Int), (3516065817 : Int), (3600352804 : Int), (4094571909 : Int), (275423344 : Int), (430227734 : Int), (506948616 : Int), (659060556 : Int), (883997877 : Int), (958139571 : Int), (1322822218 : Int), (1537002063 : Int), (1747873779 : Int), (1955562222 : Int), (2024104815 : Int), (2227730452 : Int), (2361852424 : Int), (2428436474 : Int), (2756734187 : Int), (3204031479 : Int), (3329325298 : Int)] = B3 64 kS] (by kernel_rfl) (ao rfl)
theorem pc_rFirst : PC Tryz.prog G0 112 [] [] [] (.iarr .u32 8 iv.l) := by
  refine PC.of (fn := Tryz.f112) (c := bodyOf Tryz.f112) Tryz.func112 (by kernel_rfl) (by kernel_rfl) (by kernel_rfl) (by kernel_rfl) ?_
  refine W.ret [] [] [B3 8 [(1779033703 : Int), (3144134277 : Int), (1013904242 : Int), (2773480762 : Int), (1359893119 : Int), (2600822924 : Int), (528734635 : Int), (1541459225 : Int)] = B3 8 [(↑(1779033703 : Nat) : Int), (↑(3144134277 : Nat) : Int), (↑(1013904242 : Nat) : Int), (↑(2773480762 : Nat) : Int), (↑(1359893119 : Nat) : Int), (↑(2600822924 : Nat) : Int), (↑(528734635 : Nat) : Int), (↑(1541459225 : Nat) : Int)]] (by kernel_rfl) (ao rfl)
def dsS0 (v0 : List Int) (nl : Bool) (b : List Int) : DS := ⟨[(1, .vec nl (.iarr .u8 64 b)), (2, .at 1 []), (4, .at 2 []), (5, .vec true (.iarr .u32 0 [])), (6, .int .i64 0)], [(1, row3 8 v0), (2, row3 8 z8)]⟩
def dsSA (v0 : List Int) (nl : Bool) (b w : List Int) (t : Nat) : DS := ⟨[(1, .vec nl (.iarr .u8 64 b)), (2, .at 1 []), (4, .at 2 []), (5, .ref 3 [] 1 0 t), (6, .int .i64 t)], [(1, row3 8 v0), (2, row3 8 z8), (3, row3 t w)]⟩
def dsSB (v0 : List Int) (w : List Int) (t : Nat) : DS := ⟨[(2, .at 1 []), (4, .at 2 []), (5, .ref 3 [] 1 0 t), (7, .int .i64 t)], [(1, row3 8 v0), (2, row3 8 z8), (3, row3 t w)]⟩
def dsSC (v0 S : List Int) (a b c d e f g h t : Nat) : DS := ⟨[(2, .at 1 []), (4, .at 2 []), (5, .ref 3 [] 1 0 64), (10, .at 5 []), (11, .at 4 []), (12, .int .i64 t)],
  [(1, row3 8 v0), (2, row3 8 z8), (3, row3 64 S), (5, row3 64 kS), (4, row3 8 [(a : Int), (b : Int), (c : Int), (d : Int), (e : Int), (f : Int), (g : Int), (h : Int)])]⟩
def dsSD (v0 l : List Int) (i : Nat) : DS := ⟨[(2, .at 1 []), (4, .at 2 []), (11, .at 4 []), (17, .int .i64 i)], [(1, row3 8 v0), (2, row3 8 z8), (4, row3 8 l)]⟩
theorem addV_get' (v w : V8) {i : Nat} (hi : i < 8) : (addV v w).l.getD i 0 = (((at0 w.l i + at0 v.l i) % 4294967296 : Nat) : Int) := by rw [addV_get v w hi, Nat.add_comm]
set_option maxHeartbeats 4000000 in
theorem W_sd {v w : V8} (hv : v.Ok) (hw : w.Ok) : ∀ (k i : Nat) (l : List Int), i + k = 8 → l = mix w.l (addV v w).l i →
    W Tryz.prog G0 Tryz.f113 [] [] (.iarr .u32 8 (addV v w).l) (loopAt Tryz.f113 3) (dsSD v.l l i)
  | 0, i, l, hk, hl => by
    have e : l = (addV v w).l := by rw [hl, show i = 8 by omega]; exact mix_all rfl rfl
    rw [← e]
    generalize v.l = vl at *
    refine W.ret [(1, aF)] [] [decide ((i:Int) < 8) = false, rr (B3 8 l)] (by kernel_rfl) (ac (decide_eq_false (by omega)) (ao rfl))
  | k + 1, i, l, hk, hl => by
    have hll : l.length = 8 := by rw [hl]; exact mix_length rfl rfl (by omega)
    have hset := mix_set (h := w.l) (s := (addV v w).l) (i := i) (n := 8) rfl rfl (by omega)
    rw [addV_get' v w (by omega), ← hl] at hset
    obtain ⟨e1, h1⟩ := (V8.W32 hv).get i
    obtain ⟨e2, h2⟩ := (V8.W32 hw).get i
    rw [← mix_get (h := w.l) (s := (addV v w).l) (i := i) (n := 8) rfl (by omega), ← hl] at e2
    have hvl : v.l.length = 8 := rfl
    have hadv := (W_sd hv hw k (i + 1) (l.set i (((at0 w.l i + at0 v.l i) % 4294967296 : Nat) : Int)) (by omega) hset)
    generalize at0 v.l i = x at *
    generalize at0 w.l i = y at *
    generalize v.l = vl at *
    generalize (addV v w).l = sl at *
    refine W.seg [(1, aT), (5, aV (U3 (y:Int))), (8, aV (U3 (x:Int))), (9, aV (U3 (↑((y + x) % 4294967296) : Int))), (13, aV (I6 (↑(i + 1) : Int)))] [(1, 1), (2, 2), (4, 4)] (dsSD vl (List.set l i (↑((y + x) % 4294967296) : Int)) (i + 1)) (todo' := loopAt Tryz.f113 3) [decide ((i:Int) < 8) = true, 0 ≤ (i:Int), (i:Int) < (↑(8 : Nat) : Int), U3 (List.getD l i (0 : Int)) = U3 (y:Int), i < 8, 0 ≤ (i:Int), (i:Int) < (↑(8 : Nat) : Int), U3 (List.getD vl i (0 : Int)) = U3 (x:Int), i < 8, U3 (IntKind.wrap .u32 ((y:Int) + (x:Int))) = U3 (↑((y + x) % 4294967296) : Int), 0 ≤ (i:Int), (i:Int) < (↑(8 : Nat) : Int), i < 8, I6 (IntKind.wrap .i64 ((i:Int) + 1)) = I6 (↑(i + 1) : Int), rr (PV.at 1 []), rr (PV.at 2 []), rr (PV.at 4 []), rr (I6 (↑(i + 1) : Int)), rr (B3 8 vl), rr (B3 8 (List.replicate 8 0)), rr (B3 8 (List.set l i (↑((y + x) % 4294967296) : Int)))] (by kernel_rfl) (ac (decide_eq_true (by omega)) (ac (by omega) (ac (by omega) (ac (cg (e2)) (ac (by omega) (ac (by omega) (ac (by omega) (ac (cg (e1)) (ac (by omega) (ac (cg (wm_u32 rfl)) (ac (by omega) (ac (by omega) (ac (by omega) (ac (cg (w_i64 rfl (by omega) (by omega))) (ac rfl (ac rfl (ac rfl (ac rfl (ac rfl (ac rfl (ao rfl))))))))))))))))))))) ?_
    exact hadv
set_option maxHeartbeats 8000000 in
theorem W_sc {v0 : V8} {S : List Int} (hv0 : v0.Ok) (hS : W32 S) (hSl : S.length = 64) : ∀ (n t a b c d e f g h : Nat), t + n = 64 → (V8.mk a b c d e f g h).Ok →
    W Tryz.prog G0 Tryz.f113 [] [] (.iarr .u32 8 (addV v0 (rounds kS S n t ⟨a, b, c, d, e, f, g, h⟩)).l) (loopAt Tryz.f113 2) (dsSC v0.l S a b c d e f g h t)
  | 0, t, a, b, c, d, e, f, g, h, hn, ho => by
    have hx := W_sd hv0 ho 8 0 [(a : Int), (b : Int), (c : Int), (d : Int), (e : Int), (f : Int), (g : Int), (h : Int)] rfl rfl
    rw [rounds]
    generalize (addV v0 ⟨a, b, c, d, e, f, g, h⟩).l = sl at *
    generalize hv0l : v0.l = v0l at *
    refine W.seg [(1, aF)] [(1, 1), (2, 2), (4, 4)] (dsSD v0l [(a:Int), (b:Int), (c:Int), (d:Int), (e:Int), (f:Int), (g:Int), (h:Int)] 0) (todo' := loopAt Tryz.f113 3) [decide ((t:Int) < 64) = false, rr (PV.at 1 []), rr (PV.at 2 []), rr (PV.at 4 []), I6 0 = I6 (↑(0 : Nat) : Int), rr (B3 8 v0l), rr (B3 8 (List.replicate 8 0)), rr (B3 8 [(a:Int), (b:Int), (c:Int), (d:Int), (e:Int), (f:Int), (g:Int), (h:Int)])] (by kernel_rfl) (ac (decide_eq_false (by omega)) (ac rfl (ac rfl (ac rfl (ac (cg (by omega)) (ac rfl (ac rfl (ao rfl)))))))) ?_
    exact hx
  | n + 1, t, a, b, c, d, e, f, g, h, hn, ho => by
    obtain ⟨ek, hk⟩ := kS_W32.get t
    obtain ⟨ew, hw⟩ := hS.get t
    have hkl : kS.length = 64 := rfl
    have ho2 := rd_ok ho (at0 kS t) (at0 S t)
    have hx := W_sc hv0 hS hSl n (t + 1) _ _ _ _ _ _ _ _ (by omega) ho2
    have er : rounds kS S (n + 1) t ⟨a, b, c, d, e, f, g, h⟩ = rounds kS S n (t + 1) (rd ⟨a, b, c, d, e, f, g, h⟩ (at0 kS t) (at0 S t)) := rfl
    rw [er]
    have p1 := ho.a
    have p2 := ho.b
    have p3 := ho.c
    have p4 := ho.d
    have p5 := ho.e
    have p6 := ho.f
    have p7 := ho.g
    have p8 := ho.h
    dsimp only at p1 p2 p3 p4 p5 p6 p7 p8
    unfold rd rp rq bs0 bs1 chN majN at hx ⊢
    dsimp only at hx ⊢
    have c1 := pc_rRight (k := 6) p5 (by omega)
    have c2 := pc_rRight (k := 11) p5 (by omega)
    have c3 := pc_rRight (k := 25) p5 (by omega)
    have c4 := pc_rRight (k := 2) p1 (by omega)
    have c5 := pc_rRight (k := 13) p1 (by omega)
    have c6 := pc_rRight (k := 22) p1 (by omega)
    have l1 := rot_lt (k := 6) p5
    have l2 := rot_lt (k := 11) p5
    have l3 := rot_lt (k := 25) p5
    have l4 := rot_lt (k := 2) p1
    have l5 := rot_lt (k := 13) p1
    have l6 := rot_lt (k := 22) p1
    generalize rot e 6 = e1 at *
    generalize rot e 11 = e2 at *
    generalize rot e 25 = e3 at *
    generalize rot a 2 = a1 at *
    generalize rot a 13 = a2 at *
    generalize rot a 22 = a3 at *
    have q0 : e1 ^^^ e2 < 4294967296 := Nat.xor_lt_two_pow (n := 32) l1 l2
    have q1 : e1 ^^^ e2 ^^^ e3 < 4294967296 := Nat.xor_lt_two_pow (n := 32) q0 l3
    have q2 : a1 ^^^ a2 < 4294967296 := Nat.xor_lt_two_pow (n := 32) l4 l5
    have q3 : a1 ^^^ a2 ^^^ a3 < 4294967296 := Nat.xor_lt_two_pow (n := 32) q2 l6
    have r1 : e &&& f < 4294967296 := Nat.and_lt_two_pow (n := 32) _ p6
    have r2 : (4294967295 - e) &&& g < 4294967296 := Nat.and_lt_two_pow (n := 32) _ p7
    have r3 : a &&& b < 4294967296 := Nat.and_lt_two_pow (n := 32) _ p2
    have r4 : a &&& c < 4294967296 := Nat.and_lt_two_pow (n := 32) _ p3
    have r5 : b &&& c < 4294967296 := Nat.and_lt_two_pow (n := 32) _ p3
    have r6 : (e &&& f) ^^^ ((4294967295 - e) &&& g) < 4294967296 := Nat.xor_lt_two_pow (n := 32) r1 r2
    have r7 : (a &&& b) ^^^ (a &&& c) < 4294967296 := Nat.xor_lt_two_pow (n := 32) r3 r4
    have r8 : (a &&& b) ^^^ (a &&& c) ^^^ (b &&& c) < 4294967296 := Nat.xor_lt_two_pow (n := 32) r7 r5
    have hcp : (4294967295 : Int) - (e : Int) = ((4294967295 - e : Nat) : Int) := by omega
    have r0 : 4294967295 - e < 4294967296 := by omega
    generalize 4294967295 - e = ne at *
    generalize at0 kS t = kk at *
    generalize at0 S t = ww at *
    generalize v0.l = v0l at *
    generalize hres : (addV v0 _).l = sl at hx ⊢
    refine W.seg [(1, aT), (11, aK (U3 (e1:Int))), (13, aK (U3 (e2:Int))), (14, aV (U3 (↑(e1 ^^^ e2) : Int))), (16, aK (U3 (e3:Int))), (17, aV (U3 (↑(e1 ^^^ e2 ^^^ e3) : Int))), (18, aV (U3 (↑((h + (e1 ^^^ e2 ^^^ e3)) % 4294967296) : Int))), (22, aV (U3 (↑(e &&& f) : Int))), (24, aV (U3 (ne:Int))), (27, aV (U3 (↑(ne &&& g) : Int))), (28, aV (U3 (↑(e &&& f ^^^ ne &&& g) : Int))), (29, aV (U3 (↑(((h + (e1 ^^^ e2 ^^^ e3)) % 4294967296 + (e &&& f ^^^ ne &&& g)) % 4294967296) : Int))), (32, aV (U3 (kk:Int))), (33, aV (U3 (↑((((h + (e1 ^^^ e2 ^^^ e3)) % 4294967296 + (e &&& f ^^^ ne &&& g)) % 4294967296 + kk) % 4294967296) : Int))), (36, aV (PV.at 3 [Stp.idx t 1])), (37, aV (U3 (ww:Int))), (38, aV (U3 (↑(((((h + (e1 ^^^ e2 ^^^ e3)) % 4294967296 + (e &&& f ^^^ ne &&& g)) % 4294967296 + kk) % 4294967296 + ww) % 4294967296) : Int))), (41, aK (U3 (a1:Int))), (43, aK (U3 (a2:Int))), (44, aV (U3 (↑(a1 ^^^ a2) : Int))), (46, aK (U3 (a3:Int))), (47, aV (U3 (↑(a1 ^^^ a2 ^^^ a3) : Int))), (51, aV (U3 (↑(a &&& b) : Int))), (55, aV (U3 (↑(a &&& c) : Int))), (56, aV (U3 (↑(a &&& b ^^^ a &&& c) : Int))), (61, aV (U3 (↑(b &&& c) : Int))), (62, aV (U3 (↑(a &&& b ^^^ a &&& c ^^^ b &&& c) : Int))), (63, aV (U3 (↑(((a1 ^^^ a2 ^^^ a3) + (a &&& b ^^^ a &&& c ^^^ b &&& c)) % 4294967296) : Int))), (74, aV (U3 (↑((d + ((((h + (e1 ^^^ e2 ^^^ e3)) % 4294967296 + (e &&& f ^^^ ne &&& g)) % 4294967296 + kk) % 4294967296 + ww) % 4294967296) % 4294967296) : Int))), (91, aV (U3 (↑((((((h + (e1 ^^^ e2 ^^^ e3)) % 4294967296 + (e &&& f ^^^ ne &&& g)) % 4294967296 + kk) % 4294967296 + ww) % 4294967296 + ((a1 ^^^ a2 ^^^ a3) + (a &&& b ^^^ a &&& c ^^^ b &&& c)) % 4294967296) % 4294967296) : Int))), (101, aV (I6 (↑(t + 1) : Int)))] [(1, 1), (2, 2), (3, 3), (5, 5), (4, 4)] (dsSC v0l S ((((((h + (e1 ^^^ e2 ^^^ e3)) % 4294967296 + (e &&& f ^^^ ne &&& g)) % 4294967296 + kk) % 4294967296 + ww) % 4294967296 + ((a1 ^^^ a2 ^^^ a3) + (a &&& b ^^^ a &&& c ^^^ b &&& c)) % 4294967296) % 4294967296) a b c ((d + ((((h + (e1 ^^^ e2 ^^^ e3)) % 4294967296 + (e &&& f ^^^ ne &&& g)) % 4294967296 + kk) % 4294967296 + ww) % 4294967296) % 4294967296) e f g (t + 1)) (todo' := loopAt Tryz.f113 2) [decide ((t:Int) < 64) = true, (0 : Int) ≤ (4 : Int), 4 < (↑(8 : Nat) : Int), 4 < 8, (0 : Int) ≤ (0 : Int), 0 < (↑(8 : Nat) : Int), 0 < 8, (0 : Int) ≤ (7 : Int), 7 < (↑(8 : Nat) : Int), 7 < 8, PC Tryz.prog G0 126 [] [U3 (e:Int), I6 6] [] (U3 (e1:Int)), PC Tryz.prog G0 126 [] [U3 (e:Int), I6 11] [] (U3 (e2:Int)), U3 (bits BinOp.xor IntKind.u32 (e1:Int) (e2:Int)) = U3 (↑(e1 ^^^ e2) : Int), PC Tryz.prog G0 126 [] [U3 (e:Int), I6 25] [] (U3 (e3:Int)), U3 (bits BinOp.xor IntKind.u32 (↑(e1 ^^^ e2) : Int) (e3:Int)) = U3 (↑(e1 ^^^ e2 ^^^ e3) : Int), U3 (IntKind.wrap .u32 ((h:Int) + (↑(e1 ^^^ e2 ^^^ e3) : Int))) = U3 (↑((h + (e1 ^^^ e2 ^^^ e3)) % 4294967296) : Int), (0 : Int) ≤ (5 : Int), 5 < (↑(8 : Nat) : Int), 5 < 8, U3 (bits BinOp.and IntKind.u32 (e:Int) (f:Int)) = U3 (↑(e &&& f) : Int), U3 (IntKind.wrap .u32 (4294967295 - (e:Int))) = U3 (ne:Int), (0 : Int) ≤ (6 : Int), 6 < (↑(8 : Nat) : Int), 6 < 8, U3 (bits BinOp.and IntKind.u32 (ne:Int) (g:Int)) = U3 (↑(ne &&& g) : Int), U3 (bits BinOp.xor IntKind.u32 (↑(e &&& f) : Int) (↑(ne &&& g) : Int)) = U3 (↑(e &&& f ^^^ ne &&& g) : Int), U3 (IntKind.wrap .u32 ((↑((h + (e1 ^^^ e2 ^^^ e3)) % 4294967296) : Int) + (↑(e &&& f ^^^ ne &&& g) : Int))) = U3 (↑(((h + (e1 ^^^ e2 ^^^ e3)) % 4294967296 + (e &&& f ^^^ ne &&& g)) % 4294967296) : Int), 0 ≤ (t:Int), (t:Int) < (↑(64 : Nat) : Int), U3 (List.getD kS t (0 : Int)) = U3 (kk:Int), t < 64, U3 (IntKind.wrap .u32 ((↑(((h + (e1 ^^^ e2 ^^^ e3)) % 4294967296 + (e &&& f ^^^ ne &&& g)) % 4294967296) : Int) + (kk:Int))) = U3 (↑((((h + (e1 ^^^ e2 ^^^ e3)) % 4294967296 + (e &&& f ^^^ ne &&& g)) % 4294967296 + kk) % 4294967296) : Int), PV.at 3 [Stp.idx (0 + t) 1] = PV.at 3 [Stp.idx t 1], 0 ≤ (t:Int), (t:Int) < (↑(64 : Nat) : Int), U3 (List.getD S t (0 : Int)) = U3 (ww:Int), t < 64, U3 (IntKind.wrap .u32 ((↑((((h + (e1 ^^^ e2 ^^^ e3)) % 4294967296 + (e &&& f ^^^ ne &&& g)) % 4294967296 + kk) % 4294967296) : Int) + (ww:Int))) = U3 (↑(((((h + (e1 ^^^ e2 ^^^ e3)) % 4294967296 + (e &&& f ^^^ ne &&& g)) % 4294967296 + kk) % 4294967296 + ww) % 4294967296) : Int), PC Tryz.prog G0 126 [] [U3 (a:Int), I6 2] [] (U3 (a1:Int)), PC Tryz.prog G0 126 [] [U3 (a:Int), I6 13] [] (U3 (a2:Int)), U3 (bits BinOp.xor IntKind.u32 (a1:Int) (a2:Int)) = U3 (↑(a1 ^^^ a2) : Int), PC Tryz.prog G0 126 [] [U3 (a:Int), I6 22] [] (U3 (a3:Int)), U3 (bits BinOp.xor IntKind.u32 (↑(a1 ^^^ a2) : Int) (a3:Int)) = U3 (↑(a1 ^^^ a2 ^^^ a3) : Int), (0 : Int) ≤ (1 : Int), 1 < (↑(8 : Nat) : Int), 1 < 8, U3 (bits BinOp.and IntKind.u32 (a:Int) (b:Int)) = U3 (↑(a &&& b) : Int), (0 : Int) ≤ (2 : Int), 2 < (↑(8 : Nat) : Int), 2 < 8, U3 (bits BinOp.and IntKind.u32 (a:Int) (c:Int)) = U3 (↑(a &&& c) : Int), U3 (bits BinOp.xor IntKind.u32 (↑(a &&& b) : Int) (↑(a &&& c) : Int)) = U3 (↑(a &&& b ^^^ a &&& c) : Int), (0 : Int) ≤ (1 : Int), 1 < (↑(8 : Nat) : Int), 1 < 8, (0 : Int) ≤ (2 : Int), 2 < (↑(8 : Nat) : Int), 2 < 8, U3 (bits BinOp.and IntKind.u32 (b:Int) (c:Int)) = U3 (↑(b &&& c) : Int), U3 (bits BinOp.xor IntKind.u32 (↑(a &&& b ^^^ a &&& c) : Int) (↑(b &&& c) : Int)) = U3 (↑(a &&& b ^^^ a &&& c ^^^ b &&& c) : Int), U3 (IntKind.wrap .u32 ((↑(a1 ^^^ a2 ^^^ a3) : Int) + (↑(a &&& b ^^^ a &&& c ^^^ b &&& c) : Int))) = U3 (↑(((a1 ^^^ a2 ^^^ a3) + (a &&& b ^^^ a &&& c ^^^ b &&& c)) % 4294967296) : Int), (0 : Int) ≤ (6 : Int), 6 < (↑(8 : Nat) : Int), 6 < 8, (0 : Int) ≤ (5 : Int), 5 < (↑(8 : Nat) : Int), 5 < 8, (0 : Int) ≤ (4 : Int), 4 < (↑(8 : Nat) : Int), 4 < 8, (0 : Int) ≤ (3 : Int), 3 < (↑(8 : Nat) : Int), 3 < 8, U3 (IntKind.wrap .u32 ((d:Int) + (↑(((((h + (e1 ^^^ e2 ^^^ e3)) % 4294967296 + (e &&& f ^^^ ne &&& g)) % 4294967296 + kk) % 4294967296 + ww) % 4294967296) : Int))) = U3 (↑((d + ((((h + (e1 ^^^ e2 ^^^ e3)) % 4294967296 + (e &&& f ^^^ ne &&& g)) % 4294967296 + kk) % 4294967296 + ww) % 4294967296) % 4294967296) : Int), (0 : Int) ≤ (7 : Int), 7 < (↑(8 : Nat) : Int), 7 < 8, (0 : Int) ≤ (6 : Int), 6 < (↑(8 : Nat) : Int), 6 < 8, (0 : Int) ≤ (5 : Int), 5 < (↑(8 : Nat) : Int), 5 < 8, (0 : Int) ≤ (4 : Int), 4 < (↑(8 : Nat) : Int), 4 < 8, (0 : Int) ≤ (2 : Int), 2 < (↑(8 : Nat) : Int), 2 < 8, (0 : Int) ≤ (1 : Int), 1 < (↑(8 : Nat) : Int), 1 < 8, (0 : Int) ≤ (0 : Int), 0 < (↑(8 : Nat) : Int), 0 < 8, U3 (IntKind.wrap .u32 ((↑(((((h + (e1 ^^^ e2 ^^^ e3)) % 4294967296 + (e &&& f ^^^ ne &&& g)) % 4294967296 + kk) % 4294967296 + ww) % 4294967296) : Int) + (↑(((a1 ^^^ a2 ^^^ a3) + (a &&& b ^^^ a &&& c ^^^ b &&& c)) % 4294967296) : Int))) = U3 (↑((((((h + (e1 ^^^ e2 ^^^ e3)) % 4294967296 + (e &&& f ^^^ ne &&& g)) % 4294967296 + kk) % 4294967296 + ww) % 4294967296 + ((a1 ^^^ a2 ^^^ a3) + (a &&& b ^^^ a &&& c ^^^ b &&& c)) % 4294967296) % 4294967296) : Int), (0 : Int) ≤ (3 : Int), 3 < (↑(8 : Nat) : Int), 3 < 8, (0 : Int) ≤ (2 : Int), 2 < (↑(8 : Nat) : Int), 2 < 8, (0 : Int) ≤ (1 : Int), 1 < (↑(8 : Nat) : Int), 1 < 8, (0 : Int) ≤ (0 : Int), 0 < (↑(8 : Nat) : Int), 0 < 8, I6 (IntKind.wrap .i64 ((t:Int) + 1)) = I6 (↑(t + 1) : Int), rr (PV.at 1 []), rr (PV.at 2 []), rr (PV.ref 3 [] 1 0 64), rr (PV.at 5 []), rr (PV.at 4 []), rr (I6 (↑(t + 1) : Int)), rr (B3 8 v0l), rr (B3 8 (List.replicate 8 0)), rr (B3 64 S), rr (B3 64 kS), rr (B3 8 [(↑((((((h + (e1 ^^^ e2 ^^^ e3)) % 4294967296 + (e &&& f ^^^ ne &&& g)) % 4294967296 + kk) % 4294967296 + ww) % 4294967296 + ((a1 ^^^ a2 ^^^ a3) + (a &&& b ^^^ a &&& c ^^^ b &&& c)) % 4294967296) % 4294967296) : Int), (a:Int), (b:Int), (c:Int), (↑((d + ((((h + (e1 ^^^ e2 ^^^ e3)) % 4294967296 + (e &&& f ^^^ ne &&& g)) % 4294967296 + kk) % 4294967296 + ww) % 4294967296) % 4294967296) : Int), (e:Int), (f:Int), (g:Int)])] (by kernel_rfl) (ac (decide_eq_true (by omega)) (ac (by omega) (ac (by omega) (ac (by omega) (ac (by omega) (ac (by omega) (ac (by omega) (ac (by omega) (ac (by omega) (ac (by omega) (ac (c1) (ac (c2) (ac (cg (bxor_u32 rfl rfl (by omega) (by omega))) (ac (c3) (ac (cg (bxor_u32 rfl rfl (by omega) (by omega))) (ac (cg (wm_u32 rfl)) (ac (by omega) (ac (by omega) (ac (by omega) (ac (cg (band_u32 rfl rfl (by omega) (by omega))) (ac (cg (w_u32 hcp (by omega) (by omega))) (ac (by omega) (ac (by omega) (ac (by omega) (ac (cg (band_u32 rfl rfl (by omega) (by omega))) (ac (cg (bxor_u32 rfl rfl (by omega) (by omega))) (ac (cg (wm_u32 rfl)) (ac (by omega) (ac (by omega) (ac (cg (ek)) (ac (by omega) (ac (cg (wm_u32 rfl)) (ac (by simp only [Nat.zero_add]) (ac (by omega) (ac (by omega) (ac (cg (ew)) (ac (by omega) (ac (cg (wm_u32 rfl)) (ac (c4) (ac (c5) (ac (cg (bxor_u32 rfl rfl (by omega) (by omega))) (ac (c6) (ac (cg (bxor_u32 rfl rfl (by omega) (by omega))) (ac (by omega) (ac (by omega) (ac (by omega) (ac (cg (band_u32 rfl rfl (by omega) (by omega))) (ac (by omega) (ac (by omega) (ac (by omega) (ac (cg (band_u32 rfl rfl (by omega) (by omega))) (ac (cg (bxor_u32 rfl rfl (by omega) (by omega))) (ac (by omega) (ac (by omega) (ac (by omega) (ac (by omega) (ac (by omega) (ac (by omega) (ac (cg (band_u32 rfl rfl (by omega) (by omega))) (ac (cg (bxor_u32 rfl rfl (by omega) (by omega))) (ac (cg (wm_u32 rfl)) (ac (by omega) (ac (by omega) (ac (by omega) (ac (by omega) (ac (by omega) (ac (by omega) (ac (by omega) (ac (by omega) (ac (by omega) (ac (by omega) (ac (by omega) (ac (by omega) (ac (cg (wm_u32 rfl)) (ac (by omega) (ac (by omega) (ac (by omega) (ac (by omega) (ac (by omega) (ac (by omega) (ac (by omega) (ac (by omega) (ac (by omega) (ac (by omega) (ac (by omega) (ac (by omega) (ac (by omega) (ac (by omega) (ac (by omega) (ac (by omega) (ac (by omega) (ac (by omega) (ac (by omega) (ac (by omega) (ac (by omega) (ac (cg (wm_u32 rfl)) (ac (by omega) (ac (by omega) (ac (by omega) (ac (by omega) (ac (by omega) (ac (by omega) (ac (by omega) (ac (by omega) (ac (by omega) (ac (by omega) (ac (by omega) (ac (by omega) (ac (cg (w_i64 rfl (by omega) (by omega))) (ac rfl (ac rfl (ac rfl (ac rfl (ac rfl (ac rfl (ac rfl (ac rfl (ac rfl (ac rfl (ao rfl)))))))))))))))))))))))))))))))))))))))))))))))))))))))))))))))))))))))))))))))))))))))))))))))))))))))))))))))))))))))) ?_
    exact hx
end Go.Proofs
namespace Go.Proofs
open Go Go.Pe Go.Pm
set_option maxRecDepth 100000
set_option linter.unusedVariables false
set_option maxHeartbeats 4000000 in
theorem W_sb {v0 : V8} {b S : List Int} {res : List Int} (hv0 : v0.Ok) (hS : SchedOf b S) (hres : (addV v0 (rounds kS S 64 0 v0)).l = res) : ∀ (k t : Nat) (w : List Int), t + k = 64 → 16 ≤ t → w = S.take t →
    W Tryz.prog G0 Tryz.f113 [] [] (.iarr .u32 8 res) (loopAt Tryz.f113 1) (dsSB v0.l w t)
  | 0, t, w, hk, h16, hw => by
    have ht : t = 64 := by omega
    subst ht
    have hwl : w.length = 64 := by rw [hw, List.length_take, hS.len]; rfl
    have e : w = S := by rw [hw]; exact List.take_of_length_le (by rw [hS.len]; omega)
    have c1 := pc_rK
    obtain ⟨a, b', c, d, e', f, g, h⟩ := v0
    have hx := W_sc (v0 := ⟨a, b', c, d, e', f, g, h⟩) hv0 hS.w32 hS.len 64 0 a b' c d e' f g h rfl hv0
    rw [hres, ← e] at hx
    unfold V8.l at hx ⊢
    dsimp only at hx ⊢
    refine W.seg [(0, aV (I6 64)), (2, aK (B3 64 kS))] [(1, 1), (2, 2), (3, 3), (112, 5), (160, 4)] (dsSC [(a:Int), (b':Int), (c:Int), (d:Int), (e':Int), (f:Int), (g:Int), (h:Int)] w a b' c d e' f g h 0) (todo' := loopAt Tryz.f113 2) [I6 (↑(64 : Nat) : Int) = I6 64, PC Tryz.prog G0 127 [] [] [] (B3 64 kS), rr (PV.at 1 []), rr (PV.at 2 []), rr (PV.ref 3 [] 1 0 64), rr (PV.at 5 []), rr (PV.at 4 []), I6 0 = I6 (↑(0 : Nat) : Int), rr (B3 8 [(a:Int), (b':Int), (c:Int), (d:Int), (e':Int), (f:Int), (g:Int), (h:Int)]), rr (B3 8 (List.replicate 8 0)), rr (B3 64 w), rr (B3 64 kS), rr (B3 8 [(a:Int), (b':Int), (c:Int), (d:Int), (e':Int), (f:Int), (g:Int), (h:Int)])] (by kernel_rfl) (ac (cg (by omega)) (ac (c1) (ac rfl (ac rfl (ac rfl (ac rfl (ac rfl (ac (cg (by omega)) (ac rfl (ac rfl (ac rfl (ac rfl (ao rfl))))))))))))) ?_
    exact hx
  | k + 1, t, w, hk, h16, hw => by
    have hwl : w.length = t := by rw [hw, List.length_take, hS.len]; omega
    have hs := take_snocI (s := S) (i := t) (by rw [hS.len]; omega)
    rw [hS.hi t h16 (by omega), ← hw] at hs
    obtain ⟨e16, h16'⟩ := hS.w32.get (t - 16)
    obtain ⟨e15, h15⟩ := hS.w32.get (t - 15)
    obtain ⟨e7, h7⟩ := hS.w32.get (t - 7)
    obtain ⟨e2, h2⟩ := hS.w32.get (t - 2)
    rw [← take_get (i := t) (by omega), ← hw] at e16 e15 e7 e2
    unfold nextW at hs
    have hnx := W_sb hv0 hS hres k (t + 1) _ (by omega) (by omega) hs
    have i16 : (t : Int) - 16 = ((t - 16 : Nat) : Int) := by omega
    have i15 : (t : Int) - 15 = ((t - 15 : Nat) : Int) := by omega
    have i7 : (t : Int) - 7 = ((t - 7 : Nat) : Int) := by omega
    have i2 : (t : Int) - 2 = ((t - 2 : Nat) : Int) := by omega
    have k16 : t - 16 < t := by omega
    have k15 : t - 15 < t := by omega
    have k7 : t - 7 < t := by omega
    have k2 : t - 2 < t := by omega
    generalize t - 16 = j16 at *
    generalize t - 15 = j15 at *
    generalize t - 7 = j7 at *
    generalize t - 2 = j2 at *
    generalize at0 S j16 = a at *
    generalize at0 S j15 = x at *
    generalize at0 S j7 = c at *
    generalize at0 S j2 = y at *
    unfold sg0 sg1 at hnx
    have c1 := pc_rRight (k := 7) h15 (by omega)
    have c2 := pc_rRight (k := 18) h15 (by omega)
    have c3 := pc_rRight (k := 17) h2 (by omega)
    have c4 := pc_rRight (k := 19) h2 (by omega)
    have l1 := rot_lt (k := 7) h15
    have l2 := rot_lt (k := 18) h15
    have l3 := rot_lt (k := 17) h2
    have l4 := rot_lt (k := 19) h2
    generalize rot x 7 = r7 at *
    generalize rot x 18 = r18 at *
    generalize rot y 17 = r17 at *
    generalize rot y 19 = r19 at *
    have m1 : r7 ^^^ r18 < 4294967296 := Nat.xor_lt_two_pow (n := 32) l1 l2
    have m2 : r17 ^^^ r19 < 4294967296 := Nat.xor_lt_two_pow (n := 32) l3 l4
    have m3 : r7 ^^^ r18 ^^^ x / 8 < 4294967296 := Nat.xor_lt_two_pow (n := 32) m1 (by omega)
    have m4 : r17 ^^^ r19 ^^^ y / 1024 < 4294967296 := Nat.xor_lt_two_pow (n := 32) m2 (by omega)
    generalize v0.l = v0l at *
    refine W.seg [(1, aT), (4, aV (I6 (j15:Int))), (5, aV (PV.at 3 [Stp.idx j15 1])), (6, aV (U3 (x:Int))), (9, aV (I6 (j2:Int))), (10, aV (PV.at 3 [Stp.idx j2 1])), (11, aV (U3 (y:Int))), (17, aV (I6 (j16:Int))), (18, aV (PV.at 3 [Stp.idx j16 1])), (19, aV (U3 (a:Int))), (21, aK (U3 (r7:Int))), (23, aK (U3 (r18:Int))), (24, aV (U3 (↑(r7 ^^^ r18) : Int))), (26, aV (U3 (↑(x / 8) : Int))), (27, aV (U3 (↑(r7 ^^^ r18 ^^^ x / 8) : Int))), (28, aV (U3 (↑((a + (r7 ^^^ r18 ^^^ x / 8)) % 4294967296) : Int))), (31, aV (I6 (j7:Int))), (32, aV (PV.at 3 [Stp.idx j7 1])), (33, aV (U3 (c:Int))), (34, aV (U3 (↑(((a + (r7 ^^^ r18 ^^^ x / 8)) % 4294967296 + c) % 4294967296) : Int))), (36, aK (U3 (r17:Int))), (38, aK (U3 (r19:Int))), (39, aV (U3 (↑(r17 ^^^ r19) : Int))), (41, aV (U3 (↑(y / 1024) : Int))), (42, aV (U3 (↑(r17 ^^^ r19 ^^^ y / 1024) : Int))), (43, aV (U3 (↑((((a + (r7 ^^^ r18 ^^^ x / 8)) % 4294967296 + c) % 4294967296 + (r17 ^^^ r19 ^^^ y / 1024)) % 4294967296) : Int))), (45, Ans.ups [(3, none), (784, some (Row.mk (B3 (t + 1) (w ++ [(↑((((a + (r7 ^^^ r18 ^^^ x / 8)) % 4294967296 + c) % 4294967296 + (r17 ^^^ r19 ^^^ y / 1024)) % 4294967296) : Int)])) false))]), (48, aV (I6 (↑(t + 1) : Int)))] [(1, 1), (2, 2), (784, 3)] (dsSB v0l (w ++ [(↑((((a + (r7 ^^^ r18 ^^^ x / 8)) % 4294967296 + c) % 4294967296 + (r17 ^^^ r19 ^^^ y / 1024)) % 4294967296) : Int)]) (t + 1)) (todo' := loopAt Tryz.f113 1) [decide ((t:Int) < 64) = true, I6 (IntKind.wrap .i64 ((t:Int) - 15)) = I6 (j15:Int), PV.at 3 [Stp.idx (0 + j15) 1] = PV.at 3 [Stp.idx j15 1], 0 ≤ (j15:Int), (j15:Int) < (t:Int), U3 (List.getD w j15 (0 : Int)) = U3 (x:Int), j15 < t, I6 (IntKind.wrap .i64 ((t:Int) - 2)) = I6 (j2:Int), PV.at 3 [Stp.idx (0 + j2) 1] = PV.at 3 [Stp.idx j2 1], 0 ≤ (j2:Int), (j2:Int) < (t:Int), U3 (List.getD w j2 (0 : Int)) = U3 (y:Int), j2 < t, I6 (IntKind.wrap .i64 ((t:Int) - 16)) = I6 (j16:Int), PV.at 3 [Stp.idx (0 + j16) 1] = PV.at 3 [Stp.idx j16 1], 0 ≤ (j16:Int), (j16:Int) < (t:Int), U3 (List.getD w j16 (0 : Int)) = U3 (a:Int), j16 < t, PC Tryz.prog G0 126 [] [U3 (x:Int), I6 7] [] (U3 (r7:Int)), PC Tryz.prog G0 126 [] [U3 (x:Int), I6 18] [] (U3 (r18:Int)), U3 (bits BinOp.xor IntKind.u32 (r7:Int) (r18:Int)) = U3 (↑(r7 ^^^ r18) : Int), U3 (IntKind.wrap .u32 (Int.tdiv (x:Int) (8 : Int))) = U3 (↑(x / 8) : Int), (8 : Int) ≠ (0 : Int), U3 (bits BinOp.xor IntKind.u32 (↑(r7 ^^^ r18) : Int) (↑(x / 8) : Int)) = U3 (↑(r7 ^^^ r18 ^^^ x / 8) : Int), U3 (IntKind.wrap .u32 ((a:Int) + (↑(r7 ^^^ r18 ^^^ x / 8) : Int))) = U3 (↑((a + (r7 ^^^ r18 ^^^ x / 8)) % 4294967296) : Int), I6 (IntKind.wrap .i64 ((t:Int) - 7)) = I6 (j7:Int), PV.at 3 [Stp.idx (0 + j7) 1] = PV.at 3 [Stp.idx j7 1], 0 ≤ (j7:Int), (j7:Int) < (t:Int), U3 (List.getD w j7 (0 : Int)) = U3 (c:Int), j7 < t, U3 (IntKind.wrap .u32 ((↑((a + (r7 ^^^ r18 ^^^ x / 8)) % 4294967296) : Int) + (c:Int))) = U3 (↑(((a + (r7 ^^^ r18 ^^^ x / 8)) % 4294967296 + c) % 4294967296) : Int), PC Tryz.prog G0 126 [] [U3 (y:Int), I6 17] [] (U3 (r17:Int)), PC Tryz.prog G0 126 [] [U3 (y:Int), I6 19] [] (U3 (r19:Int)), U3 (bits BinOp.xor IntKind.u32 (r17:Int) (r19:Int)) = U3 (↑(r17 ^^^ r19) : Int), U3 (IntKind.wrap .u32 (Int.tdiv (y:Int) (1024 : Int))) = U3 (↑(y / 1024) : Int), (1024 : Int) ≠ (0 : Int), U3 (bits BinOp.xor IntKind.u32 (↑(r17 ^^^ r19) : Int) (↑(y / 1024) : Int)) = U3 (↑(r17 ^^^ r19 ^^^ y / 1024) : Int), U3 (IntKind.wrap .u32 ((↑(((a + (r7 ^^^ r18 ^^^ x / 8)) % 4294967296 + c) % 4294967296) : Int) + (↑(r17 ^^^ r19 ^^^ y / 1024) : Int))) = U3 (↑((((a + (r7 ^^^ r18 ^^^ x / 8)) % 4294967296 + c) % 4294967296 + (r17 ^^^ r19 ^^^ y / 1024)) % 4294967296) : Int), ([(3, none), (784, some (Row.mk (B3 (t + 1) (List.take t w ++ [(↑((((a + (r7 ^^^ r18 ^^^ x / 8)) % 4294967296 + c) % 4294967296 + (r17 ^^^ r19 ^^^ y / 1024)) % 4294967296) : Int)])) false))] : List (Nat × Option Row)) = [(3, none), (784, some (Row.mk (B3 (t + 1) (w ++ [(↑((((a + (r7 ^^^ r18 ^^^ x / 8)) % 4294967296 + c) % 4294967296 + (r17 ^^^ r19 ^^^ y / 1024)) % 4294967296) : Int)])) false))], 1 ≤ 1, 0 + t = t, (t + 1) * 4 ≤ 140737488355328, t + 1 ≤ 9223372036854775807, I6 (IntKind.wrap .i64 ((t:Int) + 1)) = I6 (↑(t + 1) : Int), rr (PV.at 1 []), rr (PV.at 2 []), rr (PV.ref 3 [] 1 0 (t + 1)), rr (I6 (↑(t + 1) : Int)), rr (B3 8 v0l), rr (B3 8 (List.replicate 8 0)), rr (B3 (t + 1) (w ++ [(↑((((a + (r7 ^^^ r18 ^^^ x / 8)) % 4294967296 + c) % 4294967296 + (r17 ^^^ r19 ^^^ y / 1024)) % 4294967296) : Int)]))] (by kernel_rfl) (ac (decide_eq_true (by omega)) (ac (cg (w_i64 i15 (by omega) (by omega))) (ac (by simp only [Nat.zero_add]) (ac (by omega) (ac (by omega) (ac (cg (e15)) (ac (by omega) (ac (cg (w_i64 i2 (by omega) (by omega))) (ac (by simp only [Nat.zero_add]) (ac (by omega) (ac (by omega) (ac (cg (e2)) (ac (by omega) (ac (cg (w_i64 i16 (by omega) (by omega))) (ac (by simp only [Nat.zero_add]) (ac (by omega) (ac (by omega) (ac (cg (e16)) (ac (by omega) (ac (c1) (ac (c2) (ac (cg (bxor_u32 rfl rfl (by omega) (by omega))) (ac (cg (w_u32 rfl (by omega) (by omega))) (ac (by omega) (ac (cg (bxor_u32 rfl rfl (by omega) (by omega))) (ac (cg (wm_u32 rfl)) (ac (cg (w_i64 i7 (by omega) (by omega))) (ac (by simp only [Nat.zero_add]) (ac (by omega) (ac (by omega) (ac (cg (e7)) (ac (by omega) (ac (cg (wm_u32 rfl)) (ac (c3) (ac (c4) (ac (cg (bxor_u32 rfl rfl (by omega) (by omega))) (ac (cg (w_u32 rfl (by omega) (by omega))) (ac (by omega) (ac (cg (bxor_u32 rfl rfl (by omega) (by omega))) (ac (cg (wm_u32 rfl)) (ac (by rw [List.take_of_length_le (show List.length w ≤ t by omega)]) (ac (by omega) (ac (by omega) (ac (by omega) (ac (by omega) (ac (cg (w_i64 rfl (by omega) (by omega))) (ac rfl (ac rfl (ac rfl (ac rfl (ac rfl (ac rfl (ao rfl))))))))))))))))))))))))))))))))))))))))))))))))))))) ?_
    exact hnx
theorem be4_eq (a b c d : Nat) : be4 a b c d = 16777216 * a + 65536 * b + 256 * c + d := by unfold be4; omega
set_option maxHeartbeats 4000000 in
theorem W_sa {v0 : V8} {nl : Bool} {b S : List Int} {res : List Int} (hv0 : v0.Ok) (hb : Bytes b) (hbl : b.length = 64) (hS : SchedOf b S) (hres : (addV v0 (rounds kS S 64 0 v0)).l = res) : ∀ (k t : Nat) (w : List Int), t + k = 16 → 0 < t → w = S.take t →
    W Tryz.prog G0 Tryz.f113 [] [] (.iarr .u32 8 res) (loopAt Tryz.f113 0) (dsSA v0.l nl b w t)
  | 0, t, w, hk, h0, hw => by
    have ht : t = 16 := by omega
    subst ht
    have hwl : w.length = 16 := by rw [hw, List.length_take, hS.len]; rfl
    have hx := W_sb hv0 hS hres 48 16 w rfl (by omega) hw
    generalize v0.l = v0l at *
    refine W.seg [(0, aV (I6 16))] [(1, 1), (2, 2), (3, 3)] (dsSB v0l w 16) (todo' := loopAt Tryz.f113 1) [I6 (↑(16 : Nat) : Int) = I6 16, rr (PV.at 1 []), rr (PV.at 2 []), rr (PV.ref 3 [] 1 0 16), I6 16 = I6 (↑(16 : Nat) : Int), rr (B3 8 v0l), rr (B3 8 (List.replicate 8 0)), rr (B3 16 w)] (by kernel_rfl) (ac (cg (by omega)) (ac rfl (ac rfl (ac rfl (ac (cg (by omega)) (ac rfl (ac rfl (ao rfl)))))))) ?_
    exact hx
  | k + 1, t, w, hk, h0, hw => by
    have hwl : w.length = t := by rw [hw, List.length_take, hS.len]; omega
    have hs := take_snocI (s := S) (i := t) (by rw [hS.len]; omega)
    rw [hS.lo t (by omega), ← hw] at hs
    unfold word at hs
    rw [be4_eq] at hs
    obtain ⟨e0, g0⟩ := hb.get (4 * t)
    obtain ⟨e1, g1⟩ := hb.get (4 * t + 1)
    obtain ⟨e2, g2⟩ := hb.get (4 * t + 2)
    obtain ⟨e3, g3⟩ := hb.get (4 * t + 3)
    have hnx := W_sa (nl := nl) hv0 hb hbl hS hres k (t + 1) _ (by omega) (by omega) hs
    generalize at0 b (4 * t) = a at *
    generalize at0 b (4 * t + 1) = x at *
    generalize at0 b (4 * t + 2) = c at *
    generalize at0 b (4 * t + 3) = y at *
    generalize v0.l = v0l at *
    refine W.seg [(1, aT), (5, aV (I6 (↑(4 * t) : Int))), (6, aV (PV.cptr (B8 64 b) [Stp.idx (4 * t) 1])), (7, aV (U8 (a:Int))), (8, aV (U3 (a:Int))), (9, aV (U3 (↑(16777216 * a) : Int))), (12, aV (I6 (↑(4 * t) : Int))), (13, aV (I6 (↑(4 * t + 1) : Int))), (14, aV (PV.cptr (B8 64 b) [Stp.idx (4 * t + 1) 1])), (15, aV (U8 (x:Int))), (16, aV (U3 (x:Int))), (17, aV (U3 (↑(65536 * x) : Int))), (18, aV (U3 (↑(16777216 * a + 65536 * x) : Int))), (21, aV (I6 (↑(4 * t) : Int))), (22, aV (I6 (↑(4 * t + 2) : Int))), (23, aV (PV.cptr (B8 64 b) [Stp.idx (4 * t + 2) 1])), (24, aV (U8 (c:Int))), (25, aV (U3 (c:Int))), (26, aV (U3 (↑(256 * c) : Int))), (27, aV (U3 (↑(16777216 * a + 65536 * x + 256 * c) : Int))), (30, aV (I6 (↑(4 * t) : Int))), (31, aV (I6 (↑(4 * t + 3) : Int))), (32, aV (PV.cptr (B8 64 b) [Stp.idx (4 * t + 3) 1])), (33, aV (U8 (y:Int))), (34, aV (U3 (y:Int))), (35, aV (U3 (↑(16777216 * a + 65536 * x + 256 * c + y) : Int))), (37, Ans.ups [(3, none), (656, some (Row.mk (B3 (t + 1) (w ++ [(↑(16777216 * a + 65536 * x + 256 * c + y) : Int)])) false))]), (40, aV (I6 (↑(t + 1) : Int)))] [(1, 1), (2, 2), (656, 3)] (dsSA v0l nl b (w ++ [(↑(16777216 * a + 65536 * x + 256 * c + y) : Int)]) (t + 1)) (todo' := loopAt Tryz.f113 0) [decide ((t:Int) < 16) = true, I6 (IntKind.wrap .i64 (4 * (t:Int))) = I6 (↑(4 * t) : Int), PV.cptr (B8 64 b) [Stp.idx (Int.toNat (↑(4 * t) : Int)) 1] = PV.cptr (B8 64 b) [Stp.idx (4 * t) 1], 0 ≤ (↑(4 * t) : Int), (↑(4 * t) : Int) < (↑(64 : Nat) : Int), U8 (List.getD b (4 * t) (0 : Int)) = U8 (a:Int), 4 * t < 64, U3 (IntKind.wrap .u32 (a:Int)) = U3 (a:Int), U3 (IntKind.wrap .u32 ((a:Int) * (16777216 : Int))) = U3 (↑(16777216 * a) : Int), I6 (IntKind.wrap .i64 (4 * (t:Int))) = I6 (↑(4 * t) : Int), I6 (IntKind.wrap .i64 ((↑(4 * t) : Int) + 1)) = I6 (↑(4 * t + 1) : Int), PV.cptr (B8 64 b) [Stp.idx (Int.toNat (↑(4 * t + 1) : Int)) 1] = PV.cptr (B8 64 b) [Stp.idx (4 * t + 1) 1], 0 ≤ (↑(4 * t + 1) : Int), (↑(4 * t + 1) : Int) < (↑(64 : Nat) : Int), U8 (List.getD b (4 * t + 1) (0 : Int)) = U8 (x:Int), 4 * t + 1 < 64, U3 (IntKind.wrap .u32 (x:Int)) = U3 (x:Int), U3 (IntKind.wrap .u32 ((x:Int) * (65536 : Int))) = U3 (↑(65536 * x) : Int), U3 (IntKind.wrap .u32 ((↑(16777216 * a) : Int) + (↑(65536 * x) : Int))) = U3 (↑(16777216 * a + 65536 * x) : Int), I6 (IntKind.wrap .i64 (4 * (t:Int))) = I6 (↑(4 * t) : Int), I6 (IntKind.wrap .i64 ((↑(4 * t) : Int) + 2)) = I6 (↑(4 * t + 2) : Int), PV.cptr (B8 64 b) [Stp.idx (Int.toNat (↑(4 * t + 2) : Int)) 1] = PV.cptr (B8 64 b) [Stp.idx (4 * t + 2) 1], 0 ≤ (↑(4 * t + 2) : Int), (↑(4 * t + 2) : Int) < (↑(64 : Nat) : Int), U8 (List.getD b (4 * t + 2) (0 : Int)) = U8 (c:Int), 4 * t + 2 < 64, U3 (IntKind.wrap .u32 (c:Int)) = U3 (c:Int), U3 (IntKind.wrap .u32 ((c:Int) * (256 : Int))) = U3 (↑(256 * c) : Int), U3 (IntKind.wrap .u32 ((↑(16777216 * a + 65536 * x) : Int) + (↑(256 * c) : Int))) = U3 (↑(16777216 * a + 65536 * x + 256 * c) : Int), I6 (IntKind.wrap .i64 (4 * (t:Int))) = I6 (↑(4 * t) : Int), I6 (IntKind.wrap .i64 ((↑(4 * t) : Int) + 3)) = I6 (↑(4 * t + 3) : Int), PV.cptr (B8 64 b) [Stp.idx (Int.toNat (↑(4 * t + 3) : Int)) 1] = PV.cptr (B8 64 b) [Stp.idx (4 * t + 3) 1], 0 ≤ (↑(4 * t + 3) : Int), (↑(4 * t + 3) : Int) < (↑(64 : Nat) : Int), U8 (List.getD b (4 * t + 3) (0 : Int)) = U8 (y:Int), 4 * t + 3 < 64, U3 (IntKind.wrap .u32 (y:Int)) = U3 (y:Int), U3 (IntKind.wrap .u32 ((↑(16777216 * a + 65536 * x + 256 * c) : Int) + (y:Int))) = U3 (↑(16777216 * a + 65536 * x + 256 * c + y) : Int), ([(3, none), (656, some (Row.mk (B3 (t + 1) (List.take t w ++ [(↑(16777216 * a + 65536 * x + 256 * c + y) : Int)])) false))] : List (Nat × Option Row)) = [(3, none), (656, some (Row.mk (B3 (t + 1) (w ++ [(↑(16777216 * a + 65536 * x + 256 * c + y) : Int)])) false))], 1 ≤ 1, 0 + t = t, (t + 1) * 4 ≤ 140737488355328, t + 1 ≤ 9223372036854775807, I6 (IntKind.wrap .i64 ((t:Int) + 1)) = I6 (↑(t + 1) : Int), rr (PV.vec nl (B8 64 b)), rr (PV.at 1 []), rr (PV.at 2 []), rr (PV.ref 3 [] 1 0 (t + 1)), rr (I6 (↑(t + 1) : Int)), rr (B3 8 v0l), rr (B3 8 (List.replicate 8 0)), rr (B3 (t + 1) (w ++ [(↑(16777216 * a + 65536 * x + 256 * c + y) : Int)]))] (by kernel_rfl) (ac (decide_eq_true (by omega)) (ac (cg (w_i64 rfl (by omega) (by omega))) (ac (by rw [show Int.toNat (↑(4 * t) : Int) = 4 * t by omega]) (ac (by omega) (ac (by omega) (ac (cg (e0)) (ac (by omega) (ac (cg (w_u32 rfl (by omega) (by omega))) (ac (cg (w_u32 (by omega) (by omega) (by omega))) (ac (cg (w_i64 rfl (by omega) (by omega))) (ac (cg (w_i64 rfl (by omega) (by omega))) (ac (by rw [show Int.toNat (↑(4 * t + 1) : Int) = 4 * t + 1 by omega]) (ac (by omega) (ac (by omega) (ac (cg (e1)) (ac (by omega) (ac (cg (w_u32 rfl (by omega) (by omega))) (ac (cg (w_u32 (by omega) (by omega) (by omega))) (ac (cg (w_u32 rfl (by omega) (by omega))) (ac (cg (w_i64 rfl (by omega) (by omega))) (ac (cg (w_i64 rfl (by omega) (by omega))) (ac (by rw [show Int.toNat (↑(4 * t + 2) : Int) = 4 * t + 2 by omega]) (ac (by omega) (ac (by omega) (ac (cg (e2)) (ac (by omega) (ac (cg (w_u32 rfl (by omega) (by omega))) (ac (cg (w_u32 (by omega) (by omega) (by omega))) (ac (cg (w_u32 rfl (by omega) (by omega))) (ac (cg (w_i64 rfl (by omega) (by omega))) (ac (cg (w_i64 rfl (by omega) (by omega))) (ac (by rw [show Int.toNat (↑(4 * t + 3) : Int) = 4 * t + 3 by omega]) (ac (by omega) (ac (by omega) (ac (cg (e3)) (ac (by omega) (ac (cg (w_u32 rfl (by omega) (by omega))) (ac (cg (w_u32 rfl (by omega) (by omega))) (ac (by rw [List.take_of_length_le (show List.length w ≤ t by omega)]) (ac (by omega) (ac (by omega) (ac (by omega) (ac (by omega) (ac (cg (w_i64 rfl (by omega) (by omega))) (ac rfl (ac rfl (ac rfl (ac rfl (ac rfl (ac rfl (ac rfl (ao rfl)))))))))))))))))))))))))))))))))))))))))))))))))))) ?_
    exact hnx
set_option maxHeartbeats 4000000 in
theorem pc_rStep {v0 : V8} {nl : Bool} {b : List Int} (hv0 : v0.Ok) (hb : Bytes b) (hbl : b.length = 64) : PC Tryz.prog G0 113 [] [.iarr .u32 8 v0.l, .vec nl (.iarr .u8 64 b)] [] (.iarr .u32 8 (blk v0 b).l) := by
  refine PC.of (fn := Tryz.f113) (c := bodyOf Tryz.f113) Tryz.func113 (by kernel_rfl) (by kernel_rfl) (by kernel_rfl) (by kernel_rfl) ?_
  have hS := schedAOf hb
  have hres : (addV v0 (rounds kS (schedA b) 64 0 v0)).l = (blk v0 b).l := by rw [blk_eq]
  have hs := take_snocI (s := schedA b) (i := 0) (by rw [hS.len]; omega)
  rw [hS.lo 0 (by omega), List.take_zero, List.nil_append] at hs
  unfold word at hs
  rw [be4_eq] at hs
  obtain ⟨e0, g0⟩ := hb.get (4 * 0)
  obtain ⟨e1, g1⟩ := hb.get (4 * 0 + 1)
  obtain ⟨e2, g2⟩ := hb.get (4 * 0 + 2)
  obtain ⟨e3, g3⟩ := hb.get (4 * 0 + 3)
  have hnx := W_sa (nl := nl) hv0 hb hbl hS hres 15 1 _ (by omega) (by omega) hs
  generalize at0 b (4 * 0) = a at *
  generalize at0 b (4 * 0 + 1) = x at *
  generalize at0 b (4 * 0 + 2) = c at *
  generalize at0 b (4 * 0 + 3) = y at *
  simp only [Nat.mul_zero, Nat.zero_add] at e0 e1 e2 e3
  generalize v0.l = v0l at *
  generalize (blk v0 b).l = res at *
  refine W.seg [] [(64, 1), (80, 2)] (dsS0 v0l nl b) (todo' := loopAt Tryz.f113 0) [rr (PV.vec nl (B8 64 b)), rr (PV.at 1 []), rr (PV.at 2 []), rr (PV.vec true (B3 0 [])), rr (I6 0), rr (B3 8 v0l), rr (B3 8 (List.replicate 8 0))] (by kernel_rfl) (ac rfl (ac rfl (ac rfl (ac rfl (ac rfl (ac rfl (ao rfl))))))) ?_
  refine W.seg [(5, aV (I6 0)), (7, aV (U8 (a:Int))), (8, aV (U3 (a:Int))), (9, aV (U3 (↑(16777216 * a) : Int))), (12, aV (I6 0)), (13, aV (I6 1)), (15, aV (U8 (x:Int))), (16, aV (U3 (x:Int))), (17, aV (U3 (↑(65536 * x) : Int))), (18, aV (U3 (↑(16777216 * a + 65536 * x) : Int))), (21, aV (I6 0)), (22, aV (I6 2)), (24, aV (U8 (c:Int))), (25, aV (U3 (c:Int))), (26, aV (U3 (↑(256 * c) : Int))), (27, aV (U3 (↑(16777216 * a + 65536 * x + 256 * c) : Int))), (30, aV (I6 0)), (31, aV (I6 3)), (33, aV (U8 (y:Int))), (34, aV (U3 (y:Int))), (35, aV (U3 (↑(16777216 * a + 65536 * x + 256 * c + y) : Int))), (40, aV (I6 1))] [(1, 1), (2, 2), (656, 3)] (dsSA v0l nl b [(↑(16777216 * a + 65536 * x + 256 * c + y) : Int)] 1) (todo' := loopAt Tryz.f113 0) [I6 (IntKind.wrap .i64 ((4 : Int) * (0 : Int))) = I6 0, (0 : Int) ≤ (0 : Int), 0 < (↑(64 : Nat) : Int), U8 (List.getD b 0 (0 : Int)) = U8 (a:Int), 0 < 64, U3 (IntKind.wrap .u32 (a:Int)) = U3 (a:Int), U3 (IntKind.wrap .u32 ((a:Int) * (16777216 : Int))) = U3 (↑(16777216 * a) : Int), I6 (IntKind.wrap .i64 ((4 : Int) * (0 : Int))) = I6 0, I6 (IntKind.wrap .i64 ((0 : Int) + (1 : Int))) = I6 1, (0 : Int) ≤ (1 : Int), 1 < (↑(64 : Nat) : Int), U8 (List.getD b 1 (0 : Int)) = U8 (x:Int), 1 < 64, U3 (IntKind.wrap .u32 (x:Int)) = U3 (x:Int), U3 (IntKind.wrap .u32 ((x:Int) * (65536 : Int))) = U3 (↑(65536 * x) : Int), U3 (IntKind.wrap .u32 ((↑(16777216 * a) : Int) + (↑(65536 * x) : Int))) = U3 (↑(16777216 * a + 65536 * x) : Int), I6 (IntKind.wrap .i64 ((4 : Int) * (0 : Int))) = I6 0, I6 (IntKind.wrap .i64 ((0 : Int) + (2 : Int))) = I6 2, (0 : Int) ≤ (2 : Int), 2 < (↑(64 : Nat) : Int), U8 (List.getD b 2 (0 : Int)) = U8 (c:Int), 2 < 64, U3 (IntKind.wrap .u32 (c:Int)) = U3 (c:Int), U3 (IntKind.wrap .u32 ((c:Int) * (256 : Int))) = U3 (↑(256 * c) : Int), U3 (IntKind.wrap .u32 ((↑(16777216 * a + 65536 * x) : Int) + (↑(256 * c) : Int))) = U3 (↑(16777216 * a + 65536 * x + 256 * c) : Int), I6 (IntKind.wrap .i64 ((4 : Int) * (0 : Int))) = I6 0, I6 (IntKind.wrap .i64 ((0 : Int) + (3 : Int))) = I6 3, (0 : Int) ≤ (3 : Int), 3 < (↑(64 : Nat) : Int), U8 (List.getD b 3 (0 : Int)) = U8 (y:Int), 3 < 64, U3 (IntKind.wrap .u32 (y:Int)) = U3 (y:Int), U3 (IntKind.wrap .u32 ((↑(16777216 * a + 65536 * x + 256 * c) : Int) + (y:Int))) = U3 (↑(16777216 * a + 65536 * x + 256 * c + y) : Int), 1 ≤ 1, 0 < 1, 1 * 4 ≤ 140737488355328, 1 ≤ 9223372036854775807, I6 (IntKind.wrap .i64 ((0 : Int) + (1 : Int))) = I6 1, rr (PV.vec nl (B8 64 b)), rr (PV.at 1 []), rr (PV.at 2 []), rr (PV.ref 3 [] 1 0 1), I6 1 = I6 (↑(1 : Nat) : Int), rr (B3 8 v0l), rr (B3 8 (List.replicate 8 0)), rr (B3 1 [(↑(16777216 * a + 65536 * x + 256 * c + y) : Int)])] (by kernel_rfl) (ac (cg (w_i64 rfl (by omega) (by omega))) (ac (by omega) (ac (by omega) (ac (cg (e0)) (ac (by omega) (ac (cg (w_u32 rfl (by omega) (by omega))) (ac (cg (w_u32 (by omega) (by omega) (by omega))) (ac (cg (w_i64 rfl (by omega) (by omega))) (ac (cg (w_i64 rfl (by omega) (by omega))) (ac (by omega) (ac (by omega) (ac (cg (e1)) (ac (by omega) (ac (cg (w_u32 rfl (by omega) (by omega))) (ac (cg (w_u32 (by omega) (by omega) (by omega))) (ac (cg (w_u32 rfl (by omega) (by omega))) (ac (cg (w_i64 rfl (by omega) (by omega))) (ac (cg (w_i64 rfl (by omega) (by omega))) (ac (by omega) (ac (by omega) (ac (cg (e2)) (ac (by omega) (ac (cg (w_u32 rfl (by omega) (by omega))) (ac (cg (w_u32 (by omega) (by omega) (by omega))) (ac (cg (w_u32 rfl (by omega) (by omega))) (ac (cg (w_i64 rfl (by omega) (by omega))) (ac (cg (w_i64 rfl (by omega) (by omega))) (ac (by omega) (ac (by omega) (ac (cg (e3)) (ac (by omega) (ac (cg (w_u32 rfl (by omega) (by omega))) (ac (cg (w_u32 rfl (by omega) (by omega))) (ac (by omega) (ac (by omega) (ac (by omega) (ac (by omega) (ac (cg (w_i64 rfl (by omega) (by omega))) (ac rfl (ac rfl (ac rfl (ac rfl (ac (cg (by omega)) (ac rfl (ac rfl (ao rfl)))))))))))))))))))))))))))))))))))))))))))))) ?_
  exact hnx
end Go.Proofs
namespace Go.Proofs
open Go Go.Pe Go.Pm
set_option maxRecDepth 100000
set_option linter.unusedVariables false
theorem bytesOf_length (s : ByteArray) : (bytesOf s).length = s.size := by unfold bytesOf; rw [List.length_map]; rfl
theorem bytesOf_bytes (s : ByteArray) : Bytes (bytesOf s) := fun x hx => by
  simp only [bytesOf, List.mem_map] at hx
  obtain ⟨b, _, rfl⟩ := hx
  have := b.toNat_lt
  omega
theorem bytesOf_strOf {l : List Int} (h : Bytes l) : bytesOf (strOf l) = l := by
  unfold bytesOf strOf
  simp only [List.map_map]
  conv => rhs; rw [← List.map_id l]
  apply List.map_congr_left
  intro x hx
  have := h x hx
  simp only [Function.comp, id]
  rw [UInt8.toNat_ofNat_of_lt' (by simp [UInt8.size]; omega)]
  omega
theorem strOf_size (l : List Int) : (strOf l).size = l.length := by show (l.map _).length = _; rw [List.length_map]
def dsR0 (s : ByteArray) (n : Nat) (l : List Int) : DS := ⟨[(0, .str s), (2, .at 1 []), (3, .ref 2 [] 1 0 n)], [(1, rowB 32 y32), (2, rowB n l)]⟩
def dsR1 (s : ByteArray) (n : Nat) (l : List Int) (x i : Nat) : DS := ⟨[(2, .at 1 []), (3, .ref 2 [] 1 0 n), (4, .int .u64 x), (5, .int .i64 i)], [(1, rowB 32 y32), (2, rowB n l)]⟩
def dsR2 (n : Nat) (l : List Int) (x i d j : Nat) : DS := ⟨[(2, .at 1 []), (3, .ref 2 [] 1 0 n), (4, .int .u64 x), (5, .int .i64 i), (6, .int .u64 d), (7, .int .i64 j)], [(1, rowB 32 y32), (2, rowB n l)]⟩
def dsR3 (n : Nat) (l : List Int) (v : List Int) (off r : Nat) : DS := ⟨[(2, .at 1 []), (3, .ref 2 [] 1 off r), (8, .at 3 [])], [(1, rowB 32 y32), (2, rowB n l), (3, row3 8 v)]⟩
def dsR4 (v o : List Int) (i : Nat) : DS := ⟨[(2, .at 1 []), (8, .at 3 []), (9, .at 4 []), (10, .int .i64 i)], [(1, rowB 32 y32), (3, row3 8 v), (4, rowB 32 o)]⟩
theorem bytes_digit (v : V8) {i : Nat} (hi : i < 8) {k : Nat} (hk : k < 4) : v.bytes.getD (4 * i + k) 0 = ((at0 v.l i / 256 ^ (3 - k) % 256 : Nat) : Int) := by
  have h := bytes_part v hi
  have e : ((v.bytes.drop (4 * i)).take 4).getD k 0 = v.bytes.getD (4 * i + k) 0 := by
    rw [List.getD_eq_getElem?_getD, List.getElem?_take_of_lt hk, List.getElem?_drop, List.getD_eq_getElem?_getD]
  rw [← e, h]
  unfold be
  exact tab_getD (f := fun j => ((at0 v.l i / 256 ^ (4 - 1 - j) % 256 : Nat) : Int)) hk
set_option maxHeartbeats 4000000 in
theorem W_r4 {v : V8} (hv : v.Ok) : ∀ (k i : Nat) (o : List Int), i + k = 8 → o = mix y32 v.bytes (4 * i) →
    W Tryz.prog G0 Tryz.f93 [] [] (.iarr .u8 32 v.bytes) (loopAt Tryz.f93 4) (dsR4 v.l o i)
  | 0, i, o, hk, ho => by
    have e : o = v.bytes := by rw [ho, show 4 * i = 32 by omega]; exact mix_all rfl (V8.bytes_length v)
    rw [← e]
    generalize v.l = vl at *
    refine W.ret [(1, aF)] [] [decide ((i:Int) < 8) = false, rr (B8 32 o)] (by kernel_rfl) (ac (decide_eq_false (by omega)) (ao rfl))
  | k + 1, i, o, hk, ho => by
    have hol : o.length = 32 := by rw [ho]; exact mix_length rfl (V8.bytes_length v) (by omega)
    obtain ⟨e1, h1⟩ := (V8.W32 hv).get i
    have hvl : v.l.length = 8 := rfl
    have s0 := mix_set (h := y32) (s := v.bytes) (i := 4 * i) (n := 32) rfl (V8.bytes_length v) (by omega)
    have s1 := mix_set (h := y32) (s := v.bytes) (i := 4 * i + 1) (n := 32) rfl (V8.bytes_length v) (by omega)
    have s2 := mix_set (h := y32) (s := v.bytes) (i := 4 * i + 2) (n := 32) rfl (V8.bytes_length v) (by omega)
    have s3 := mix_set (h := y32) (s := v.bytes) (i := 4 * i + 3) (n := 32) rfl (V8.bytes_length v) (by omega)
    rw [← s2, ← s1, ← s0, ← ho, bytes_digit v (i := i) (by omega) (k := 3) (by omega), bytes_digit v (i := i) (by omega) (k := 2) (by omega), bytes_digit v (i := i) (by omega) (k := 1) (by omega)] at s3
    have d0 := bytes_digit v (i := i) (by omega) (k := 0) (by omega)
    rw [Nat.add_zero] at d0
    rw [d0] at s3
    simp only [Nat.sub_zero, Nat.reducePow, Nat.reduceSub, Nat.div_one] at s3
    have hw := W_r4 hv k (i + 1) _ (by omega) s3
    generalize at0 v.l i = x at *
    have hx : x / 16777216 % 256 = x / 16777216 := by omega
    rw [hx] at hw
    generalize v.bytes = vb at *
    generalize v.l = vl at *
    refine W.seg [(1, aT), (3, aV (I6 (↑(4 * i) : Int))), (6, aV (U3 (x:Int))), (7, aV (U3 (↑(x / 16777216) : Int))), (8, aV (U8 (↑(x / 16777216) : Int))), (9, aV (PV.at 4 [Stp.idx (4 * i) 1])), (12, aV (I6 (↑(4 * i) : Int))), (13, aV (I6 (↑(4 * i + 1) : Int))), (16, aV (U3 (x:Int))), (17, aV (U3 (↑(x / 65536) : Int))), (18, aV (U3 (↑(x / 65536 % 256) : Int))), (19, aV (U8 (↑(x / 65536 % 256) : Int))), (20, aV (PV.at 4 [Stp.idx (4 * i + 1) 1])), (23, aV (I6 (↑(4 * i) : Int))), (24, aV (I6 (↑(4 * i + 2) : Int))), (27, aV (U3 (x:Int))), (28, aV (U3 (↑(x / 256) : Int))), (29, aV (U3 (↑(x / 256 % 256) : Int))), (30, aV (U8 (↑(x / 256 % 256) : Int))), (31, aV (PV.at 4 [Stp.idx (4 * i + 2) 1])), (34, aV (I6 (↑(4 * i) : Int))), (35, aV (I6 (↑(4 * i + 3) : Int))), (38, aV (U3 (x:Int))), (39, aV (U3 (↑(x % 256) : Int))), (40, aV (U8 (↑(x % 256) : Int))), (41, aV (PV.at 4 [Stp.idx (4 * i + 3) 1])), (44, aV (I6 (↑(i + 1) : Int)))] [(1, 1), (3, 3), (4, 4)] (dsR4 vl (List.set (List.set (List.set (List.set o (4 * i) (↑(x / 16777216) : Int)) (4 * i + 1) (↑(x / 65536 % 256) : Int)) (4 * i + 2) (↑(x / 256 % 256) : Int)) (4 * i + 3) (↑(x % 256) : Int)) (i + 1)) (todo' := loopAt Tryz.f93 4) [decide ((i:Int) < 8) = true, I6 (IntKind.wrap .i64 (4 * (i:Int))) = I6 (↑(4 * i) : Int), 0 ≤ (i:Int), (i:Int) < (↑(8 : Nat) : Int), U3 (List.getD vl i (0 : Int)) = U3 (x:Int), i < 8, U3 (IntKind.wrap .u32 (Int.tdiv (x:Int) (16777216 : Int))) = U3 (↑(x / 16777216) : Int), (16777216 : Int) ≠ (0 : Int), U8 (IntKind.wrap .u8 (↑(x / 16777216) : Int)) = U8 (↑(x / 16777216) : Int), PV.at 4 [Stp.idx (Int.toNat (↑(4 * i) : Int)) 1] = PV.at 4 [Stp.idx (4 * i) 1], 0 ≤ (↑(4 * i) : Int), (↑(4 * i) : Int) < (↑(32 : Nat) : Int), 4 * i < 32, I6 (IntKind.wrap .i64 (4 * (i:Int))) = I6 (↑(4 * i) : Int), I6 (IntKind.wrap .i64 ((↑(4 * i) : Int) + 1)) = I6 (↑(4 * i + 1) : Int), 0 ≤ (i:Int), (i:Int) < (↑(8 : Nat) : Int), U3 (List.getD vl i (0 : Int)) = U3 (x:Int), i < 8, U3 (IntKind.wrap .u32 (Int.tdiv (x:Int) (65536 : Int))) = U3 (↑(x / 65536) : Int), (65536 : Int) ≠ (0 : Int), U3 (Int.tmod (↑(x / 65536) : Int) (256 : Int)) = U3 (↑(x / 65536 % 256) : Int), (256 : Int) ≠ (0 : Int), U8 (IntKind.wrap .u8 (↑(x / 65536 % 256) : Int)) = U8 (↑(x / 65536 % 256) : Int), PV.at 4 [Stp.idx (Int.toNat (↑(4 * i + 1) : Int)) 1] = PV.at 4 [Stp.idx (4 * i + 1) 1], 0 ≤ (↑(4 * i + 1) : Int), (↑(4 * i + 1) : Int) < (↑(32 : Nat) : Int), 4 * i + 1 < 32, I6 (IntKind.wrap .i64 (4 * (i:Int))) = I6 (↑(4 * i) : Int), I6 (IntKind.wrap .i64 ((↑(4 * i) : Int) + 2)) = I6 (↑(4 * i + 2) : Int), 0 ≤ (i:Int), (i:Int) < (↑(8 : Nat) : Int), U3 (List.getD vl i (0 : Int)) = U3 (x:Int), i < 8, U3 (IntKind.wrap .u32 (Int.tdiv (x:Int) (256 : Int))) = U3 (↑(x / 256) : Int), (256 : Int) ≠ (0 : Int), U3 (Int.tmod (↑(x / 256) : Int) (256 : Int)) = U3 (↑(x / 256 % 256) : Int), (256 : Int) ≠ (0 : Int), U8 (IntKind.wrap .u8 (↑(x / 256 % 256) : Int)) = U8 (↑(x / 256 % 256) : Int), PV.at 4 [Stp.idx (Int.toNat (↑(4 * i + 2) : Int)) 1] = PV.at 4 [Stp.idx (4 * i + 2) 1], 0 ≤ (↑(4 * i + 2) : Int), (↑(4 * i + 2) : Int) < (↑(32 : Nat) : Int), 4 * i + 2 < 32, I6 (IntKind.wrap .i64 (4 * (i:Int))) = I6 (↑(4 * i) : Int), I6 (IntKind.wrap .i64 ((↑(4 * i) : Int) + 3)) = I6 (↑(4 * i + 3) : Int), 0 ≤ (i:Int), (i:Int) < (↑(8 : Nat) : Int), U3 (List.getD vl i (0 : Int)) = U3 (x:Int), i < 8, U3 (Int.tmod (x:Int) (256 : Int)) = U3 (↑(x % 256) : Int), (256 : Int) ≠ (0 : Int), U8 (IntKind.wrap .u8 (↑(x % 256) : Int)) = U8 (↑(x % 256) : Int), PV.at 4 [Stp.idx (Int.toNat (↑(4 * i + 3) : Int)) 1] = PV.at 4 [Stp.idx (4 * i + 3) 1], 0 ≤ (↑(4 * i + 3) : Int), (↑(4 * i + 3) : Int) < (↑(32 : Nat) : Int), 4 * i + 3 < 32, I6 (IntKind.wrap .i64 ((i:Int) + 1)) = I6 (↑(i + 1) : Int), rr (PV.at 1 []), rr (PV.at 3 []), rr (PV.at 4 []), rr (I6 (↑(i + 1) : Int)), rr (B8 32 (List.replicate 32 0)), rr (B3 8 vl), rr (B8 32 (List.set (List.set (List.set (List.set o (4 * i) (↑(x / 16777216) : Int)) (4 * i + 1) (↑(x / 65536 % 256) : Int)) (4 * i + 2) (↑(x / 256 % 256) : Int)) (4 * i + 3) (↑(x % 256) : Int)))] (by kernel_rfl) (ac (decide_eq_true (by omega)) (ac (cg (w_i64 rfl (by omega) (by omega))) (ac (by omega) (ac (by omega) (ac (cg (e1)) (ac (by omega) (ac (cg (w_u32 rfl (by omega) (by omega))) (ac (by omega) (ac (cg (w_u8 rfl (by omega) (by omega))) (ac (by rw [show Int.toNat (↑(4 * i) : Int) = 4 * i by omega]) (ac (by omega) (ac (by omega) (ac (by omega) (ac (cg (w_i64 rfl (by omega) (by omega))) (ac (cg (w_i64 rfl (by omega) (by omega))) (ac (by omega) (ac (by omega) (ac (cg (e1)) (ac (by omega) (ac (cg (w_u32 rfl (by omega) (by omega))) (ac (by omega) (ac (cg rfl) (ac (by omega) (ac (cg (w_u8 rfl (by omega) (by omega))) (ac (by rw [show Int.toNat (↑(4 * i + 1) : Int) = 4 * i + 1 by omega]) (ac (by omega) (ac (by omega) (ac (by omega) (ac (cg (w_i64 rfl (by omega) (by omega))) (ac (cg (w_i64 rfl (by omega) (by omega))) (ac (by omega) (ac (by omega) (ac (cg (e1)) (ac (by omega) (ac (cg (w_u32 rfl (by omega) (by omega))) (ac (by omega) (ac (cg rfl) (ac (by omega) (ac (cg (w_u8 rfl (by omega) (by omega))) (ac (by rw [show Int.toNat (↑(4 * i + 2) : Int) = 4 * i + 2 by omega]) (ac (by omega) (ac (by omega) (ac (by omega) (ac (cg (w_i64 rfl (by omega) (by omega))) (ac (cg (w_i64 rfl (by omega) (by omega))) (ac (by omega) (ac (by omega) (ac (cg (e1)) (ac (by omega) (ac (cg rfl) (ac (by omega) (ac (cg (w_u8 rfl (by omega) (by omega))) (ac (by rw [show Int.toNat (↑(4 * i + 3) : Int) = 4 * i + 3 by omega]) (ac (by omega) (ac (by omega) (ac (by omega) (ac (cg (w_i64 rfl (by omega) (by omega))) (ac rfl (ac rfl (ac rfl (ac rfl (ac rfl (ac rfl (ao rfl)))))))))))))))))))))))))))))))))))))))))))))))))))))))))))))))) ?_
    exact hw
theorem absorb_next (k : Nat) (v : V8) (m : List Int) : absorb (k + 1) v m = blk (absorb k v m) ((m.drop (64 * k)).take 64) := by
  rw [absorb_add]; rfl
set_option maxHeartbeats 4000000 in
theorem W_r3 {n : Nat} {P : List Int} (hP : P.length = n) (hPb : Bytes P) (hn : n ≤ 1000000000) {N : Nat} (hN : 64 * N = n) : ∀ (r k : Nat), k + r = N →
    W Tryz.prog G0 Tryz.f93 [] [] (.iarr .u8 32 (absorb N iv P).bytes) (loopAt Tryz.f93 3) (dsR3 n P (absorb k iv P).l (64 * k) (64 * r))
  | 0, k, hk => by
    have e : k = N := by omega
    subst e
    have hw := W_r4 (v := absorb k iv P) (absorb_ok _ _ iv_ok) 8 0 y32 rfl rfl
    generalize (absorb k iv P).bytes = vb at *
    generalize (absorb k iv P).l = vl at *
    refine W.seg [(1, aV (I6 0))] [(1, 1), (3, 3), (112, 4)] (dsR4 vl y32 0) (todo' := loopAt Tryz.f93 4) [I6 (↑(0 : Nat) : Int) = I6 0, rr (PV.at 1 []), rr (PV.at 3 []), rr (PV.at 4 []), I6 0 = I6 (↑(0 : Nat) : Int), rr (B8 32 (List.replicate 32 0)), rr (B3 8 vl), rr (B8 32 (List.replicate 32 0))] (by kernel_rfl) (ac (cg (by omega)) (ac rfl (ac rfl (ac rfl (ac (cg (by omega)) (ac rfl (ac rfl (ao rfl)))))))) ?_
    exact hw
  | r + 1, k, hk => by
    have hw := W_r3 hP hPb hn hN r (k + 1) (by omega)
    rw [absorb_next] at hw
    have c1 := pc_rStep (v0 := absorb k iv P) (nl := false) (b := (drop0 P (64 * k)).take 64) (absorb_ok _ _ iv_ok) (by rw [drop0_eq]; exact (hPb.drop _).take _) (by rw [drop0_eq, List.length_take, List.length_drop]; omega)
    rw [drop0_eq] at c1
    generalize (blk (absorb k iv P) ((P.drop (64 * k)).take 64)).l = v2 at *
    rw [← drop0_eq] at c1
    generalize (absorb k iv P).l = vl at *
    generalize (absorb N iv P).bytes = vb at *
    have h1 : ((64 * (r + 1) : Nat) : Int) - 64 = ((64 * r : Nat) : Int) := by omega
    refine W.seg [(1, aV (I6 (↑(64 * r + 64) : Int))), (2, aT), (5, aV (PV.ref 2 [] 1 (64 * k) 64)), (6, aK (B3 8 v2)), (9, aV (PV.ref 2 [] 1 (64 * k + 64) (64 * r)))] [(1, 1), (2, 2), (3, 3)] (dsR3 n P v2 (64 * (k + 1)) (64 * r)) (todo' := loopAt Tryz.f93 3) [I6 (↑(64 * (r + 1)) : Int) = I6 (↑(64 * r + 64) : Int), decide ((↑(64 * r + 64) : Int) > 0) = true, PV.ref 2 [] 1 (64 * k + 0) 64 = PV.ref 2 [] 1 (64 * k) 64, (0 : Int) ≤ (0 : Int), (0 : Int) ≤ (64 : Int), 64 ≤ (↑(64 * (r + 1)) : Int), 64 * k + 64 ≤ n, PC Tryz.prog G0 113 [] [B3 8 vl, PV.vec false (B8 64 (List.take 64 (drop0 P (64 * k))))] [] (B3 8 v2), PV.ref 2 [] 1 (64 * k + 64) (Int.toNat ((↑(64 * (r + 1)) : Int) - (64 : Int))) = PV.ref 2 [] 1 (64 * k + 64) (64 * r), (0 : Int) ≤ (64 : Int), 64 ≤ (↑(64 * (r + 1)) : Int), (↑(64 * (r + 1)) : Int) ≤ (↑(64 * (r + 1)) : Int), rr (PV.at 1 []), PV.ref 2 [] 1 (64 * k + 64) (64 * r) = PV.ref 2 [] 1 (64 * (k + 1)) (64 * r), rr (PV.at 3 []), rr (B8 32 (List.replicate 32 0)), rr (B8 n P), rr (B3 8 v2)] (by kernel_rfl) (ac (cg (by omega)) (ac (decide_eq_true (by omega)) (ac (by simp only [Nat.add_zero]) (ac (by omega) (ac (by omega) (ac (by omega) (ac (by omega) (ac (c1) (ac (by rw [show Int.toNat ((↑(64 * (r + 1)) : Int) - (64 : Int)) = 64 * r by omega]) (ac (by omega) (ac (by omega) (ac (by omega) (ac rfl (ac rfl (ac rfl (ac rfl (ac rfl (ao rfl)))))))))))))))))) ?_
    exact hw
theorem W_r2 {n x i : Nat} {l res : List Int} (hx : x < 18446744073709551616) (hi : i < 8)
    (hnext : W Tryz.prog G0 Tryz.f93 [] [] (.iarr .u8 32 res) (loopAt Tryz.f93 1) (dsR1 .empty (n + 1) (l ++ [((x / 256 ^ (7 - i) % 256 : Nat) : Int)]) x (i + 1))) (hl : l.length = n) (hn : n ≤ 1000000000) : ∀ (k j d : Nat), j + k = 7 - i → d = x / 256 ^ j →
    W Tryz.prog G0 Tryz.f93 [] [] (.iarr .u8 32 res) (loopAt Tryz.f93 2) (dsR2 n l x i d j)
  | 0, j, d, hk, hd => by
    have hdl : d < 18446744073709551616 := by rw [hd]; exact Nat.lt_of_le_of_lt (Nat.div_le_self _ _) hx
    rw [show 7 - i = j by omega, ← hd] at hnext
    refine W.seg [(2, aV (I6 (7 - (i:Int)))), (3, aF), (6, aV (U6 (↑(d % 256) : Int))), (7, aV (U8 (↑(d % 256) : Int))), (9, Ans.ups [(2, none), (208, some (Row.mk (B8 (n + 1) (l ++ [(↑(d % 256) : Int)])) false))]), (12, aV (I6 (↑(i + 1) : Int)))] [(1, 1), (208, 2)] (DS.mk [(2, PV.at 1 []), (3, PV.ref 2 [] 1 0 (n + 1)), (4, U6 (x:Int)), (5, I6 (↑(i + 1) : Int))] [(1, rowB 32 y32), (2, rowB (n + 1) (l ++ [(↑(d % 256) : Int)]))]) (todo' := loopAt Tryz.f93 1) [I6 (IntKind.wrap .i64 (7 - (i:Int))) = I6 (7 - (i:Int)), decide ((j:Int) < 7 - (i:Int)) = false, U6 (Int.tmod (d:Int) (256 : Int)) = U6 (↑(d % 256) : Int), (256 : Int) ≠ (0 : Int), U8 (IntKind.wrap .u8 (↑(d % 256) : Int)) = U8 (↑(d % 256) : Int), ([(2, none), (208, some (Row.mk (B8 (n + 1) (List.take n l ++ [(↑(d % 256) : Int)])) false))] : List (Nat × Option Row)) = [(2, none), (208, some (Row.mk (B8 (n + 1) (l ++ [(↑(d % 256) : Int)])) false))], 1 ≤ 1, 0 + n = n, (n + 1) * 1 ≤ 140737488355328, n + 1 ≤ 9223372036854775807, I6 (IntKind.wrap .i64 ((i:Int) + 1)) = I6 (↑(i + 1) : Int), rr (PV.at 1 []), rr (PV.ref 2 [] 1 0 (n + 1)), rr (U6 (x:Int)), rr (I6 (↑(i + 1) : Int)), rr (B8 32 (List.replicate 32 0)), rr (B8 (n + 1) (l ++ [(↑(d % 256) : Int)]))] (by kernel_rfl) (ac (cg (w_i64 rfl (by omega) (by omega))) (ac (decide_eq_false (by omega)) (ac (cg rfl) (ac (by omega) (ac (cg (w_u8 rfl (by omega) (by omega))) (ac (by rw [List.take_of_length_le (show List.length l ≤ n by omega)]) (ac (by omega) (ac (by omega) (ac (by omega) (ac (by omega) (ac (cg (w_i64 rfl (by omega) (by omega))) (ac rfl (ac rfl (ac rfl (ac rfl (ac rfl (ao rfl))))))))))))))))) ?_
    exact hnext
  | k + 1, j, d, hk, hd => by
    have hdl : d < 18446744073709551616 := by rw [hd]; exact Nat.lt_of_le_of_lt (Nat.div_le_self _ _) hx
    have hw := W_r2 hx hi hnext hl hn k (j + 1) (d / 256) (by omega) (by rw [hd, Nat.pow_succ, Nat.div_div_eq_div_mul])
    refine W.seg [(2, aV (I6 (7 - (i:Int)))), (3, aT), (5, aV (U6 (↑(d / 256) : Int))), (8, aV (I6 (↑(j + 1) : Int)))] [(1, 1), (2, 2)] (dsR2 n l x i (d / 256) (j + 1)) (todo' := loopAt Tryz.f93 2) [I6 (IntKind.wrap .i64 (7 - (i:Int))) = I6 (7 - (i:Int)), decide ((j:Int) < 7 - (i:Int)) = true, U6 (IntKind.wrap .u64 (Int.tdiv (d:Int) (256 : Int))) = U6 (↑(d / 256) : Int), (256 : Int) ≠ (0 : Int), I6 (IntKind.wrap .i64 ((j:Int) + 1)) = I6 (↑(j + 1) : Int), rr (PV.at 1 []), rr (PV.ref 2 [] 1 0 n), rr (U6 (x:Int)), rr (I6 (i:Int)), rr (U6 (↑(d / 256) : Int)), rr (I6 (↑(j + 1) : Int)), rr (B8 32 (List.replicate 32 0)), rr (B8 n l)] (by kernel_rfl) (ac (cg (w_i64 rfl (by omega) (by omega))) (ac (decide_eq_true (by omega)) (ac (cg (w_u64 rfl (by omega) (by omega))) (ac (by omega) (ac (cg (w_i64 rfl (by omega) (by omega))) (ac rfl (ac rfl (ac rfl (ac rfl (ac rfl (ac rfl (ac rfl (ao rfl))))))))))))) ?_
    exact hw
theorem be_snoc {x i : Nat} (hi : i < 8) : (be x 8).take i ++ [((x / 256 ^ (7 - i) % 256 : Nat) : Int)] = (be x 8).take (i + 1) := by
  have h := take_snocI (s := be x 8) (i := i) (by rw [be_length]; omega)
  have e : (be x 8).getD i 0 = ((x / 256 ^ (7 - i) % 256 : Nat) : Int) := by
    unfold be
    exact tab_getD (f := fun j => ((x / 256 ^ (8 - 1 - j) % 256 : Nat) : Int)) hi
  rw [e] at h
  exact h
theorem W_r1 {s : ByteArray} {m : List Int} {x : Nat} (hx : x < 18446744073709551616) (hm : m.length % 64 = 56) (hml : m.length ≤ 900000000) (hmb : Bytes m) : ∀ (k i n : Nat) (l : List Int), i + k = 8 → n = m.length + i → l = m ++ (be x 8).take i →
    W Tryz.prog G0 Tryz.f93 [] [] (.iarr .u8 32 (absS iv (m ++ be x 8)).bytes) (loopAt Tryz.f93 1) (dsR1 s n l x i)
  | 0, i, n, l, hk, hn, hl => by
    have hi : i = 8 := by omega
    subst hi
    have e : l = m ++ be x 8 := by rw [hl, List.take_of_length_le (by rw [be_length]; omega)]
    have hll : l.length = n := by rw [e, List.length_append, be_length, hn]
    have hw := W_r3 (n := n) (P := m ++ be x 8) (by rw [List.length_append, be_length, hn]) (hmb.append (be_bytes _ _)) (by omega) (N := n / 64) (by omega) (n / 64) 0 (by omega)
    have e2 : absS iv (m ++ be x 8) = absorb (n / 64) iv (m ++ be x 8) := by unfold absS; rw [← e, hll]
    rw [e2]
    rw [← e] at hw ⊢
    have c1 := pc_rFirst
    have hn64 : 64 * (n / 64) = n := by omega
    rw [hn64] at hw
    rw [show absorb 0 iv l = iv from rfl] at hw
    generalize (absorb (n / 64) iv l).bytes = res at *
    generalize iv.l = ivl at *
    refine W.seg [(0, aV (I6 8)), (2, aK (B3 8 ivl))] [(1, 1), (2, 2), (112, 3)] (dsR3 n l ivl 0 n) (todo' := loopAt Tryz.f93 3) [I6 (↑(8 : Nat) : Int) = I6 8, PC Tryz.prog G0 112 [] [] [] (B3 8 ivl), rr (PV.at 1 []), rr (PV.ref 2 [] 1 0 n), rr (PV.at 3 []), rr (B8 32 (List.replicate 32 0)), rr (B8 n l), rr (B3 8 ivl)] (by kernel_rfl) (ac (cg (by omega)) (ac (c1) (ac rfl (ac rfl (ac rfl (ac rfl (ac rfl (ao rfl)))))))) ?_
    exact hw
  | k + 1, i, n, l, hk, hn, hl => by
    have hll : l.length = n := by rw [hl, List.length_append, List.length_take, be_length]; omega
    have hs := be_snoc (x := x) (i := i) (by omega)
    have hw := W_r1 (s := .empty) hx hm hml hmb k (i + 1) (n + 1) (l ++ [((x / 256 ^ (7 - i) % 256 : Nat) : Int)]) (by omega) (by omega) (by rw [hl, List.append_assoc, hs])
    have h2 := W_r2 hx (by omega) hw hll (by omega) (7 - i) 0 x (by omega) (by simp)
    generalize (absS iv (m ++ be x 8)).bytes = res at *
    refine W.seg [(1, aT)] [(1, 1), (2, 2)] (dsR2 n l x i x 0) (todo' := loopAt Tryz.f93 2) [decide ((i:Int) < 8) = true, rr (PV.at 1 []), rr (PV.ref 2 [] 1 0 n), rr (U6 (x:Int)), rr (I6 (i:Int)), rr (U6 (x:Int)), I6 0 = I6 (↑(0 : Nat) : Int), rr (B8 32 (List.replicate 32 0)), rr (B8 n l)] (by kernel_rfl) (ac (decide_eq_true (by omega)) (ac rfl (ac rfl (ac rfl (ac rfl (ac rfl (ac (cg (by omega)) (ac rfl (ao rfl))))))))) ?_
    exact h2
theorem W_r0 {s : ByteArray} {m : List Int} (hm : m = bytesOf s) (hms : s.size ≤ 100000000) : ∀ (k i n : Nat) (l : List Int), i + k = (119 - s.size % 64) % 64 → n = s.size + 1 + i → l = m ++ (128 :: List.replicate i 0) →
    W Tryz.prog G0 Tryz.f93 [] [] (.iarr .u8 32 (sha m)) (loopAt Tryz.f93 0) (dsR0 s n l)
  | 0, i, n, l, hk, hn, hl => by
    have hml : m.length = s.size := by rw [hm, bytesOf_length]
    have hll : l.length = n := by rw [hl, List.length_append, List.length_cons, List.length_replicate]; omega
    have hmod : n % 64 = 56 := by omega
    have hlb : Bytes l := by
      rw [hl, hm]
      refine (bytesOf_bytes s).append fun x hx => ?_
      rcases List.mem_cons.1 hx with rfl | hx
      · omega
      · have := List.eq_of_mem_replicate hx; omega
    have hw := W_r1 (s := .empty) (m := l) (x := 8 * s.size) (by omega) (by omega) (by omega) hlb 8 0 n l (by omega) (by omega) (by simp)
    have e : sha m = (absS iv (l ++ be (8 * s.size) 8)).bytes := by
      unfold sha padded padTo
      rw [hl, hml, show (64 + 64 - 8 - 1 - s.size % 64) % 64 = i by omega, Nat.mul_comm s.size]
    rw [e]
    generalize (absS iv (l ++ be (8 * s.size) 8)).bytes = res at *
    generalize hsz : s.size = sz at *
    have hszI : ((s.size : Nat) : Int) = (sz : Int) := by rw [hsz]
    refine W.seg [(2, aV (I6 (↑(n % 64) : Int))), (3, aF), (5, aV (I6 (sz:Int))), (6, aV (U6 (sz:Int))), (7, aV (U6 (↑(8 * sz) : Int)))] [(1, 1), (2, 2)] (DS.mk [(2, PV.at 1 []), (3, PV.ref 2 [] 1 0 n), (4, U6 (↑(8 * sz) : Int)), (5, I6 (↑(0 : Nat) : Int))] [(1, rowB 32 y32), (2, rowB n l)]) (todo' := loopAt Tryz.f93 1) [I6 (Int.tmod (n:Int) (64 : Int)) = I6 (↑(n % 64) : Int), (64 : Int) ≠ (0 : Int), ((↑(n % 64) : Int) != 56) = false, I6 (↑(ByteArray.size s) : Int) = I6 (sz:Int), U6 (IntKind.wrap .u64 (sz:Int)) = U6 (sz:Int), U6 (IntKind.wrap .u64 ((sz:Int) * (8 : Int))) = U6 (↑(8 * sz) : Int), rr (PV.at 1 []), rr (PV.ref 2 [] 1 0 n), rr (U6 (↑(8 * sz) : Int)), I6 0 = I6 (↑(0 : Nat) : Int), rr (B8 32 (List.replicate 32 0)), rr (B8 n l)] (by kernel_rfl) (ac (cg rfl) (ac (by omega) (ac (bne_eq_false_iff_eq.2 (by omega)) (ac (cg (hszI)) (ac (cg (w_u64 rfl (by omega) (by omega))) (ac (cg (w_u64 (by omega) (by omega) (by omega))) (ac rfl (ac rfl (ac rfl (ac (cg (by omega)) (ac rfl (ao rfl)))))))))))) ?_
    exact hw
  | k + 1, i, n, l, hk, hn, hl => by
    have hml : m.length = s.size := by rw [hm, bytesOf_length]
    have hll : l.length = n := by rw [hl, List.length_append, List.length_cons, List.length_replicate]; omega
    have hmod : ¬ n % 64 = 56 := by omega
    have hw := W_r0 hm hms k (i + 1) (n + 1) (l ++ [0]) (by omega) (by omega) (by rw [hl, List.append_assoc, List.cons_append, List.replicate_succ'])
    generalize sha m = res at *
    refine W.seg [(2, aV (I6 (↑(n % 64) : Int))), (3, aT), (6, Ans.ups [(2, none), (160, some (Row.mk (B8 (n + 1) (l ++ [(0 : Int)])) false))])] [(1, 1), (160, 2)] (dsR0 s (n + 1) (l ++ [(0 : Int)])) (todo' := loopAt Tryz.f93 0) [I6 (Int.tmod (n:Int) (64 : Int)) = I6 (↑(n % 64) : Int), (64 : Int) ≠ (0 : Int), ((↑(n % 64) : Int) != 56) = true, ([(2, none), (160, some (Row.mk (B8 (n + 1) (List.take n l ++ [(0 : Int)])) false))] : List (Nat × Option Row)) = [(2, none), (160, some (Row.mk (B8 (n + 1) (l ++ [(0 : Int)])) false))], 1 ≤ 1, 0 + n = n, (n + 1) * 1 ≤ 140737488355328, n + 1 ≤ 9223372036854775807, rr (PV.str s), rr (PV.at 1 []), rr (PV.ref 2 [] 1 0 (n + 1)), rr (B8 32 (List.replicate 32 0)), rr (B8 (n + 1) (l ++ [(0 : Int)]))] (by kernel_rfl) (ac (cg rfl) (ac (by omega) (ac (bne_iff_ne.2 (by omega)) (ac (by rw [List.take_of_length_le (show List.length l ≤ n by omega)]) (ac (by omega) (ac (by omega) (ac (by omega) (ac (by omega) (ac rfl (ac rfl (ac rfl (ac rfl (ao rfl))))))))))))) ?_
    exact hw
theorem pc_rSum {s : ByteArray} (hs : s.size ≤ 100000000) : PC Tryz.prog G0 93 [] [.str s] [] (.iarr .u8 32 (sha (bytesOf s))) := by
  refine PC.of (fn := Tryz.f93) (c := bodyOf Tryz.f93) Tryz.func93 (by kernel_rfl) (by kernel_rfl) (by kernel_rfl) (by kernel_rfl) ?_
  have hml := bytesOf_length s
  have hw := W_r0 (m := bytesOf s) rfl hs _ 0 (s.size + 1) (bytesOf s ++ [128]) (Nat.zero_add _) rfl rfl
  generalize sha (bytesOf s) = res at *
  refine W.seg [(4, Ans.ups [(96, none), (128, some (Row.mk (B8 (ByteArray.size s + 1) (bytesOf s ++ [(128 : Int)])) false))])] [(64, 1), (128, 2)] (dsR0 s (ByteArray.size s + 1) (bytesOf s ++ [(128 : Int)])) (todo' := loopAt Tryz.f93 0) [([(96, none), (128, some (Row.mk (B8 (ByteArray.size s + 1) (List.take (ByteArray.size s) (bytesOf s) ++ [(128 : Int)])) false))] : List (Nat × Option Row)) = [(96, none), (128, some (Row.mk (B8 (ByteArray.size s + 1) (bytesOf s ++ [(128 : Int)])) false))], 1 ≤ 1, 0 + ByteArray.size s = ByteArray.size s, (ByteArray.size s + 1) * 1 ≤ 140737488355328, ByteArray.size s + 1 ≤ 9223372036854775807, rr (PV.str s), rr (PV.at 1 []), rr (PV.ref 2 [] 1 0 (ByteArray.size s + 1)), rr (B8 32 (List.replicate 32 0)), rr (B8 (ByteArray.size s + 1) (bytesOf s ++ [(128 : Int)]))] (by kernel_rfl) (ac (by rw [List.take_of_length_le (show List.length (bytesOf s) ≤ ByteArray.size s by omega)]) (ac (by omega) (ac (by omega) (ac (by omega) (ac (by omega) (ac rfl (ac rfl (ac rfl (ac rfl (ao rfl)))))))))) ?_
  exact hw
theorem pc_rTwice {s : ByteArray} (hs : s.size ≤ 100000000) : PC Tryz.prog G0 75 [] [.str s] [] (.iarr .u8 32 (dsha (bytesOf s))) := by
  refine PC.of (fn := Tryz.f75) (c := bodyOf Tryz.f75) Tryz.func75 (by kernel_rfl) (by kernel_rfl) (by kernel_rfl) (by kernel_rfl) ?_
  have c1 := pc_rSum hs
  have hl := sha_length (bytesOf s)
  have hb := sha_bytes (bytesOf s)
  have c2 := pc_rSum (s := strOf (sha (bytesOf s))) (by rw [strOf_size, hl]; omega)
  rw [bytesOf_strOf hb] at c2
  unfold dsha
  generalize sha (bytesOf s) = x at *
  generalize sha x = res at *
  refine W.ret [(2, aK (B8 32 x)), (6, aV (PV.str (strOf x))), (7, aK (B8 32 res))] [] [PC Tryz.prog G0 93 [] [PV.str s] [] (B8 32 x), (0 : Int) ≤ (0 : Int), 0 ≤ (↑(32 : Nat) : Int), (↑(32 : Nat) : Int) ≤ (↑(32 : Nat) : Int), PV.str (strOf (List.take 32 x)) = PV.str (strOf x), 32 ≤ 32, PC Tryz.prog G0 93 [] [PV.str (strOf x)] [] (B8 32 res), rr (B8 32 res)] (by kernel_rfl) (ac (c1) (ac (by omega) (ac (by omega) (ac (by omega) (ac (by rw [List.take_of_length_le (show List.length x ≤ 32 by omega)]) (ac (by omega) (ac (c2) (ao rfl))))))))
end Go.Proofs
namespace Go.Proofs
open Go Go.Pe Go.Pm
set_option maxRecDepth 100000
set_option linter.unusedVariables false
theorem pc_held01 {w : Nat} (hw : w ≤ 8) : PC Tryz.prog G0 115 [] [.int .i64 w] [] (.int .i64 w) := by
  refine PC.of (fn := Tryz.f115) (c := bodyOf Tryz.f115) Tryz.func115 (by kernel_rfl) (by kernel_rfl) (by kernel_rfl) (by kernel_rfl) ?_
  refine W.ret [(4, aF)] [] [decide ((w:Int) > 8) = false, rr (I6 (w:Int))] (by kernel_rfl) (ac (decide_eq_false (by omega)) (ao rfl))
theorem le_get {x w i : Nat} (h : i < w) : (le x w).getD i 0 = ((x / 2 ^ (8 * i) % 256 : Nat) : Int) := tab_getD h
def dsDg (y w n i : Nat) (l : List Int) : DS := ⟨[(0, .int .u64 y), (1, .int .i64 w), (5, .ref 1 [] 1 0 n), (6, .int .i64 i)], [(1, rowI n l)]⟩
theorem W_dg {x w : Nat} (hx : x < 18446744073709551616) (hw : w ≤ 8) : ∀ (k i y : Nat) (l : List Int), i + k = w → y = x / 2 ^ (8 * i) → l = (le x w).take i →
    W Tryz.prog G0 Tryz.f114 [] [(1, rowI w (le x w))] (.ref 1 [] 1 0 w) (loopAt Tryz.f114 0) (dsDg y w i i l)
  | 0, i, y, l, hk, hy, hl => by
    have hi : i = w := by omega
    subst hi
    have e : l = le x i := by rw [hl]; exact List.take_of_length_le (by rw [le_length]; omega)
    rw [← e]
    refine W.ret [(2, aF)] [(1, 1)] [decide ((i:Int) < (i:Int)) = false, rr (BI i l), rr (PV.ref 1 [] 1 0 i)] (by kernel_rfl) (ac (decide_eq_false (by omega)) (ac rfl (ao rfl)))
  | k + 1, i, y, l, hk, hy, hl => by
    have hll : l.length = i := by rw [hl, List.length_take, le_length]; omega
    have hyl : y < 18446744073709551616 := by rw [hy]; exact Nat.lt_of_le_of_lt (Nat.div_le_self _ _) hx
    have hs := take_snocI (s := le x w) (i := i) (by rw [le_length]; omega)
    rw [le_get (by omega), ← hl, ← hy] at hs
    have hy2 : y / 256 = x / 2 ^ (8 * (i + 1)) := by rw [hy, Nat.div_div_eq_div_mul, pow8, Nat.mul_comm 256]
    have hw2 := W_dg hx hw k (i + 1) (y / 256) _ (by omega) hy2 hs
    generalize le x w = L at *
    refine W.seg [(2, aT), (5, aV (U6 (↑(y % 256) : Int))), (6, aV (I6 (↑(y % 256) : Int))), (8, Ans.ups [(1, none), (192, some (Row.mk (BI (i + 1) (l ++ [(↑(y % 256) : Int)])) false))]), (11, aV (U6 (↑(y / 256) : Int))), (14, aV (I6 (↑(i + 1) : Int)))] [(192, 1)] (dsDg (y / 256) w (i + 1) (i + 1) (l ++ [(↑(y % 256) : Int)])) (todo' := loopAt Tryz.f114 0) [decide ((i:Int) < (w:Int)) = true, U6 (Int.tmod (y:Int) (256 : Int)) = U6 (↑(y % 256) : Int), (256 : Int) ≠ (0 : Int), I6 (IntKind.wrap .i64 (↑(y % 256) : Int)) = I6 (↑(y % 256) : Int), ([(1, none), (192, some (Row.mk (BI (i + 1) (List.take i l ++ [(↑(y % 256) : Int)])) false))] : List (Nat × Option Row)) = [(1, none), (192, some (Row.mk (BI (i + 1) (l ++ [(↑(y % 256) : Int)])) false))], 1 ≤ 1, 0 + i = i, (i + 1) * 8 ≤ 140737488355328, i + 1 ≤ 9223372036854775807, U6 (IntKind.wrap .u64 (Int.tdiv (y:Int) (256 : Int))) = U6 (↑(y / 256) : Int), (256 : Int) ≠ (0 : Int), I6 (IntKind.wrap .i64 ((i:Int) + 1)) = I6 (↑(i + 1) : Int), rr (U6 (↑(y / 256) : Int)), rr (I6 (w:Int)), rr (PV.ref 1 [] 1 0 (i + 1)), rr (I6 (↑(i + 1) : Int)), rr (BI (i + 1) (l ++ [(↑(y % 256) : Int)]))] (by kernel_rfl) (ac (decide_eq_true (by omega)) (ac (cg rfl) (ac (by omega) (ac (cg (w_i64 rfl (by omega) (by omega))) (ac (by rw [List.take_of_length_le (show List.length l ≤ i by omega)]) (ac (by omega) (ac (by omega) (ac (by omega) (ac (by omega) (ac (cg (w_u64 rfl (by omega) (by omega))) (ac (by omega) (ac (cg (w_i64 rfl (by omega) (by omega))) (ac rfl (ac rfl (ac rfl (ac rfl (ao rfl))))))))))))))))) ?_
    exact hw2
theorem pc_digits {x w : Nat} (hx : x < 18446744073709551616) (hw : w ≤ 8) (h0 : 0 < w) : PC Tryz.prog G0 114 [] [.int .u64 x, .int .i64 w] [(1, rowI w (le x w))] (.ref 1 [] 1 0 w) := by
  refine PC.of (fn := Tryz.f114) (c := bodyOf Tryz.f114) Tryz.func114 (by kernel_rfl) (by kernel_rfl) (by kernel_rfl) (by kernel_rfl) ?_
  have hs := take_snocI (s := le x w) (i := 0) (by rw [le_length]; omega)
  rw [le_get (by omega), List.take_zero, List.nil_append, Nat.mul_zero, Nat.pow_zero, Nat.div_one] at hs
  have hw2 := W_dg hx hw (w - 1) 1 (x / 256) _ (by omega) rfl hs
  generalize le x w = L at *
  refine W.seg [] [] (DS.mk [(0, U6 (x:Int)), (1, I6 (w:Int)), (5, PV.vec true (BI 0 [])), (6, I6 (↑(0 : Nat) : Int))] []) (todo' := loopAt Tryz.f114 0) [rr (U6 (x:Int)), rr (I6 (w:Int)), rr (PV.vec true (BI 0 [])), I6 0 = I6 (↑(0 : Nat) : Int)] (by kernel_rfl) (ac rfl (ac rfl (ac rfl (ao (cg (by omega)))))) ?_
  refine W.seg [(0, aV (I6 0)), (2, aT), (5, aV (U6 (↑(x % 256) : Int))), (6, aV (I6 (↑(x % 256) : Int))), (11, aV (U6 (↑(x / 256) : Int))), (13, aV (I6 0)), (14, aV (I6 1))] [(192, 1)] (dsDg (x / 256) w 1 1 [(↑(x % 256) : Int)]) (todo' := loopAt Tryz.f114 0) [I6 (↑(0 : Nat) : Int) = I6 0, decide (0 < (w:Int)) = true, U6 (Int.tmod (x:Int) (256 : Int)) = U6 (↑(x % 256) : Int), (256 : Int) ≠ (0 : Int), I6 (IntKind.wrap .i64 (↑(x % 256) : Int)) = I6 (↑(x % 256) : Int), 1 ≤ 1, 0 < 1, 8 ≤ 140737488355328, 1 ≤ 9223372036854775807, U6 (IntKind.wrap .u64 (Int.tdiv (x:Int) (256 : Int))) = U6 (↑(x / 256) : Int), (256 : Int) ≠ (0 : Int), I6 (↑(0 : Nat) : Int) = I6 0, I6 (IntKind.wrap .i64 ((0 : Int) + (1 : Int))) = I6 1, rr (U6 (↑(x / 256) : Int)), rr (I6 (w:Int)), rr (PV.ref 1 [] 1 0 1), I6 1 = I6 (↑(1 : Nat) : Int), rr (BI 1 [(↑(x % 256) : Int)])] (by kernel_rfl) (ac (cg (by omega)) (ac (decide_eq_true (by omega)) (ac (cg rfl) (ac (by omega) (ac (cg (w_i64 rfl (by omega) (by omega))) (ac (by omega) (ac (by omega) (ac (by omega) (ac (by omega) (ac (cg (w_u64 rfl (by omega) (by omega))) (ac (by omega) (ac (cg (by omega)) (ac (cg (w_i64 rfl (by omega) (by omega))) (ac rfl (ac rfl (ac rfl (ac (cg (by omega)) (ao rfl)))))))))))))))))) ?_
  exact hw2
def dsN6 (w i : Nat) (L l : List Int) : DS := ⟨[(5, .ref 1 [] 1 0 i), (12, .ref 2 [] 1 0 w), (13, .int .i64 w), (14, .int .i64 i)], [(1, rowB i l), (2, rowI w L)]⟩
theorem W_n6 {w : Nat} {L : List Int} (hL : L.length = w) (hb : Bytes L) (hw : w ≤ 8) : ∀ (k i : Nat) (l : List Int), i + k = w → l = L.take i →
    W Tryz.prog G0 Tryz.f94 [] [] (.str (strOf L)) (loopAt Tryz.f94 0) (dsN6 w i L l)
  | 0, i, l, hk, hl => by
    have hi : i = w := by omega
    subst hi
    have e : l = L := by rw [hl]; exact List.take_of_length_le (by omega)
    subst e
    refine W.ret [(0, aF), (2, aV (PV.str (strOf l)))] [] [decide ((i:Int) < (i:Int)) = false, PV.str (strOf (List.take i l)) = PV.str (strOf l), 0 + i ≤ i, rr (PV.str (strOf l))] (by kernel_rfl) (ac (decide_eq_false (by omega)) (ac (by rw [List.take_of_length_le (show List.length l ≤ i by omega)]) (ac (by omega) (ao rfl))))
  | k + 1, i, l, hk, hl => by
    have hll : l.length = i := by rw [hl, List.length_take]; omega
    have hs := take_snocI (s := L) (i := i) (by omega)
    obtain ⟨e, h1⟩ := hb.get i
    rw [e, ← hl] at hs
    have hw2 := W_n6 hL hb hw k (i + 1) _ (by omega) hs
    generalize at0 L i = b at *
    refine W.seg [(0, aT), (1, aV (PV.at 2 [Stp.idx i 1])), (2, aV (I6 (b:Int))), (6, aV (U8 (b:Int))), (8, Ans.ups [(1, none), (192, some (Row.mk (B8 (i + 1) (l ++ [(b:Int)])) false))]), (10, aV (I6 (↑(i + 1) : Int)))] [(192, 1), (2, 2)] (dsN6 w (i + 1) L (l ++ [(b:Int)])) (todo' := loopAt Tryz.f94 0) [decide ((i:Int) < (w:Int)) = true, PV.at 2 [Stp.idx (0 + i) 1] = PV.at 2 [Stp.idx i 1], 0 ≤ (i:Int), (i:Int) < (w:Int), I6 (List.getD L i (0 : Int)) = I6 (b:Int), i < w, U8 (IntKind.wrap .u8 (b:Int)) = U8 (b:Int), ([(1, none), (192, some (Row.mk (B8 (i + 1) (List.take i l ++ [(b:Int)])) false))] : List (Nat × Option Row)) = [(1, none), (192, some (Row.mk (B8 (i + 1) (l ++ [(b:Int)])) false))], 1 ≤ 1, 0 + i = i, (i + 1) * 1 ≤ 140737488355328, i + 1 ≤ 9223372036854775807, I6 (IntKind.wrap .i64 ((i:Int) + 1)) = I6 (↑(i + 1) : Int), rr (PV.ref 1 [] 1 0 (i + 1)), rr (PV.ref 2 [] 1 0 w), rr (I6 (w:Int)), rr (I6 (↑(i + 1) : Int)), rr (B8 (i + 1) (l ++ [(b:Int)])), rr (BI w L)] (by kernel_rfl) (ac (decide_eq_true (by omega)) (ac (by simp only [Nat.zero_add]) (ac (by omega) (ac (by omega) (ac (cg (e)) (ac (by omega) (ac (cg (w_u8 rfl (by omega) (by omega))) (ac (by rw [List.take_of_length_le (show List.length l ≤ i by omega)]) (ac (by omega) (ac (by omega) (ac (by omega) (ac (by omega) (ac (cg (w_i64 rfl (by omega) (by omega))) (ac rfl (ac rfl (ac rfl (ac rfl (ac rfl (ao rfl))))))))))))))))))) ?_
    exact hw2
theorem pc_num06 {x w : Nat} (hx : x < 18446744073709551616) (hw : w ≤ 8) (h0 : 0 < w) : PC Tryz.prog G0 94 [] [.int .u64 x, .int .i64 w] [] (.str (strOf (le x w))) := by
  refine PC.of (fn := Tryz.f94) (c := bodyOf Tryz.f94) Tryz.func94 (by kernel_rfl) (by kernel_rfl) (by kernel_rfl) (by kernel_rfl) ?_
  have c1 := pc_held01 hw
  have c2 := pc_digits hx hw h0
  have hw2 := W_n6 (le_length x w) (le_bytes x w) hw w 0 [] (by omega) rfl
  have hl := le_length x w
  generalize le x w = L at *
  refine W.seg [(5, aK (I6 (w:Int))), (6, Ans.call true [] [(1, Row.mk (BI w L) false)] (PV.ref 1 [] 1 0 w))] [(80, 1), (161, 2)] (dsN6 w 0 L []) (todo' := loopAt Tryz.f94 0) [PC Tryz.prog G0 115 [] [I6 (w:Int)] [] (I6 (w:Int)), PC Tryz.prog G0 114 [] [U6 (x:Int), I6 (w:Int)] [(1, Row.mk (BI w L) false)] (PV.ref 1 [] 1 0 w), rr (PV.ref 1 [] 1 0 0), rr (PV.ref 2 [] 1 0 w), rr (I6 (w:Int)), I6 0 = I6 (↑(0 : Nat) : Int), rr (B8 0 []), rr (BI w L)] (by kernel_rfl) (ac (c1) (ac (c2) (ac rfl (ac rfl (ac rfl (ac (cg (by omega)) (ac rfl (ao rfl)))))))) ?_
  exact hw2
theorem strOf_append (a b : List Int) : strOf a ++ strOf b = strOf (a ++ b) := by
  unfold strOf
  apply ByteArray.ext
  simp [List.map_append]
set_option maxHeartbeats 4000000 in
theorem pc_bytes07 {h : Hd} (ho : h.Ok) : PC Tryz.prog G0 76 [] [h.pv] [] (.str (strOf (hb h))) := by
  refine PC.of (fn := Tryz.f76) (c := bodyOf Tryz.f76) Tryz.func76 (by kernel_rfl) (by kernel_rfl) (by kernel_rfl) (by kernel_rfl) ?_
  have p1 := ho.ver
  have p2 := ho.time
  have p3 := ho.bits
  have p4 := ho.nonce
  have p5 := ho.prev
  have p6 := ho.root
  have c1 := pc_num06 (x := h.ver) (w := 4) (by omega) (by omega) (by omega)
  have c2 := pc_num06 (x := h.time) (w := 4) (by omega) (by omega) (by omega)
  have c3 := pc_num06 (x := h.bits) (w := 4) (by omega) (by omega) (by omega)
  have c4 := pc_num06 (x := h.nonce) (w := 4) (by omega) (by omega) (by omega)
  have e : strOf (hb h) = ((((strOf (le h.ver 4) ++ strOf h.prev) ++ strOf h.root) ++ strOf (le h.time 4)) ++ strOf (le h.bits 4)) ++ strOf (le h.nonce 4) := by
    unfold hb
    simp only [strOf_append, List.append_assoc]
  rw [e]
  have l1 := le_length h.ver 4
  have l2 := le_length h.time 4
  have l3 := le_length h.bits 4
  have l4 := le_length h.nonce 4
  have s1 : (strOf (le h.ver 4)).size = 4 := by rw [strOf_size, l1]
  have s2 : (strOf h.prev).size = 32 := by rw [strOf_size, p5]
  have s3 : (strOf h.root).size = 32 := by rw [strOf_size, p6]
  have s4 : (strOf (le h.time 4)).size = 4 := by rw [strOf_size, l2]
  have s5 : (strOf (le h.bits 4)).size = 4 := by rw [strOf_size, l3]
  have s6 : (strOf (le h.nonce 4)).size = 4 := by rw [strOf_size, l4]
  generalize le h.ver 4 = a1 at *
  generalize le h.time 4 = a2 at *
  generalize le h.bits 4 = a3 at *
  generalize le h.nonce 4 = a4 at *
  refine W.ret [(4, aV (U6 (↑(Hd.ver h) : Int))), (5, aK (PV.str (strOf a1))), (8, aV (PV.str (strOf (Hd.prev h)))), (12, aV (PV.str (strOf (Hd.root h)))), (18, aV (U6 (↑(Hd.time h) : Int))), (19, aK (PV.str (strOf a2))), (23, aV (U6 (↑(Hd.bits h) : Int))), (24, aK (PV.str (strOf a3))), (28, aV (U6 (↑(Hd.nonce h) : Int))), (29, aK (PV.str (strOf a4)))] [] [U6 (IntKind.wrap .u64 (↑(Hd.ver h) : Int)) = U6 (↑(Hd.ver h) : Int), PC Tryz.prog G0 94 [] [U6 (↑(Hd.ver h) : Int), I6 4] [] (PV.str (strOf a1)), (0 : Int) ≤ (0 : Int), 0 ≤ (↑(32 : Nat) : Int), (↑(32 : Nat) : Int) ≤ (↑(32 : Nat) : Int), PV.str (strOf (List.take 32 (Hd.prev h))) = PV.str (strOf (Hd.prev h)), 32 ≤ 32, ByteArray.size (strOf a1) + ByteArray.size (strOf (Hd.prev h)) ≤ 9223372036854775807, (0 : Int) ≤ (0 : Int), 0 ≤ (↑(32 : Nat) : Int), (↑(32 : Nat) : Int) ≤ (↑(32 : Nat) : Int), PV.str (strOf (List.take 32 (Hd.root h))) = PV.str (strOf (Hd.root h)), 32 ≤ 32, ByteArray.size (strOf a1 ++ strOf (Hd.prev h)) + ByteArray.size (strOf (Hd.root h)) ≤ 9223372036854775807, U6 (IntKind.wrap .u64 (↑(Hd.time h) : Int)) = U6 (↑(Hd.time h) : Int), PC Tryz.prog G0 94 [] [U6 (↑(Hd.time h) : Int), I6 4] [] (PV.str (strOf a2)), ByteArray.size (strOf a1 ++ strOf (Hd.prev h) ++ strOf (Hd.root h)) + ByteArray.size (strOf a2) ≤ 9223372036854775807, U6 (IntKind.wrap .u64 (↑(Hd.bits h) : Int)) = U6 (↑(Hd.bits h) : Int), PC Tryz.prog G0 94 [] [U6 (↑(Hd.bits h) : Int), I6 4] [] (PV.str (strOf a3)), ByteArray.size (strOf a1 ++ strOf (Hd.prev h) ++ strOf (Hd.root h) ++ strOf a2) + ByteArray.size (strOf a3) ≤ 9223372036854775807, U6 (IntKind.wrap .u64 (↑(Hd.nonce h) : Int)) = U6 (↑(Hd.nonce h) : Int), PC Tryz.prog G0 94 [] [U6 (↑(Hd.nonce h) : Int), I6 4] [] (PV.str (strOf a4)), ByteArray.size (strOf a1 ++ strOf (Hd.prev h) ++ strOf (Hd.root h) ++ strOf a2 ++ strOf a3) + ByteArray.size (strOf a4) ≤ 9223372036854775807, rr (PV.str (strOf a1 ++ strOf (Hd.prev h) ++ strOf (Hd.root h) ++ strOf a2 ++ strOf a3 ++ strOf a4))] (by kernel_rfl) (ac (cg (w_u64 rfl (by omega) (by omega))) (ac (c1) (ac (by omega) (ac (by omega) (ac (by omega) (ac (by rw [List.take_of_length_le (show List.length (Hd.prev h) ≤ 32 by omega)]) (ac (by omega) (ac (by omega) (ac (by omega) (ac (by omega) (ac (by omega) (ac (by rw [List.take_of_length_le (show List.length (Hd.root h) ≤ 32 by omega)]) (ac (by omega) (ac (by (simp; omega)) (ac (cg (w_u64 rfl (by omega) (by omega))) (ac (c2) (ac (by (simp; omega)) (ac (cg (w_u64 rfl (by omega) (by omega))) (ac (c3) (ac (by (simp; omega)) (ac (cg (w_u64 rfl (by omega) (by omega))) (ac (c4) (ac (by (simp; omega)) (ao rfl))))))))))))))))))))))))
end Go.Proofs
namespace Go.Proofs
open Go Go.Pe Go.Pm
set_option maxRecDepth 100000
set_option linter.unusedVariables false
def hsh : Sh := .st 68 [.int .u32, .iarr .u8 32, .iarr .u8 32, .int .u32, .int .u32, .int .u32]
instance : Inhabited Hd := ⟨⟨0, [], [], 0, 0, 0⟩⟩
/-- a line of headers -/
def lpv (nl : Bool) (l : List Hd) : PV := .vec nl (.parr 68 l.length hsh (l.map Hd.pv))
theorem map_get {l : List Hd} {i : Nat} (h : i < l.length) : (l.map Hd.pv).getD i .undef = (l.getD i default).pv := by
  simp [List.getD_eq_getElem?_getD, h]
theorem ok_get {l : List Hd} {i : Nat} (ho : ∀ h ∈ l, h.Ok) (hi : i < l.length) : (l.getD i default).Ok := by
  rw [List.getD_eq_getElem?_getD, List.getElem?_eq_getElem hi]
  exact ho _ (List.getElem_mem hi)
set_option maxHeartbeats 4000000 in
theorem pc_ruleBitsK {p : Prm} {nl : Bool} {l : List Hd} {n q : Nat} (hp : p.per = (q : Int)) (hq : 1 ≤ q) (hn : l.length = n) (h0 : 0 < n) (hn1 : n ≤ 1000000) (hm : ¬ n % q = 0) : PC Tryz.prog G0 22 [] [p.pv, lpv nl l] [] (.tup [.int .u32 (l.getD (n - 1) default).bits, .int .i64 0]) := by
  refine PC.of (fn := Tryz.f22) (c := bodyOf Tryz.f22) Tryz.func22 (by kernel_rfl) (by kernel_rfl) (by kernel_rfl) (by kernel_rfl) ?_
  have g := map_get (l := l) (i := n - 1) (by omega)
  have hi : (n : Int) - 1 = ((n - 1 : Nat) : Int) := by omega
  unfold lpv
  rw [hn]
  generalize n - 1 = k at *
  refine W.ret [(7, aF), (10, aV (I6 (k:Int))), (12, aV (PV.st 68 [U3 (↑(Hd.ver (List.getD l k default)) : Int), B8 32 (Hd.prev (List.getD l k default)), B8 32 (Hd.root (List.getD l k default)), U3 (↑(Hd.time (List.getD l k default)) : Int), U3 (↑(Hd.bits (List.getD l k default)) : Int), U3 (↑(Hd.nonce (List.getD l k default)) : Int)])), (17, aV (I6 (q:Int))), (18, aV (I6 (↑(n % q) : Int))), (19, aT)] [] [((n:Int) == 0) = false, I6 (IntKind.wrap .i64 ((n:Int) - 1)) = I6 (k:Int), 0 ≤ (k:Int), (k:Int) < (n:Int), expose hsh (List.getD (List.map Hd.pv l) k PV.undef) = PV.st 68 [U3 (↑(Hd.ver (List.getD l k default)) : Int), B8 32 (Hd.prev (List.getD l k default)), B8 32 (Hd.root (List.getD l k default)), U3 (↑(Hd.time (List.getD l k default)) : Int), U3 (↑(Hd.bits (List.getD l k default)) : Int), U3 (↑(Hd.nonce (List.getD l k default)) : Int)], k < n, I6 (Prm.per p) = I6 (q:Int), I6 (Int.tmod (n:Int) (q:Int)) = I6 (↑(n % q) : Int), (q:Int) ≠ (0 : Int), ((↑(n % q) : Int) != 0) = true, rr (PV.tup [U3 (↑(Hd.bits (List.getD l k default)) : Int), I6 0])] (by kernel_rfl) (ac (decide_eq_false (by omega)) (ac (cg (w_i64 hi (by omega) (by omega))) (ac (by omega) (ac (by omega) (ac (by (rw [g]; rfl)) (ac (by omega) (ac (cg (hp)) (ac (cg (tmod_nat rfl rfl)) (ac (by omega) (ac (bne_iff_ne.2 (by omega)) (ao rfl)))))))))))
set_option maxHeartbeats 4000000 in
theorem pc_ruleBitsP {p : Prm} {nl : Bool} {l : List Hd} {n q : Nat} {x e : Int} (hp : p.per = (q : Int)) (hq : 1 ≤ q) (hn : l.length = n) (h0 : 0 < n) (hn1 : n ≤ 1000000) (hm : n % q = 0)
    (hb : PC Tryz.prog G0 42 [] [.int .u32 (l.getD (n - 1) default).bits, .int .u32 p.lim, .int .i64 q, .int .i64 p.sp, .int .u32 (l.getD (n - q) default).time, .int .u32 (l.getD (n - 1) default).time] [] (.tup [.int .u32 x, .int .i64 e])) :
    PC Tryz.prog G0 22 [] [p.pv, lpv nl l] [] (.tup [.int .u32 x, .int .i64 e]) := by
  refine PC.of (fn := Tryz.f22) (c := bodyOf Tryz.f22) Tryz.func22 (by kernel_rfl) (by kernel_rfl) (by kernel_rfl) (by kernel_rfl) ?_
  have hqn : q ≤ n := Nat.le_of_dvd h0 (Nat.dvd_of_mod_eq_zero hm)
  have g := map_get (l := l) (i := n - 1) (by omega)
  have g2 := map_get (l := l) (i := n - q) (by omega)
  have hi : (n : Int) - 1 = ((n - 1 : Nat) : Int) := by omega
  have hi2 : (n : Int) - q = ((n - q : Nat) : Int) := by omega
  have hk2 : n - q < n := by omega
  unfold lpv
  rw [hn]
  generalize n - 1 = k at *
  generalize n - q = k2 at *
  refine W.ret [(7, aF), (10, aV (I6 (k:Int))), (12, aV (PV.st 68 [U3 (↑(Hd.ver (List.getD l k default)) : Int), B8 32 (Hd.prev (List.getD l k default)), B8 32 (Hd.root (List.getD l k default)), U3 (↑(Hd.time (List.getD l k default)) : Int), U3 (↑(Hd.bits (List.getD l k default)) : Int), U3 (↑(Hd.nonce (List.getD l k default)) : Int)])), (17, aV (I6 (q:Int))), (18, aV (I6 (↑(n % q) : Int))), (19, aF), (25, aV (I6 (q:Int))), (31, aV (I6 (q:Int))), (32, aV (I6 (k2:Int))), (35, aV (U3 (↑(Hd.time (List.getD l k2 default)) : Int))), (38, aK (PV.tup [U3 x, I6 e]))] [] [((n:Int) == 0) = false, I6 (IntKind.wrap .i64 ((n:Int) - 1)) = I6 (k:Int), 0 ≤ (k:Int), (k:Int) < (n:Int), expose hsh (List.getD (List.map Hd.pv l) k PV.undef) = PV.st 68 [U3 (↑(Hd.ver (List.getD l k default)) : Int), B8 32 (Hd.prev (List.getD l k default)), B8 32 (Hd.root (List.getD l k default)), U3 (↑(Hd.time (List.getD l k default)) : Int), U3 (↑(Hd.bits (List.getD l k default)) : Int), U3 (↑(Hd.nonce (List.getD l k default)) : Int)], k < n, I6 (Prm.per p) = I6 (q:Int), I6 (Int.tmod (n:Int) (q:Int)) = I6 (↑(n % q) : Int), (q:Int) ≠ (0 : Int), ((↑(n % q) : Int) != 0) = false, I6 (Prm.per p) = I6 (q:Int), I6 (Prm.per p) = I6 (q:Int), I6 (IntKind.wrap .i64 ((n:Int) - (q:Int))) = I6 (k2:Int), 0 ≤ (k2:Int), (k2:Int) < (n:Int), U3 (PV.num (List.headD (List.tail (List.tail (List.tail (PV.fs (List.getD (List.map Hd.pv l) k2 PV.undef))))) PV.undef)) = U3 (↑(Hd.time (List.getD l k2 default)) : Int), k2 < n, PC Tryz.prog G0 42 [] [U3 (↑(Hd.bits (List.getD l k default)) : Int), U3 (↑(Prm.lim p) : Int), I6 (q:Int), I6 (Prm.sp p), U3 (↑(Hd.time (List.getD l k2 default)) : Int), U3 (↑(Hd.time (List.getD l k default)) : Int)] [] (PV.tup [U3 x, I6 e]), rr (PV.tup [U3 x, I6 e])] (by kernel_rfl) (ac (decide_eq_false (by omega)) (ac (cg (w_i64 hi (by omega) (by omega))) (ac (by omega) (ac (by omega) (ac (by (rw [g]; rfl)) (ac (by omega) (ac (cg (hp)) (ac (cg (tmod_nat rfl rfl)) (ac (by omega) (ac (bne_eq_false_iff_eq.2 (by omega)) (ac (cg (hp)) (ac (cg (hp)) (ac (cg (w_i64 hi2 (by omega) (by omega))) (ac (by omega) (ac (by omega) (ac (cg (by (rw [g2]; rfl))) (ac (by omega) (ac (hb) (ao rfl)))))))))))))))))))
/-- a line's sum; an error's number -/
def tot (s : Nat) : List Hd → Nat × Int
  | [] => (s, 0)
  | h :: t => if tgt h.bits = 0 then (0, 5) else if W256 ≤ s + work (tgt h.bits) then (0, 14) else tot (s + work (tgt h.bits)) t
end Go.Proofs
namespace Go.Proofs
open Go Go.Pe Go.Pm
set_option maxRecDepth 100000
set_option linter.unusedVariables false
theorem pc_ref7 (h : Hd) : PC Tryz.prog G0 12 [] [h.pv] [] h.pv := by
  refine PC.of (fn := Tryz.f12) (c := bodyOf Tryz.f12) Tryz.func12 (by kernel_rfl) (by kernel_rfl) (by kernel_rfl) (by kernel_rfl) ?_
  refine W.ret [] [] [rr (Hd.pv h)] (by kernel_rfl) (ao rfl)
theorem pc_bOf4 {v : Nat} (hv : v < W256) : PC Tryz.prog G0 20 [] [.vec false (.iarr .u64 4 (uw v))] [] (bv false v) := by
  have h := pc_bOf (nl := false) (m := 4) (v := v) (ws := uw v) (by omega) (by omega) rfl (nd_le.1 (nd_W256.2 hv))
  exact h
set_option maxHeartbeats 4000000 in
theorem pc_rref {p : Prm} (hs : p.sum < W256) : PC Tryz.prog G0 7 [] [p.pv] [] p.rpv := by
  refine PC.of (fn := Tryz.f7) (c := bodyOf Tryz.f7) Tryz.func7 (by kernel_rfl) (by kernel_rfl) (by kernel_rfl) (by kernel_rfl) ?_
  have g1 := pc_ref7 p.gen
  have g2 := pc_bOf4 hs
  unfold uw at g2
  refine W.ret [(14, aK (Hd.pv (Prm.gen p))), (17, aV (U6 (↑(Prm.sum p % 18446744073709551616) : Int))), (20, aV (U6 (↑(Prm.sum p / 18446744073709551616 % 18446744073709551616) : Int))), (23, aV (U6 (↑(Prm.sum p / 18446744073709551616 / 18446744073709551616 % 18446744073709551616) : Int))), (26, aV (U6 (↑(Prm.sum p / 18446744073709551616 / 18446744073709551616 / 18446744073709551616 % 18446744073709551616) : Int))), (28, Ans.call false [] [] (PV.vec false (BI (nd (Prm.sum p)) (dg (Prm.sum p)))))] [] [PC Tryz.prog G0 12 [] [Hd.pv (Prm.gen p)] [] (Hd.pv (Prm.gen p)), (0 : Int) ≤ (0 : Int), 0 < (↑(4 : Nat) : Int), U6 (List.getD (uw (Prm.sum p)) 0 (0 : Int)) = U6 (↑(Prm.sum p % 18446744073709551616) : Int), 0 < 4, (0 : Int) ≤ (1 : Int), 1 < (↑(4 : Nat) : Int), U6 (List.getD (uw (Prm.sum p)) 1 (0 : Int)) = U6 (↑(Prm.sum p / 18446744073709551616 % 18446744073709551616) : Int), 1 < 4, (0 : Int) ≤ (2 : Int), 2 < (↑(4 : Nat) : Int), U6 (List.getD (uw (Prm.sum p)) 2 (0 : Int)) = U6 (↑(Prm.sum p / 18446744073709551616 / 18446744073709551616 % 18446744073709551616) : Int), 2 < 4, (0 : Int) ≤ (3 : Int), 3 < (↑(4 : Nat) : Int), U6 (List.getD (uw (Prm.sum p)) 3 (0 : Int)) = U6 (↑(Prm.sum p / 18446744073709551616 / 18446744073709551616 / 18446744073709551616 % 18446744073709551616) : Int), 3 < 4, 4 ≤ 4, PC Tryz.prog G0 20 [] [PV.vec false (B6 4 [(↑(Prm.sum p % 18446744073709551616) : Int), (↑(Prm.sum p / 18446744073709551616 % 18446744073709551616) : Int), (↑(Prm.sum p / 18446744073709551616 / 18446744073709551616 % 18446744073709551616) : Int), (↑(Prm.sum p / 18446744073709551616 / 18446744073709551616 / 18446744073709551616 % 18446744073709551616) : Int)])] [] (PV.vec false (BI (nd (Prm.sum p)) (dg (Prm.sum p)))), rr (Prm.rpv p)] (by kernel_rfl) (ac (g1) (ac (by omega) (ac (by omega) (ac (cg rfl) (ac (by omega) (ac (by omega) (ac (by omega) (ac (cg rfl) (ac (by omega) (ac (by omega) (ac (by omega) (ac (cg rfl) (ac (by omega) (ac (by omega) (ac (by omega) (ac (cg rfl) (ac (by omega) (ac (by omega) (ac (g2) (ao rfl))))))))))))))))))))
def z32 : List Int := [0, 0, 0, 0, 0, 0, 0, 0, 0, 0, 0, 0, 0, 0, 0, 0, 0, 0, 0, 0, 0, 0, 0, 0, 0, 0, 0, 0, 0, 0, 0, 0]
def plainP : Prm := ⟨545259519, 4, 10, 100, 50, ⟨0, z32, z32, 1000, 545259519, 0⟩, 0⟩
def zeroP : Prm := ⟨0, 0, 0, 0, 0, ⟨0, z32, z32, 0, 0, 0⟩, 0⟩
theorem plain_ok : plainP.Ok := ⟨by decide, ⟨by decide, by decide, by decide, by decide, rfl, rfl, by decide, by decide⟩, by decide⟩
theorem zero_ok : zeroP.Ok := ⟨by decide, ⟨by decide, by decide, by decide, by decide, rfl, rfl, by decide, by decide⟩, by decide⟩
theorem plain_may : plainP.May := ⟨by decide +kernel, by decide +kernel, by decide +kernel, by decide, by decide, by decide, by decide⟩
theorem zero_may : ¬ zeroP.May := fun h => by have := h.per; revert this; decide
theorem pc_plain : PC Tryz.prog G0 21 [] [] [] plainP.pv := by
  refine PC.of (fn := Tryz.f21) (c := bodyOf Tryz.f21) Tryz.func21 (by kernel_rfl) (by kernel_rfl) (by kernel_rfl) (by kernel_rfl) ?_
  refine W.ret [] [] [PV.st 77 [U3 545259519, I6 4, I6 10, I6 100, I6 50, PV.st 68 [U3 0, B8 32 (List.replicate 32 0), B8 32 (List.replicate 32 0), U3 1000, U3 545259519, U3 0], B6 4 [(0 : Int), (0 : Int), (0 : Int), (0 : Int)]] = PV.st 77 [U3 (↑(545259519 : Nat) : Int), I6 (Prm.per plainP), I6 (Prm.sp plainP), I6 (Prm.fu plainP), I6 (Prm.cap plainP), PV.st 68 [U3 (↑(0 : Nat) : Int), B8 32 (List.replicate 32 0), B8 32 (List.replicate 32 0), U3 (↑(1000 : Nat) : Int), U3 (↑(545259519 : Nat) : Int), U3 (↑(0 : Nat) : Int)], B6 4 (uw (Prm.sum plainP))]] (by kernel_rfl) (ao rfl)
set_option maxHeartbeats 4000000 in
theorem pc_awake19 : PC Tryz.prog G0 8 [] [] [] (.bool true) := by
  refine PC.of (fn := Tryz.f8) (c := bodyOf Tryz.f8) Tryz.func8 (by kernel_rfl) (by kernel_rfl) (by kernel_rfl) (by kernel_rfl) ?_
  have g1 := pc_checkY plain_ok plain_may
  have g2 := pc_checkN zero_ok zero_may
  have g3 := pc_ruleBitsK (p := plainP) (nl := false) (l := [plainP.gen]) (n := 1) (q := 4) rfl (by omega) rfl (by omega) (by omega) (by omega)
  have g4 := pc_plain
  refine W.ret [(1, aK (PV.st 77 [U3 (↑(545259519 : Nat) : Int), I6 (Prm.per plainP), I6 (Prm.sp plainP), I6 (Prm.fu plainP), I6 (Prm.cap plainP), PV.st 68 [U3 (↑(0 : Nat) : Int), B8 32 (List.replicate 32 0), B8 32 (List.replicate 32 0), U3 (↑(1000 : Nat) : Int), U3 (↑(545259519 : Nat) : Int), U3 (↑(0 : Nat) : Int)], B6 4 (uw (Prm.sum plainP))])), (8, aK (PV.tup [U3 (↑(545259519 : Nat) : Int), I6 0])), (10, aV (U3 545259519)), (15, aK (I6 0)), (19, aK (I6 1))] [] [PC Tryz.prog G0 21 [] [] [] (PV.st 77 [U3 (↑(545259519 : Nat) : Int), I6 (Prm.per plainP), I6 (Prm.sp plainP), I6 (Prm.fu plainP), I6 (Prm.cap plainP), PV.st 68 [U3 (↑(0 : Nat) : Int), B8 32 (List.replicate 32 0), B8 32 (List.replicate 32 0), U3 (↑(1000 : Nat) : Int), U3 (↑(545259519 : Nat) : Int), U3 (↑(0 : Nat) : Int)], B6 4 (uw (Prm.sum plainP))]), 1 ≤ 1, PC Tryz.prog G0 22 [] [PV.st 77 [U3 (↑(545259519 : Nat) : Int), I6 (Prm.per plainP), I6 (Prm.sp plainP), I6 (Prm.fu plainP), I6 (Prm.cap plainP), PV.st 68 [U3 (↑(0 : Nat) : Int), B8 32 (List.replicate 32 0), B8 32 (List.replicate 32 0), U3 (↑(1000 : Nat) : Int), U3 (↑(545259519 : Nat) : Int), U3 (↑(0 : Nat) : Int)], B6 4 (uw (Prm.sum plainP))], PV.vec false (PV.parr 68 1 hsh [PV.st 68 [U3 (↑(0 : Nat) : Int), B8 32 (List.replicate 32 0), B8 32 (List.replicate 32 0), U3 (↑(1000 : Nat) : Int), U3 (↑(545259519 : Nat) : Int), U3 (↑(0 : Nat) : Int)]])] [] (PV.tup [U3 (↑(545259519 : Nat) : Int), I6 0]), U3 (↑(545259519 : Nat) : Int) = U3 545259519, PC Tryz.prog G0 23 [] [PV.st 77 [U3 (↑(545259519 : Nat) : Int), I6 (Prm.per plainP), I6 (Prm.sp plainP), I6 (Prm.fu plainP), I6 (Prm.cap plainP), PV.st 68 [U3 (↑(0 : Nat) : Int), B8 32 (List.replicate 32 0), B8 32 (List.replicate 32 0), U3 (↑(1000 : Nat) : Int), U3 (↑(545259519 : Nat) : Int), U3 (↑(0 : Nat) : Int)], B6 4 (uw (Prm.sum plainP))]] [] (I6 0), PC Tryz.prog G0 23 [] [PV.st 77 [U3 0, I6 0, I6 0, I6 0, I6 0, PV.st 68 [U3 0, B8 32 (List.replicate 32 0), B8 32 (List.replicate 32 0), U3 0, U3 0, U3 0], B6 4 [(0 : Int), (0 : Int), (0 : Int), (0 : Int)]]] [] (I6 1), rr (PV.bool true)] (by kernel_rfl) (ac (g4) (ac (by omega) (ac (g3) (ac (cg (by omega)) (ac (g1) (ac (g2) (ao rfl)))))))
theorem u32_nat {n : Int} (h : IntKind.u32.wrap n = n) : ∃ m : Nat, n = m ∧ m < 4294967296 := by
  rw [wrap_bounds] at h
  obtain ⟨h1, h2⟩ := h
  have e1 : IntKind.u32.min = 0 := rfl
  have e2 : IntKind.u32.max = 4294967295 := rfl
  exact ⟨n.toNat, by omega, by omega⟩
theorem u8_bytes {l : List Int} (h : ∀ x ∈ l, IntKind.u8.wrap x = x) : ∀ x ∈ l, 0 ≤ x ∧ x ≤ 255 := fun x hx => by
  have := h x hx
  rw [wrap_bounds] at this
  exact this
theorem u64_words {l : List Int} (h : ∀ x ∈ l, IntKind.u64.wrap x = x) : ∀ x ∈ l, 0 ≤ x ∧ x ≤ 18446744073709551615 := fun x hx => by
  have := h x hx
  rw [wrap_bounds] at this
  exact this
theorem hd_of {p : PV} (hc : conf hsh p = true) (hw : WF p) : ∃ h : Hd, p = h.pv ∧ h.Ok := by
  have e := expose_conf hsh p hc
  obtain ⟨a, b, c, d, x, y, rfl⟩ : ∃ a b c d x y, p = .st 68 [.int .u32 a, .iarr .u8 32 b, .iarr .u8 32 c, .int .u32 d, .int .u32 x, .int .u32 y] := ⟨_, _, _, _, _, _, e.symm⟩
  simp only [WF, WFL] at hw
  obtain ⟨_, ha, ⟨hb1, hb2⟩, ⟨hc1, hc2⟩, hd, hx, hy, _⟩ := hw
  obtain ⟨a, rfl, ka⟩ := u32_nat ha
  obtain ⟨d, rfl, kd⟩ := u32_nat hd
  obtain ⟨x, rfl, kx⟩ := u32_nat hx
  obtain ⟨y, rfl, ky⟩ := u32_nat hy
  exact ⟨⟨a, b, c, d, x, y⟩, rfl, ⟨ka, kd, kx, ky, hb1, hc1, u8_bytes hb2, u8_bytes hc2⟩⟩
theorem line_of : ∀ {l : List PV}, WFL l → (∀ q ∈ l, size q = 68 ∧ conf hsh q = true ∧ noref q = true) → ∃ m : List Hd, l = m.map Hd.pv ∧ ∀ h ∈ m, h.Ok
  | [], _, _ => ⟨[], rfl, fun h hh => by cases hh⟩
  | p :: l, hw, hq => by
    simp only [WFL] at hw
    obtain ⟨h, rfl, ho⟩ := hd_of (hq p (by simp)).2.1 hw.1
    obtain ⟨m, rfl, hm⟩ := line_of hw.2 fun q hh => hq q (by simp [hh])
    refine ⟨h :: m, rfl, fun x hx => ?_⟩
    rcases List.mem_cons.1 hx with rfl | hx
    · exact ho
    · exact hm x hx
def psh : Sh := .st 77 [.int .u32, .int .i64, .int .i64, .int .i64, .int .i64, hsh, .iarr .u64 4]
theorem prm_of {p : PV} (hc : conf psh p = true) (hw : WF p) : ∃ q : Prm, p = q.pv ∧ q.Ok := by
  have e := expose_conf psh p hc
  obtain ⟨a, b, c, d, x, g, s, rfl⟩ : ∃ a b c d x g s, p = .st 77 [.int .u32 a, .int .i64 b, .int .i64 c, .int .i64 d, .int .i64 x, expose hsh g, .iarr .u64 4 s] := ⟨_, _, _, _, _, _, _, e.symm⟩
  have hg : conf hsh (expose hsh g) = true := by
    simp only [psh, conf, confL, Bool.and_eq_true] at hc
    exact hc.2.2.2.2.2.2.1
  simp only [WF, WFL] at hw
  obtain ⟨_, ha, _, _, _, _, hwg, ⟨hs1, hs2⟩, _⟩ := hw
  obtain ⟨h, eh, ho⟩ := hd_of hg hwg
  obtain ⟨a, rfl, ka⟩ := u32_nat ha
  obtain ⟨v, hv, rfl⟩ := uw_of hs1 (u64_words hs2)
  refine ⟨⟨a, b, c, d, x, h, v⟩, ?_, ⟨ka, ho, hv⟩⟩
  rw [eh]
  rfl
end Go.Proofs
namespace Go.Proofs
open Go Go.Pe Go.Pm
set_option maxRecDepth 100000
set_option linter.unusedVariables false
/-- a header with its hash -/
def lk (x : Hd × List Int) : PV := .st 100 [x.1.pv, .iarr .u8 32 x.2]
def lksh : Sh := .st 100 [hsh, .iarr .u8 32]
def links (nl : Bool) (l : List (Hd × List Int)) : PV := .vec nl (.parr 100 l.length lksh (l.map lk))
theorem lk_get {l : List (Hd × List Int)} {i : Nat} (h : i < l.length) : (l.map lk).getD i .undef = lk (l.getD i default) := by
  simp [List.getD_eq_getElem?_getD, h]
set_option maxHeartbeats 4000000 in
theorem pc_rBits19K {p : Prm} {nl : Bool} {l : List (Hd × List Int)} {n q : Nat} (hp : p.per = (q : Int)) (hq : 1 ≤ q) (hn : l.length = n) (h0 : 0 < n) (hn1 : n ≤ 1000000) (hm : ¬ n % q = 0) : PC Tryz.prog G0 29 [] [p.rpv, links nl l] [] (.tup [.int .u32 (l.getD (n - 1) default).1.bits, .bool true]) := by
  refine PC.of (fn := Tryz.f29) (c := bodyOf Tryz.f29) Tryz.func29 (by kernel_rfl) (by kernel_rfl) (by kernel_rfl) (by kernel_rfl) ?_
  have g := lk_get (l := l) (i := n - 1) (by omega)
  have hi : (n : Int) - 1 = ((n - 1 : Nat) : Int) := by omega
  have hk : n - 1 < n := by omega
  unfold links
  rw [hn]
  generalize n - 1 = k at *
  refine W.ret [(6, aV (I6 (k:Int))), (9, aV (PV.st 68 [U3 (↑(Hd.ver (Prod.fst (List.getD l k (default, [])))) : Int), B8 32 (Hd.prev (Prod.fst (List.getD l k (default, [])))), B8 32 (Hd.root (Prod.fst (List.getD l k (default, [])))), U3 (↑(Hd.time (Prod.fst (List.getD l k (default, [])))) : Int), U3 (↑(Hd.bits (Prod.fst (List.getD l k (default, [])))) : Int), U3 (↑(Hd.nonce (Prod.fst (List.getD l k (default, [])))) : Int)])), (15, aV (I6 (q:Int))), (16, aV (I6 (↑(n % q) : Int))), (17, aT)] [] [I6 (IntKind.wrap .i64 ((n:Int) - 1)) = I6 (k:Int), 0 ≤ (k:Int), (k:Int) < (n:Int), expose hsh (List.headD (PV.fs (List.getD (List.map lk l) k PV.undef)) PV.undef) = PV.st 68 [U3 (↑(Hd.ver (Prod.fst (List.getD l k (default, [])))) : Int), B8 32 (Hd.prev (Prod.fst (List.getD l k (default, [])))), B8 32 (Hd.root (Prod.fst (List.getD l k (default, [])))), U3 (↑(Hd.time (Prod.fst (List.getD l k (default, [])))) : Int), U3 (↑(Hd.bits (Prod.fst (List.getD l k (default, [])))) : Int), U3 (↑(Hd.nonce (Prod.fst (List.getD l k (default, [])))) : Int)], k < n, I6 (Prm.per p) = I6 (q:Int), I6 (Int.tmod (n:Int) (q:Int)) = I6 (↑(n % q) : Int), (q:Int) ≠ (0 : Int), ((↑(n % q) : Int) != 0) = true, rr (PV.tup [U3 (↑(Hd.bits (Prod.fst (List.getD l k (default, [])))) : Int), PV.bool true])] (by kernel_rfl) (ac (cg (w_i64 hi (by omega) (by omega))) (ac (by omega) (ac (by omega) (ac (by (rw [g]; rfl)) (ac (by omega) (ac (cg (hp)) (ac (cg (tmod_nat rfl rfl)) (ac (by omega) (ac (bne_iff_ne.2 (by omega)) (ao rfl))))))))))
set_option maxHeartbeats 4000000 in
theorem pc_rBits19P {p : Prm} {nl : Bool} {l : List (Hd × List Int)} {n q : Nat} {x : Int} {b : Bool} (hp : p.per = (q : Int)) (hq : 1 ≤ q) (hn : l.length = n) (h0 : 0 < n) (hn1 : n ≤ 1000000) (hm : n % q = 0)
    (hb : PC Tryz.prog G0 48 [] [.int .u32 (l.getD (n - 1) default).1.bits, .int .u32 p.lim, .int .i64 q, .int .i64 p.sp, .int .u32 (l.getD (n - q) default).1.time, .int .u32 (l.getD (n - 1) default).1.time] [] (.tup [.int .u32 x, .bool b])) :
    PC Tryz.prog G0 29 [] [p.rpv, links nl l] [] (.tup [.int .u32 x, .bool b]) := by
  refine PC.of (fn := Tryz.f29) (c := bodyOf Tryz.f29) Tryz.func29 (by kernel_rfl) (by kernel_rfl) (by kernel_rfl) (by kernel_rfl) ?_
  have hqn : q ≤ n := Nat.le_of_dvd h0 (Nat.dvd_of_mod_eq_zero hm)
  have g := lk_get (l := l) (i := n - 1) (by omega)
  have g2 := lk_get (l := l) (i := n - q) (by omega)
  have hi : (n : Int) - 1 = ((n - 1 : Nat) : Int) := by omega
  have hi2 : (n : Int) - q = ((n - q : Nat) : Int) := by omega
  have hk2 : n - q < n := by omega
  have hk : n - 1 < n := by omega
  unfold links
  rw [hn]
  generalize n - 1 = k at *
  generalize n - q = k2 at *
  refine W.ret [(6, aV (I6 (k:Int))), (9, aV (PV.st 68 [U3 (↑(Hd.ver (Prod.fst (List.getD l k (default, [])))) : Int), B8 32 (Hd.prev (Prod.fst (List.getD l k (default, [])))), B8 32 (Hd.root (Prod.fst (List.getD l k (default, [])))), U3 (↑(Hd.time (Prod.fst (List.getD l k (default, [])))) : Int), U3 (↑(Hd.bits (Prod.fst (List.getD l k (default, [])))) : Int), U3 (↑(Hd.nonce (Prod.fst (List.getD l k (default, [])))) : Int)])), (15, aV (I6 (q:Int))), (16, aV (I6 (↑(n % q) : Int))), (17, aF), (22, aV (I6 (q:Int))), (23, aV (I6 (k2:Int))), (26, aV (PV.st 68 [U3 (↑(Hd.ver (Prod.fst (List.getD l k2 (default, [])))) : Int), B8 32 (Hd.prev (Prod.fst (List.getD l k2 (default, [])))), B8 32 (Hd.root (Prod.fst (List.getD l k2 (default, [])))), U3 (↑(Hd.time (Prod.fst (List.getD l k2 (default, [])))) : Int), U3 (↑(Hd.bits (Prod.fst (List.getD l k2 (default, [])))) : Int), U3 (↑(Hd.nonce (Prod.fst (List.getD l k2 (default, [])))) : Int)])), (34, aV (I6 (q:Int))), (41, aK (PV.tup [U3 x, PV.bool b]))] [] [I6 (IntKind.wrap .i64 ((n:Int) - 1)) = I6 (k:Int), 0 ≤ (k:Int), (k:Int) < (n:Int), expose hsh (List.headD (PV.fs (List.getD (List.map lk l) k PV.undef)) PV.undef) = PV.st 68 [U3 (↑(Hd.ver (Prod.fst (List.getD l k (default, [])))) : Int), B8 32 (Hd.prev (Prod.fst (List.getD l k (default, [])))), B8 32 (Hd.root (Prod.fst (List.getD l k (default, [])))), U3 (↑(Hd.time (Prod.fst (List.getD l k (default, [])))) : Int), U3 (↑(Hd.bits (Prod.fst (List.getD l k (default, [])))) : Int), U3 (↑(Hd.nonce (Prod.fst (List.getD l k (default, [])))) : Int)], k < n, I6 (Prm.per p) = I6 (q:Int), I6 (Int.tmod (n:Int) (q:Int)) = I6 (↑(n % q) : Int), (q:Int) ≠ (0 : Int), ((↑(n % q) : Int) != 0) = false, I6 (Prm.per p) = I6 (q:Int), I6 (IntKind.wrap .i64 ((n:Int) - (q:Int))) = I6 (k2:Int), 0 ≤ (k2:Int), (k2:Int) < (n:Int), expose hsh (List.headD (PV.fs (List.getD (List.map lk l) k2 PV.undef)) PV.undef) = PV.st 68 [U3 (↑(Hd.ver (Prod.fst (List.getD l k2 (default, [])))) : Int), B8 32 (Hd.prev (Prod.fst (List.getD l k2 (default, [])))), B8 32 (Hd.root (Prod.fst (List.getD l k2 (default, [])))), U3 (↑(Hd.time (Prod.fst (List.getD l k2 (default, [])))) : Int), U3 (↑(Hd.bits (Prod.fst (List.getD l k2 (default, [])))) : Int), U3 (↑(Hd.nonce (Prod.fst (List.getD l k2 (default, [])))) : Int)], k2 < n, I6 (Prm.per p) = I6 (q:Int), PC Tryz.prog G0 48 [] [U3 (↑(Hd.bits (Prod.fst (List.getD l k (default, [])))) : Int), U3 (↑(Prm.lim p) : Int), I6 (q:Int), I6 (Prm.sp p), U3 (↑(Hd.time (Prod.fst (List.getD l k2 (default, [])))) : Int), U3 (↑(Hd.time (Prod.fst (List.getD l k (default, [])))) : Int)] [] (PV.tup [U3 x, PV.bool b]), rr (PV.tup [U3 x, PV.bool b])] (by kernel_rfl) (ac (cg (w_i64 hi (by omega) (by omega))) (ac (by omega) (ac (by omega) (ac (by (rw [g]; rfl)) (ac (by omega) (ac (cg (hp)) (ac (cg (tmod_nat rfl rfl)) (ac (by omega) (ac (bne_eq_false_iff_eq.2 (by omega)) (ac (cg (hp)) (ac (cg (w_i64 hi2 (by omega) (by omega))) (ac (by omega) (ac (by omega) (ac (by (rw [g2]; rfl)) (ac (by omega) (ac (cg (hp)) (ac (hb) (ao rfl))))))))))))))))))
end Go.Proofs
namespace Go.Pm
def swap (l : List Int) (j : Nat) : List Int := (l.set (j + 1) (l.getD j 0)).set j (l.getD (j + 1) 0)
def sink : Nat → List Int → List Int
  | 0, l => l
  | j + 1, l => if l.getD (j + 1) 0 < l.getD j 0 then sink j (swap l j) else l
def isort : Nat → Nat → List Int → List Int
  | 0, _, l => l
  | k + 1, i, l => isort k (i + 1) (sink i l)
theorem swap_length (l : List Int) (j : Nat) : (swap l j).length = l.length := by simp [swap]
theorem swap_getD {l : List Int} {j : Nat} (h : j + 1 < l.length) (a : Nat) : (swap l j).getD a 0 = if a = j then l.getD (j + 1) 0 else if a = j + 1 then l.getD j 0 else l.getD a 0 := by
  unfold swap
  simp only [List.getD_eq_getElem?_getD, List.getElem?_set, List.length_set]
  by_cases h1 : a = j
  · subst h1
    simp [show a < l.length by omega]
  · by_cases h2 : a = j + 1
    · subst h2
      simp [h]
    · simp [h1, h2, show ¬ j = a by omega, show ¬ j + 1 = a by omega]
theorem swap_perm {l : List Int} {j : Nat} (h : j + 1 < l.length) : (swap l j).Perm l := by
  unfold swap
  have e1 : l.getD j 0 = l[j] := by simp [List.getD_eq_getElem?_getD, show j < l.length by omega]
  have e2 : l.getD (j + 1) 0 = l[j + 1] := by simp [List.getD_eq_getElem?_getD, h]
  rw [e1, e2]
  exact List.set_set_perm h (by omega)
theorem sink_length : ∀ (j : Nat) (l : List Int), (sink j l).length = l.length
  | 0, l => rfl
  | j + 1, l => by
    unfold sink
    split
    · rw [sink_length j, swap_length]
    · rfl
theorem sink_perm : ∀ (j : Nat) (l : List Int), j < l.length → (sink j l).Perm l
  | 0, l, _ => .refl _
  | j + 1, l, h => by
    unfold sink
    split
    · exact (sink_perm j _ (by rw [swap_length]; omega)).trans (swap_perm h)
    · exact .refl _
theorem isort_perm : ∀ (k i : Nat) (l : List Int), i + k ≤ l.length → (isort k i l).Perm l
  | 0, i, l, _ => .refl _
  | k + 1, i, l, h => (isort_perm k (i + 1) _ (by rw [sink_length]; omega)).trans (sink_perm i l (by omega))
def SortedTo (i : Nat) (l : List Int) : Prop := ∀ a b, a < b → b < i → l.getD a 0 ≤ l.getD b 0
theorem sink_sorted : ∀ (j : Nat) (l : List Int) (i : Nat), j ≤ i → i < l.length → (∀ a b, a < b → b ≤ i → a ≠ j → b ≠ j → l.getD a 0 ≤ l.getD b 0) → (∀ b, j < b → b ≤ i → l.getD j 0 ≤ l.getD b 0) → SortedTo (i + 1) (sink j l)
  | 0, l, i, _, _, h1, h2 => fun a b hab hb => by
    show l.getD a 0 ≤ l.getD b 0
    by_cases ha : a = 0
    · subst ha; exact h2 b hab (by omega)
    · exact h1 a b hab (by omega) ha (by omega)
  | j + 1, l, i, hj, hi, h1, h2 => by
    unfold sink
    split
    · rename_i hc
      have hs := swap_getD (l := l) (j := j) (by omega)
      refine sink_sorted j _ i (by omega) (by rw [swap_length]; exact hi) (fun a b hab hb ha' hb' => ?_) (fun b hb hbi => ?_)
      · rw [hs a, hs b, if_neg ha', if_neg hb']
        by_cases e1 : a = j + 1
        · rw [if_pos e1, if_neg (by omega)]
          exact h1 j b (by omega) hb (by omega) (by omega)
        · rw [if_neg e1]
          by_cases e2 : b = j + 1
          · rw [if_pos e2]
            exact h1 a j (by omega) (by omega) e1 (by omega)
          · rw [if_neg e2]
            exact h1 a b hab hb e1 e2
      · rw [hs j, hs b, if_pos rfl, if_neg (by omega)]
        by_cases e2 : b = j + 1
        · rw [if_pos e2]; omega
        · rw [if_neg e2]
          exact h2 b (by omega) hbi
    · rename_i hc
      intro a b hab hb
      by_cases e1 : a = j + 1
      · subst e1; exact h2 b hab (by omega)
      · by_cases e2 : b = j + 1
        · subst e2
          by_cases e3 : a = j
          · subst e3; omega
          · have := h1 a j (by omega) (by omega) (by omega) (by omega)
            omega
        · exact h1 a b hab (by omega) e1 e2
theorem isort_sorted : ∀ (k i : Nat) (l : List Int), i + k ≤ l.length → SortedTo i l → SortedTo (i + k) (isort k i l)
  | 0, i, l, _, h => h
  | k + 1, i, l, hl, h => by
    have := isort_sorted k (i + 1) (sink i l) (by rw [sink_length]; omega) (sink_sorted i l i (Nat.le_refl _) (by omega) (fun a b hab hb _ hb' => h a b hab (by omega)) (fun b hb hbi => by omega))
    rw [show i + (k + 1) = i + 1 + k by omega]
    exact this
def lt (m : Int) (l : List Int) : Nat := l.countP fun x => decide (x < m)
def eqs (m : Int) (l : List Int) : Nat := l.countP fun x => decide (x = m)
def isM (m : Int) (l : List Int) : Bool := if l = [] then decide (m = 0) else decide (lt m l ≤ l.length / 2) && (decide (l.length / 2 < lt m l + eqs m l) && decide (0 < eqs m l))
def lastU (l : List Int) : List Int := l.drop (l.length - 11)
def middle (l : List Int) : Int := (isort (l.length - 1) 1 l).getD (l.length / 2) 0
def medianM (l : List Int) : Int := if l = [] then 0 else middle (lastU l)
theorem lt_eqs (m : Int) (l : List Int) : lt m l + eqs m l = l.countP fun x => decide (x ≤ m) := by
  induction l with
  | nil => rfl
  | cons x l ih =>
    simp only [lt, eqs, List.countP_cons] at ih ⊢
    by_cases h1 : x < m
    · simp [h1, show ¬ x = m by omega, show x ≤ m by omega]; omega
    · by_cases h2 : x = m
      · subst h2; simp; omega
      · simp [h1, h2, show ¬ x ≤ m by omega]; omega
theorem lt_perm {l l' : List Int} (h : l.Perm l') (m : Int) : lt m l = lt m l' := h.countP_eq _
theorem eqs_perm {l l' : List Int} (h : l.Perm l') (m : Int) : eqs m l = eqs m l' := h.countP_eq _
theorem isM_perm {l l' : List Int} (h : l.Perm l') (m : Int) : isM m l = isM m l' := by
  unfold isM
  rw [lt_perm h, eqs_perm h, h.length_eq]
  by_cases h0 : l = []
  · subst h0
    have := h.symm.eq_nil
    simp [this]
  · rw [if_neg h0, if_neg]
    rintro rfl
    exact h0 h.eq_nil
theorem isM_unique {l : List Int} {m m' : Int} (h0 : l ≠ []) (h : isM m l = true) (h' : isM m' l = true) : m = m' := by
  have key : ∀ a b : Int, isM a l = true → isM b l = true → ¬ a < b := by
    intro a b ha hb hab
    simp only [isM, if_neg h0, Bool.and_eq_true, decide_eq_true_eq] at ha hb
    have e := lt_eqs a l
    have : (l.countP fun x => decide (x ≤ a)) ≤ lt b l := List.countP_mono_left (fun x _ hx => by simp at hx ⊢; omega)
    omega
  have h1 := key m m' h h'
  have h2 := key m' m h' h
  omega
theorem sorted_isM {s : List Int} (h0 : s ≠ []) (h : SortedTo s.length s) : isM (s.getD (s.length / 2) 0) s = true := by
  have hl : 0 < s.length := List.length_pos_iff.2 h0
  have hm : s.length / 2 < s.length := by omega
  generalize hmm : s.getD (s.length / 2) 0 = m
  have hget : ∀ i (hi : i < s.length), s.getD i 0 = s[i] := fun i hi => by simp [List.getD_eq_getElem?_getD, hi]
  simp only [isM, if_neg h0, Bool.and_eq_true, decide_eq_true_eq]
  refine ⟨?_, ?_, ?_⟩
  · unfold lt
    rw [← List.take_append_drop (s.length / 2) s, List.countP_append]
    have h1 : (s.take (s.length / 2)).countP (fun x => decide (x < m)) ≤ s.length / 2 := by
      refine Nat.le_trans List.countP_le_length ?_
      simp; omega
    have h2 : (s.drop (s.length / 2)).countP (fun x => decide (x < m)) = 0 := by
      rw [List.countP_eq_zero]
      intro x hx
      obtain ⟨i, hi, rfl⟩ := List.mem_iff_getElem.1 hx
      simp only [List.length_drop] at hi
      simp only [List.getElem_drop, decide_eq_true_eq, Int.not_lt]
      have := hget (s.length / 2 + i) (by omega)
      rw [← this, ← hmm]
      rcases Nat.eq_zero_or_pos i with h0 | h0
      · subst h0; exact Int.le_refl _
      · exact h _ _ (by omega) (by omega)
    rw [h2]
    have : (List.take (s.length / 2) s ++ List.drop (s.length / 2) s).length = s.length := by simp
    omega
  · rw [lt_eqs]
    rw [← List.take_append_drop (s.length / 2 + 1) s, List.countP_append]
    have h1 : (s.take (s.length / 2 + 1)).countP (fun x => decide (x ≤ m)) = s.length / 2 + 1 := by
      have : (s.take (s.length / 2 + 1)).countP (fun x => decide (x ≤ m)) = (s.take (s.length / 2 + 1)).length := by
        rw [List.countP_eq_length]
        intro x hx
        obtain ⟨i, hi, rfl⟩ := List.mem_iff_getElem.1 hx
        simp only [List.length_take] at hi
        simp only [List.getElem_take, decide_eq_true_eq]
        have := hget i (by omega)
        rw [← this, ← hmm]
        by_cases e : i = s.length / 2
        · subst e; exact Int.le_refl _
        · exact h _ _ (by omega) (by omega)
      rw [this]
      simp; omega
    rw [h1]
    have : (List.take (s.length / 2 + 1) s ++ List.drop (s.length / 2 + 1) s).length = s.length := by simp
    omega
  · unfold eqs
    rw [List.countP_pos_iff]
    refine ⟨m, ?_, by simp⟩
    rw [← hmm, hget _ hm]
    exact List.getElem_mem _
theorem lastU_nil {l : List Int} : lastU l = [] ↔ l = [] := by
  unfold lastU
  rw [List.drop_eq_nil_iff]
  constructor
  · intro h; exact List.eq_nil_of_length_eq_zero (by omega)
  · rintro rfl; simp
theorem middle_isM {l : List Int} (h0 : l ≠ []) : isM (middle l) l = true := by
  have hl : 0 < l.length := List.length_pos_iff.2 h0
  have hp := isort_perm (l.length - 1) 1 l (by omega)
  have hs := isort_sorted (l.length - 1) 1 l (by omega) (fun a b h1 h2 => by omega)
  rw [← isM_perm hp]
  unfold middle
  have hlen := hp.length_eq
  have hs : SortedTo (isort (l.length - 1) 1 l).length (isort (l.length - 1) 1 l) := by
    rw [hlen]
    rwa [show 1 + (l.length - 1) = l.length by omega] at hs
  generalize isort (l.length - 1) 1 l = s at *
  rw [← hlen] at hl ⊢
  exact sorted_isM (fun e => by subst e; simp at hl) hs
theorem medianM_isM (l : List Int) : isM (medianM l) (lastU l) = true := by
  unfold medianM
  by_cases h : l = []
  · subst h; rfl
  · rw [if_neg h]
    exact middle_isM fun e => h (lastU_nil.1 e)
theorem medianM_eq {l : List Int} {m : Int} (h : isM m (lastU l) = true) : m = medianM l := by
  by_cases h0 : l = []
  · subst h0
    simp [isM, lastU] at h
    subst h; rfl
  · exact isM_unique (fun e => h0 (lastU_nil.1 e)) h (medianM_isM l)
theorem medianM_mem {l : List Int} (h : l ≠ []) : medianM l ∈ lastU l := by
  have h1 := medianM_isM l
  have h2 : lastU l ≠ [] := fun e => h (lastU_nil.1 e)
  simp only [isM, if_neg h2, Bool.and_eq_true, decide_eq_true_eq] at h1
  obtain ⟨x, hx, hx2⟩ := List.countP_pos_iff.1 h1.2.2
  simp at hx2
  rwa [← hx2]
end Go.Pm
namespace Go.Proofs
open Go Go.Pe Go.Pm
set_option maxRecDepth 100000
theorem pc_isNaN (x : Int) : PC Tryz.prog G0 125 [] [.int .u32 x] [] (.bool false) := by
  refine PC.of (fn := Tryz.f125) (c := bodyOf Tryz.f125) Tryz.func125 (by kernel_rfl) (by kernel_rfl) (by kernel_rfl) (by kernel_rfl) ?_
  refine W.ret [(3, aF)] [] [(x != x) = false, rr (PV.bool false)] (by kernel_rfl) (ac (bne_eq_false_iff_eq.2 (by omega)) (ao rfl))
theorem pc_less (x y : Int) : PC Tryz.prog G0 106 [] [.int .u32 x, .int .u32 y] [] (.bool (decide (x < y))) := by
  refine PC.of (fn := Tryz.f106) (c := bodyOf Tryz.f106) Tryz.func106 (by kernel_rfl) (by kernel_rfl) (by kernel_rfl) (by kernel_rfl) ?_
  refine W.ret [(2, aK (PV.bool false))] [] [PC Tryz.prog G0 125 [] [U3 x] [] (PV.bool false), rr (PV.bool (decide (x < y)))] (by kernel_rfl) (ac (pc_isNaN _) (ao rfl))
theorem pc_lessT (x y : Int) (h : x < y) : PC Tryz.prog G0 106 [] [.int .u32 x, .int .u32 y] [] (.bool true) := by
  have := pc_less x y
  rwa [decide_eq_true h] at this
theorem pc_lessF (x y : Int) (h : ¬ x < y) : PC Tryz.prog G0 106 [] [.int .u32 x, .int .u32 y] [] (.bool false) := by
  have := pc_less x y
  rwa [decide_eq_false h] at this
def rowU (n : Nat) (l : List Int) : Row := ⟨.iarr .u32 n l, false⟩
def dsO (n i : Nat) (l : List Int) : DS := ⟨[(0, .ref 0 [] 1 0 n), (1, .int .i64 0), (2, .int .i64 n), (6, .int .i64 i)], [(0, rowU n l)]⟩
def dsI (n i j : Nat) (l : List Int) : DS := ⟨[(0, .ref 0 [] 1 0 n), (1, .int .i64 0), (2, .int .i64 n), (6, .int .i64 i), (7, .int .i64 j)], [(0, rowU n l)]⟩
theorem W_inner {n i : Nat} {hout : List (Nat × Row)} {res : PV} (hn : n < 1000) (hi : i < n) : ∀ (j : Nat) (l : List Int), j ≤ i → 
   W Tryz.prog G0 Tryz.f100 [0] hout res (loopAt Tryz.f100 0) (dsO n (i + 1) (sink j l)) → W Tryz.prog G0 Tryz.f100 [0] hout res (loopAt Tryz.f100 1) (dsI n i j l)
  | 0, l, _, h => by
    refine W.seg [(0, aV (I6 0)), (16, aV (I6 (↑(i + 1) : Int)))] [(0, 0)] (dsO n (i + 1) (sink 0 l)) (todo' := loopAt Tryz.f100 0) [I6 (↑(0 : Nat) : Int) = I6 0, I6 (IntKind.wrap .i64 ((i:Int) + 1)) = I6 (↑(i + 1) : Int), rr (PV.ref 0 [] 1 0 n), rr (I6 0), rr (I6 (n:Int)), rr (I6 (↑(i + 1) : Int)), rr (B3 n l)] (by kernel_rfl) (ac (cg (by omega)) (ac (cg (w_i64 rfl (by omega) (by omega))) (ac rfl (ac rfl (ac rfl (ac rfl (ao rfl))))))) ?_
    exact h
  | j + 1, l, hj, h => by
    by_cases hc : l.getD (j + 1) 0 < l.getD j 0
    · refine W.seg [(2, aT), (6, aV (PV.at 0 [Stp.idx (j + 1) 1])), (10, aV (I6 (j:Int))), (11, aV (PV.at 0 [Stp.idx j 1])), (13, aK (PV.bool true)), (19, aV (I6 (j:Int))), (22, aV (I6 (j:Int))), (23, aV (PV.at 0 [Stp.idx j 1])), (27, aV (PV.at 0 [Stp.idx (j + 1) 1])), (29, aV (PV.at 0 [Stp.idx (j + 1) 1])), (31, aV (PV.at 0 [Stp.idx j 1])), (34, aV (I6 (j:Int)))] [(0, 0)] (dsI n i j (swap l j)) (todo' := loopAt Tryz.f100 1) [decide ((↑(j + 1) : Int) > 0) = true, PV.at 0 [Stp.idx (0 + Int.toNat (↑(j + 1) : Int)) 1] = PV.at 0 [Stp.idx (j + 1) 1], 0 ≤ (↑(j + 1) : Int), (↑(j + 1) : Int) < (n:Int), j + 1 < n, I6 (IntKind.wrap .i64 ((↑(j + 1) : Int) - 1)) = I6 (j:Int), PV.at 0 [Stp.idx (0 + j) 1] = PV.at 0 [Stp.idx j 1], 0 ≤ (j:Int), (j:Int) < (n:Int), j < n, PC Tryz.prog G0 106 [] [U3 (List.getD l (j + 1) (0 : Int)), U3 (List.getD l j (0 : Int))] [] (PV.bool true), I6 (IntKind.wrap .i64 ((↑(j + 1) : Int) - 1)) = I6 (j:Int), I6 (IntKind.wrap .i64 ((↑(j + 1) : Int) - 1)) = I6 (j:Int), PV.at 0 [Stp.idx (0 + j) 1] = PV.at 0 [Stp.idx j 1], 0 ≤ (j:Int), (j:Int) < (n:Int), j < n, PV.at 0 [Stp.idx (0 + Int.toNat (↑(j + 1) : Int)) 1] = PV.at 0 [Stp.idx (j + 1) 1], 0 ≤ (↑(j + 1) : Int), (↑(j + 1) : Int) < (n:Int), j + 1 < n, PV.at 0 [Stp.idx (0 + Int.toNat (↑(j + 1) : Int)) 1] = PV.at 0 [Stp.idx (j + 1) 1], 0 ≤ (↑(j + 1) : Int), (↑(j + 1) : Int) < (n:Int), j + 1 < n, PV.at 0 [Stp.idx (0 + j) 1] = PV.at 0 [Stp.idx j 1], 0 ≤ (j:Int), (j:Int) < (n:Int), j < n, I6 (IntKind.wrap .i64 ((↑(j + 1) : Int) - 1)) = I6 (j:Int), rr (PV.ref 0 [] 1 0 n), rr (I6 0), rr (I6 (n:Int)), rr (I6 (i:Int)), rr (I6 (j:Int)), B3 n (List.set (List.set l (j + 1) (List.getD l j (0 : Int))) j (List.getD l (j + 1) (0 : Int))) = B3 n (swap l j)] (by kernel_rfl) (ac (decide_eq_true (by omega)) (ac (by simp only [Int.toNat_natCast, Nat.zero_add]) (ac (by omega) (ac (by omega) (ac (by omega) (ac (cg (w_i64 (by omega) (by omega) (by omega))) (ac (by simp only [Nat.zero_add]) (ac (by omega) (ac (by omega) (ac (by omega) (ac (pc_lessT _ _ (by first | omega | decide)) (ac (cg (w_i64 (by omega) (by omega) (by omega))) (ac (cg (w_i64 (by omega) (by omega) (by omega))) (ac (by simp only [Nat.zero_add]) (ac (by omega) (ac (by omega) (ac (by omega) (ac (by simp only [Int.toNat_natCast, Nat.zero_add]) (ac (by omega) (ac (by omega) (ac (by omega) (ac (by simp only [Int.toNat_natCast, Nat.zero_add]) (ac (by omega) (ac (by omega) (ac (by omega) (ac (by simp only [Nat.zero_add]) (ac (by omega) (ac (by omega) (ac (by omega) (ac (cg (w_i64 (by omega) (by omega) (by omega))) (ac rfl (ac rfl (ac rfl (ac rfl (ac rfl (ao rfl)))))))))))))))))))))))))))))))))))) ?_
      exact W_inner hn hi j (swap l j) (by omega) (by rw [sink, if_pos hc] at h; exact h)
    · refine W.seg [(2, aT), (6, aV (PV.at 0 [Stp.idx (j + 1) 1])), (10, aV (I6 (j:Int))), (11, aV (PV.at 0 [Stp.idx j 1])), (13, aK (PV.bool false)), (16, aV (I6 (↑(i + 1) : Int)))] [(0, 0)] (dsO n (i + 1) l) (todo' := loopAt Tryz.f100 0) [decide ((↑(j + 1) : Int) > 0) = true, PV.at 0 [Stp.idx (0 + Int.toNat (↑(j + 1) : Int)) 1] = PV.at 0 [Stp.idx (j + 1) 1], 0 ≤ (↑(j + 1) : Int), (↑(j + 1) : Int) < (n:Int), j + 1 < n, I6 (IntKind.wrap .i64 ((↑(j + 1) : Int) - 1)) = I6 (j:Int), PV.at 0 [Stp.idx (0 + j) 1] = PV.at 0 [Stp.idx j 1], 0 ≤ (j:Int), (j:Int) < (n:Int), j < n, PC Tryz.prog G0 106 [] [U3 (List.getD l (j + 1) (0 : Int)), U3 (List.getD l j (0 : Int))] [] (PV.bool false), I6 (IntKind.wrap .i64 ((i:Int) + 1)) = I6 (↑(i + 1) : Int), rr (PV.ref 0 [] 1 0 n), rr (I6 0), rr (I6 (n:Int)), rr (I6 (↑(i + 1) : Int)), rr (B3 n l)] (by kernel_rfl) (ac (decide_eq_true (by omega)) (ac (by simp only [Int.toNat_natCast, Nat.zero_add]) (ac (by omega) (ac (by omega) (ac (by omega) (ac (cg (w_i64 (by omega) (by omega) (by omega))) (ac (by simp only [Nat.zero_add]) (ac (by omega) (ac (by omega) (ac (by omega) (ac (pc_lessF _ _ (by first | omega | decide)) (ac (cg (w_i64 rfl (by omega) (by omega))) (ac rfl (ac rfl (ac rfl (ac rfl (ao rfl))))))))))))))))) ?_
      rw [sink, if_neg hc] at h; exact h
theorem W_outer {n : Nat} (hn : n < 1000) : ∀ (k i : Nat) (l : List Int), i + k = n ∨ (k = 0 ∧ n ≤ i) → i ≤ n + 1 → 
   W Tryz.prog G0 Tryz.f100 [0] [(0, rowU n (isort k i l))] (.tup []) (loopAt Tryz.f100 0) (dsO n i l)
  | 0, i, l, h, h1 => by
    refine W.ret [(2, aF)] [(0, 0)] [decide ((i:Int) < (n:Int)) = false, rr (B3 n l), rr (PV.tup [])] (by kernel_rfl) (ac (decide_eq_false (by omega)) (ac rfl (ao rfl)))
  | k + 1, i, l, h, h1 => by
    refine W.seg [(2, aT)] [(0, 0)] (dsI n i i l) (todo' := loopAt Tryz.f100 1) [decide ((i:Int) < (n:Int)) = true, rr (PV.ref 0 [] 1 0 n), rr (I6 0), rr (I6 (n:Int)), rr (I6 (i:Int)), rr (I6 (i:Int)), rr (B3 n l)] (by kernel_rfl) (ac (decide_eq_true (by omega)) (ac rfl (ac rfl (ac rfl (ac rfl (ac rfl (ao rfl))))))) ?_
    exact W_inner hn (by omega) i l (Nat.le_refl i) (W_outer hn k (i + 1) (sink i l) (by omega) (by omega))
theorem pc_isort {n : Nat} (hn : n < 1000) (l : List Int) : PC Tryz.prog G0 100 [(0, rowU n l)] [.ref 0 [] 1 0 n, .int .i64 0, .int .i64 n] [(0, rowU n (isort (n - 1) 1 l))] (.tup []) := by
  refine PC.of (fn := Tryz.f100) (c := bodyOf Tryz.f100) Tryz.func100 (by kernel_rfl) (by kernel_rfl) (by kernel_rfl) (by kernel_rfl) ?_
  refine W.seg [(1, aV (I6 1))] [(0, 0)] (dsO n 1 l) (todo' := loopAt Tryz.f100 0) [I6 (IntKind.wrap .i64 ((0 : Int) + (1 : Int))) = I6 1, rr (PV.ref 0 [] 1 0 n), rr (I6 0), rr (I6 (n:Int)), I6 1 = I6 (↑(1 : Nat) : Int), rr (B3 n l)] (by kernel_rfl) (ac (cg (w_i64 rfl (by omega) (by omega))) (ac rfl (ac rfl (ac rfl (ac (cg (by omega)) (ao rfl)))))) ?_
  exact W_outer hn (n - 1) 1 l (by omega) (by omega)
def lenM (x : Nat) : Nat := [0, 1, 2, 2, 3, 3, 3, 3, 4, 4, 4, 4, 4].getD x 0
theorem pc_len64s {x : Nat} (hx : x < 12) : PC Tryz.prog G0 77 [] [.int .u64 x] [] (.int .i64 (lenM x)) := by
  refine PC.of (fn := Tryz.f77) (c := bodyOf Tryz.f77) Tryz.func77 (by kernel_rfl) (by kernel_rfl) (by kernel_rfl) (by kernel_rfl) ?_
  refine W.ret [((2 : Nat), Ans.dec false), ((4 : Nat), Ans.dec false), ((6 : Nat), Ans.dec false), ((9 : Nat), Ans.val (PV.int IntKind.u8 (↑x : Int))), ((10 : Nat), Ans.val (PV.int IntKind.u8 (↑(lenM x) : Int))), ((11 : Nat), Ans.val (PV.int IntKind.i64 (↑(lenM x) : Int))), ((12 : Nat), Ans.val (PV.int IntKind.i64 (↑(lenM x) : Int)))] [] [decide ((↑x : Int) ≥ (4294967296 : Int)) = false, decide ((↑x : Int) ≥ (65536 : Int)) = false, decide ((↑x : Int) ≥ (256 : Int)) = false, PV.int IntKind.u8 (IntKind.wrap IntKind.u8 (↑x : Int)) = PV.int IntKind.u8 (↑x : Int), PV.int IntKind.u8 (byteAt (ByteArray.mk #[(0 : UInt8), (1 : UInt8), (2 : UInt8), (2 : UInt8), (3 : UInt8), (3 : UInt8), (3 : UInt8), (3 : UInt8), (4 : UInt8), (4 : UInt8), (4 : UInt8), (4 : UInt8), (4 : UInt8), (4 : UInt8), (4 : UInt8), (4 : UInt8), (5 : UInt8), (5 : UInt8), (5 : UInt8), (5 : UInt8), (5 : UInt8), (5 : UInt8), (5 : UInt8), (5 : UInt8), (5 : UInt8), (5 : UInt8), (5 : UInt8), (5 : UInt8), (5 : UInt8), (5 : UInt8), (5 : UInt8), (5 : UInt8), (6 : UInt8), (6 : UInt8), (6 : UInt8), (6 : UInt8), (6 : UInt8), (6 : UInt8), (6 : UInt8), (6 : UInt8), (6 : UInt8), (6 : UInt8), (6 : UInt8), (6 : UInt8), (6 : UInt8), (6 : UInt8), (6 : UInt8), (6 : UInt8), (6 : UInt8), (6 : UInt8), (6 : UInt8), (6 : UInt8), (6 : UInt8), (6 : UInt8), (6 : UInt8), (6 : UInt8), (6 : UInt8), (6 : UInt8), (6 : UInt8), (6 : UInt8), (6 : UInt8), (6 : UInt8), (6 : UInt8), (6 : UInt8), (7 : UInt8), (7 : UInt8), (7 : UInt8), (7 : UInt8), (7 : UInt8), (7 : UInt8), (7 : UInt8), (7 : UInt8), (7 : UInt8), (7 : UInt8), (7 : UInt8), (7 : UInt8), (7 : UInt8), (7 : UInt8), (7 : UInt8), (7 : UInt8), (7 : UInt8), (7 : UInt8), (7 : UInt8), (7 : UInt8), (7 : UInt8), (7 : UInt8), (7 : UInt8), (7 : UInt8), (7 : UInt8), (7 : UInt8), (7 : UInt8), (7 : UInt8), (7 : UInt8), (7 : UInt8), (7 : UInt8), (7 : UInt8), (7 : UInt8), (7 : UInt8), (7 : UInt8), (7 : UInt8), (7 : UInt8), (7 : UInt8), (7 : UInt8), (7 : UInt8), (7 : UInt8), (7 : UInt8), (7 : UInt8), (7 : UInt8), (7 : UInt8), (7 : UInt8), (7 : UInt8), (7 : UInt8), (7 : UInt8), (7 : UInt8), (7 : UInt8), (7 : UInt8), (7 : UInt8), (7 : UInt8), (7 : UInt8), (7 : UInt8), (7 : UInt8), (7 : UInt8), (7 : UInt8), (7 : UInt8), (7 : UInt8), (7 : UInt8), (7 : UInt8), (7 : UInt8), (8 : UInt8), (8 : UInt8), (8 : UInt8), (8 : UInt8), (8 : UInt8), (8 : UInt8), (8 : UInt8), (8 : UInt8), (8 : UInt8), (8 : UInt8), (8 : UInt8), (8 : UInt8), (8 : UInt8), (8 : UInt8), (8 : UInt8), (8 : UInt8), (8 : UInt8), (8 : UInt8), (8 : UInt8), (8 : UInt8), (8 : UInt8), (8 : UInt8), (8 : UInt8), (8 : UInt8), (8 : UInt8), (8 : UInt8), (8 : UInt8), (8 : UInt8), (8 : UInt8), (8 : UInt8), (8 : UInt8), (8 : UInt8), (8 : UInt8), (8 : UInt8), (8 : UInt8), (8 : UInt8), (8 : UInt8), (8 : UInt8), (8 : UInt8), (8 : UInt8), (8 : UInt8), (8 : UInt8), (8 : UInt8), (8 : UInt8), (8 : UInt8), (8 : UInt8), (8 : UInt8), (8 : UInt8), (8 : UInt8), (8 : UInt8), (8 : UInt8), (8 : UInt8), (8 : UInt8), (8 : UInt8), (8 : UInt8), (8 : UInt8), (8 : UInt8), (8 : UInt8), (8 : UInt8), (8 : UInt8), (8 : UInt8), (8 : UInt8), (8 : UInt8), (8 : UInt8), (8 : UInt8), (8 : UInt8), (8 : UInt8), (8 : UInt8), (8 : UInt8), (8 : UInt8), (8 : UInt8), (8 : UInt8), (8 : UInt8), (8 : UInt8), (8 : UInt8), (8 : UInt8), (8 : UInt8), (8 : UInt8), (8 : UInt8), (8 : UInt8), (8 : UInt8), (8 : UInt8), (8 : UInt8), (8 : UInt8), (8 : UInt8), (8 : UInt8), (8 : UInt8), (8 : UInt8), (8 : UInt8), (8 : UInt8), (8 : UInt8), (8 : UInt8), (8 : UInt8), (8 : UInt8), (8 : UInt8), (8 : UInt8), (8 : UInt8), (8 : UInt8), (8 : UInt8), (8 : UInt8), (8 : UInt8), (8 : UInt8), (8 : UInt8), (8 : UInt8), (8 : UInt8), (8 : UInt8), (8 : UInt8), (8 : UInt8), (8 : UInt8), (8 : UInt8), (8 : UInt8), (8 : UInt8), (8 : UInt8), (8 : UInt8), (8 : UInt8), (8 : UInt8), (8 : UInt8), (8 : UInt8), (8 : UInt8), (8 : UInt8), (8 : UInt8), (8 : UInt8), (8 : UInt8), (8 : UInt8), (8 : UInt8), (8 : UInt8), (8 : UInt8), (8 : UInt8)]) (↑x : Int)) = PV.int IntKind.u8 (↑(lenM x) : Int), (0 : Int) ≤ (↑x : Int), (↑x : Int) < (↑(256 : Nat) : Int), PV.int IntKind.i64 (IntKind.wrap IntKind.i64 (↑(lenM x) : Int)) = PV.int IntKind.i64 (↑(lenM x) : Int), PV.int IntKind.i64 (IntKind.wrap IntKind.i64 ((0 : Int) + (↑(lenM x) : Int))) = PV.int IntKind.i64 (↑(lenM x) : Int), PV.int IntKind.i64 (↑(lenM x) : Int) = PV.int IntKind.i64 (↑(lenM x) : Int)] (by kernel_rfl) (ac (by exact decide_eq_false (by omega)) (ac (by exact decide_eq_false (by omega)) (ac (by exact decide_eq_false (by omega)) (ac ?_ (ac ?_ (ac (by omega) (ac (by omega) (ac ?_ (ac ?_ (ao (by with_reducible rfl)))))))))))
  all_goals match x, hx with
  | 0, _ | 1, _ | 2, _ | 3, _ | 4, _ | 5, _ | 6, _ | 7, _ | 8, _ | 9, _ | 10, _ | 11, _ => first | rfl | decide
theorem pc_len {x : Nat} (hx : x < 12) : PC Tryz.prog G0 89 [] [.int .u64 x] [] (.int .i64 (lenM x)) := by
  refine PC.of (fn := Tryz.f89) (c := bodyOf Tryz.f89) Tryz.func89 (by kernel_rfl) (by kernel_rfl) (by kernel_rfl) (by kernel_rfl) ?_
  refine W.ret [(2, aK (I6 (↑(lenM x) : Int)))] [] [PC Tryz.prog G0 77 [] [U6 (x:Int)] [] (I6 (↑(lenM x) : Int)), rr (I6 (↑(lenM x) : Int))] (by kernel_rfl) (ac (pc_len64s (by first | omega | decide)) (ao rfl))
theorem pc_pdq {n : Nat} (hn : n < 12) (x : Int) (l : List Int) : PC Tryz.prog G0 88 [(0, rowU n l)] [.ref 0 [] 1 0 n, .int .i64 0, .int .i64 n, .int .i64 x] [(0, rowU n (isort (n - 1) 1 l))] (.tup []) := by
  refine PC.of (fn := Tryz.f88) (c := bodyOf Tryz.f88) Tryz.func88 (by kernel_rfl) (by kernel_rfl) (by kernel_rfl) (by kernel_rfl) ?_
  refine W.seg [] [(0, 0)] (DS.mk (argF 0 [PV.ref 0 [] 1 0 n, I6 0, I6 (n:Int), I6 x]) [(0, rowU n l)]) (todo' := loopAt Tryz.f88 0) [rr (PV.ref 0 [] 1 0 n), rr (I6 0), rr (I6 (n:Int)), rr (I6 x), rr (B3 n l)] (by kernel_rfl) (ac rfl (ac rfl (ac rfl (ac rfl (ao rfl))))) ?_
  refine W.ret [(2, aV (I6 (n:Int))), (5, aT), (9, Ans.call true [(0, 0)] [(0, Row.mk (B3 n (isort (n - 1) 1 l)) false)] (PV.tup []))] [(0, 0)] [I6 (IntKind.wrap .i64 ((n:Int) - 0)) = I6 (n:Int), decide ((n:Int) ≤ 12) = true, PC Tryz.prog G0 100 [(0, Row.mk (B3 n l) false)] [PV.ref 0 [] 1 0 n, I6 0, I6 (n:Int)] [(0, Row.mk (B3 n (isort (n - 1) 1 l)) false)] (PV.tup []), rr (B3 n (isort (n - 1) 1 l)), rr (PV.tup [])] (by kernel_rfl) (ac (cg (w_i64 rfl (by omega) (by omega))) (ac (decide_eq_true (by omega)) (ac (pc_isort (by first | omega | decide) _) (ac rfl (ao rfl)))))
theorem pc_sort {n : Nat} (hn : n < 12) (l : List Int) : PC Tryz.prog G0 73 [(0, rowU n l)] [.ref 0 [] 1 0 n] [(0, rowU n (isort (n - 1) 1 l))] (.tup []) := by
  refine PC.of (fn := Tryz.f73) (c := bodyOf Tryz.f73) Tryz.func73 (by kernel_rfl) (by kernel_rfl) (by kernel_rfl) (by kernel_rfl) ?_
  refine W.ret [(6, aV (U6 (n:Int))), (7, aK (I6 (↑(lenM n) : Int))), (8, Ans.call true [(0, 0)] [(0, Row.mk (B3 n (isort (n - 1) 1 l)) false)] (PV.tup []))] [(0, 0)] [U6 (IntKind.wrap .u64 (n:Int)) = U6 (n:Int), PC Tryz.prog G0 89 [] [U6 (n:Int)] [] (I6 (↑(lenM n) : Int)), PC Tryz.prog G0 88 [(0, Row.mk (B3 n l) false)] [PV.ref 0 [] 1 0 n, I6 0, I6 (n:Int), I6 (↑(lenM n) : Int)] [(0, Row.mk (B3 n (isort (n - 1) 1 l)) false)] (PV.tup []), rr (B3 n (isort (n - 1) 1 l)), rr (PV.tup [])] (by kernel_rfl) (ac (cg (w_u64 rfl (by omega) (by omega))) (ac (pc_len (by first | omega | decide)) (ac (pc_pdq (by first | omega | decide) _ _) (ac rfl (ao rfl)))))
theorem pc_clone {n : Nat} (hn : n < 1000) (l : List Int) (h0 : 0 < n) : PC Tryz.prog G0 72 [] [.vec false (.iarr .u32 n l)] [(1, rowU n l)] (.ref 1 [] 1 0 n) := by
  refine PC.of (fn := Tryz.f72) (c := bodyOf Tryz.f72) Tryz.func72 (by kernel_rfl) (by kernel_rfl) (by kernel_rfl) (by kernel_rfl) ?_
  refine W.ret [(5, Ans.vu (PV.ref 144 [] 1 0 n) [(112, none), (144, some (Row.mk (B3 n l) false))])] [(144, 1)] [([(112, none), (144, some (Row.mk (B3 (0 + n) l) false))] : List (Nat × Option Row)) = [(112, none), (144, some (Row.mk (B3 n l) false))], PV.ref 144 [] 1 0 (0 + n) = PV.ref 144 [] 1 0 n, rr (0), (0 + n) * 4 ≤ 140737488355328, 0 + n ≤ 9223372036854775807, rr (B3 n l), rr (PV.ref 1 [] 1 0 n)] (by kernel_rfl) (ac (by simp only [Nat.zero_add]) (ac (by simp only [Nat.zero_add]) (ac rfl (ac (by omega) (ac (by omega) (ac rfl (ao rfl)))))))
end Go.Proofs
namespace Go.Proofs
open Go Go.Pe Go.Pm
set_option maxRecDepth 100000
theorem pc_median0 (nl : Bool) : PC Tryz.prog G0 47 [] [.vec nl (.iarr .u32 0 [])] [] (.int .u32 0) := by
  refine PC.of (fn := Tryz.f47) (c := bodyOf Tryz.f47) Tryz.func47 (by kernel_rfl) (by kernel_rfl) (by kernel_rfl) (by kernel_rfl) ?_
  refine W.ret [(2, aV (I6 0))] [] [I6 (↑(0 : Nat) : Int) = I6 0, rr (U3 0)] (by kernel_rfl) (ac (cg (by omega)) (ao rfl))
theorem pc_median1 {l : List Int} {n : Nat} (hn : n = l.length) (h0 : 0 < n) (hl : n < 1000) : PC Tryz.prog G0 47 [] [.vec false (.iarr .u32 n l)] [] (.int .u32 (medianM l)) := by
  refine PC.of (fn := Tryz.f47) (c := bodyOf Tryz.f47) Tryz.func47 (by kernel_rfl) (by kernel_rfl) (by kernel_rfl) (by kernel_rfl) ?_
  subst hn
  have hm : (lastU l).length < 12 := by simp [lastU]; omega
  have hm0 : 0 < (lastU l).length := by simp [lastU]; omega
  have hdrop : (mx 0 ((l.length : Int) - 11)).toNat = l.length - 11 := by
    unfold mx
    split <;> omega
  have hmx : 0 ≤ mx 0 ((l.length : Int) - 11) ∧ mx 0 ((l.length : Int) - 11) ≤ l.length := by
    unfold mx
    split <;> omega
  have hk : ((l.length : Int) - mx 0 ((l.length : Int) - 11)).toNat = (lastU l).length := by
    simp [lastU]; omega
  have hmm : (drop0 l (mx 0 ((l.length : Int) - 11)).toNat).take (lastU l).length = lastU l := by
    rw [hdrop, drop0_eq]
    exact List.take_of_length_le (by simp [lastU])
  have hv : PV.vec false (PV.iarr IntKind.u32 ((l.length : Int) - mx 0 ((l.length : Int) - 11)).toNat (List.take ((l.length : Int) - mx 0 ((l.length : Int) - 11)).toNat (drop0 l (mx 0 ((l.length : Int) - 11)).toNat))) = PV.vec false (PV.iarr IntKind.u32 (lastU l).length (lastU l)) := by rw [hk, hmm]
  have hres : medianM l = (isort ((lastU l).length - 1) 1 (lastU l)).getD ((lastU l).length / 2) 0 := by
    have : l ≠ [] := by rintro rfl; simp at h0
    simp [medianM, this, middle]
  have hd : (((lastU l).length : Int)).tdiv 2 = (((lastU l).length / 2 : Nat) : Int) := by
    rw [Int.tdiv_eq_ediv_of_nonneg (by omega)]; omega
  obtain ⟨hmx1, hmx2⟩ := hmx
  rw [hres]
  generalize hg : lastU l = m at *
  refine W.ret [(3, aF), (7, aV (I6 ((↑(List.length l) : Int) - 11))), (9, aV (PV.vec false (B3 (List.length m) m))), (10, Ans.call true [] [(1, Row.mk (B3 (List.length m) m) false)] (PV.ref 1 [] 1 0 (List.length m))), (13, Ans.call true [(225, 0)] [(0, Row.mk (B3 (List.length m) (isort (List.length m - 1) 1 m)) false)] (PV.tup [])), (17, aV (I6 (↑(List.length m / 2) : Int))), (18, aV (PV.at 225 [Stp.idx (List.length m / 2) 1]))] [] [((↑(List.length l) : Int) == 0) = false, I6 (IntKind.wrap .i64 ((↑(List.length l) : Int) - 11)) = I6 ((↑(List.length l) : Int) - 11), PV.vec false (B3 (Int.toNat ((↑(List.length l) : Int) - mx (0 : Int) ((↑(List.length l) : Int) - 11))) (List.take (Int.toNat ((↑(List.length l) : Int) - mx (0 : Int) ((↑(List.length l) : Int) - 11))) (drop0 l (Int.toNat (mx (0 : Int) ((↑(List.length l) : Int) - 11)))))) = PV.vec false (B3 (List.length m) m), (0 : Int) ≤ mx (0 : Int) ((↑(List.length l) : Int) - 11), mx (0 : Int) ((↑(List.length l) : Int) - 11) ≤ (↑(List.length l) : Int), (↑(List.length l) : Int) ≤ (↑(List.length l) : Int), PC Tryz.prog G0 72 [] [PV.vec false (B3 (List.length m) m)] [(1, Row.mk (B3 (List.length m) m) false)] (PV.ref 1 [] 1 0 (List.length m)), PC Tryz.prog G0 73 [(0, Row.mk (B3 (List.length m) m) false)] [PV.ref 0 [] 1 0 (List.length m)] [(0, Row.mk (B3 (List.length m) (isort (List.length m - 1) 1 m)) false)] (PV.tup []), I6 (IntKind.wrap .i64 (Int.tdiv (↑(List.length m) : Int) (2 : Int))) = I6 (↑(List.length m / 2) : Int), (2 : Int) ≠ (0 : Int), PV.at 225 [Stp.idx (0 + Int.toNat (↑(List.length m / 2) : Int)) 1] = PV.at 225 [Stp.idx (List.length m / 2) 1], 0 ≤ (↑(List.length m / 2) : Int), (↑(List.length m / 2) : Int) < (↑(List.length m) : Int), List.length m / 2 < List.length m, rr (U3 (List.getD (isort (List.length m - 1) 1 m) (List.length m / 2) (0 : Int)))] (by kernel_rfl) (ac (decide_eq_false (by omega)) (ac (cg (w_i64 rfl (by omega) (by omega))) (ac (by omega) (ac (by omega) (ac (by omega) (ac (by omega) (ac (pc_clone (by first | omega | decide) _ (by first | omega | decide)) (ac (pc_sort (by first | omega | decide) _) (ac (cg (w_i64 rfl (by omega) (by omega))) (ac (by omega) (ac (by simp only [Int.toNat_natCast, Nat.zero_add]) (ac (by omega) (ac (by omega) (ac (by omega) (ao rfl)))))))))))))))
theorem pc_median {nl : Bool} {n : Nat} {l : List Int} (hn : n = l.length) (hl : n < 1000) (hnl : nl = true → l = []) : PC Tryz.prog G0 47 [] [.vec nl (.iarr .u32 n l)] [] (.int .u32 (medianM l)) := by
  by_cases h0 : l = []
  · subst h0; subst hn; exact pc_median0 nl
  · have : nl = false := by cases nl with
      | false => rfl
      | true => exact absurd (hnl rfl) h0
    subst this
    exact pc_median1 hn (by have := List.length_pos_iff.2 h0; omega) hl
end Go.Proofs
namespace Go.Proofs
open Go Go.Pe Go.Pm
set_option maxRecDepth 100000
theorem pc_after1 {nl : Bool} {n : Nat} {l : List Int} (t : Int) (hn : n = l.length) (h0 : 0 < n) (hl : n < 1000) (hnl : nl = true → l = []) : PC Tryz.prog G0 26 [] [.vec nl (.iarr .u32 n l), .int .u32 t] [] (.bool (decide (t > medianM l))) := by
  refine PC.of (fn := Tryz.f26) (c := bodyOf Tryz.f26) Tryz.func26 (by kernel_rfl) (by kernel_rfl) (by kernel_rfl) (by kernel_rfl) ?_
  have := @pc_median nl n l hn hl hnl
  refine W.ret [(3, aF), (7, aK (U3 (medianM l)))] [] [((n:Int) == 0) = false, PC Tryz.prog G0 47 [] [PV.vec nl (B3 n l)] [] (U3 (medianM l)), rr (PV.bool (decide (t > medianM l)))] (by kernel_rfl) (ac (decide_eq_false (by omega)) (ac (this) (ao rfl)))
theorem pc_last {nl : Bool} {n : Nat} {l : List Int} (hn : n = l.length) (hl : n < 1000) : PC Tryz.prog G0 51 [] [.vec nl (.iarr .u32 n l)] [] (.vec nl (.iarr .u32 (lastU l).length (lastU l))) := by
  refine PC.of (fn := Tryz.f51) (c := bodyOf Tryz.f51) Tryz.func51 (by kernel_rfl) (by kernel_rfl) (by kernel_rfl) (by kernel_rfl) ?_
  subst hn
  by_cases h : l.length > 11
  · have e1 : ((l.length : Int) - 11).toNat = l.length - 11 := by omega
    have e2 : ((l.length : Int) - ((l.length : Int) - 11)).toNat = (lastU l).length := by simp [lastU]; omega
    have e3 : PV.vec nl (PV.iarr IntKind.u32 ((l.length : Int) - ((l.length : Int) - 11)).toNat (List.take ((l.length : Int) - ((l.length : Int) - 11)).toNat (drop0 l ((l.length : Int) - 11).toNat))) = PV.vec nl (PV.iarr IntKind.u32 (lastU l).length (lastU l)) := by
      rw [e2, e1, drop0_eq]
      congr 2
      exact List.take_of_length_le (by simp [lastU])
    refine W.ret [(3, aT), (7, aV (I6 ((↑(List.length l) : Int) - 11))), (8, aV (PV.vec nl (B3 (List.length (lastU l)) (lastU l))))] [] [decide ((↑(List.length l) : Int) > 11) = true, I6 (IntKind.wrap .i64 ((↑(List.length l) : Int) - 11)) = I6 ((↑(List.length l) : Int) - 11), PV.vec nl (B3 (Int.toNat ((↑(List.length l) : Int) - ((↑(List.length l) : Int) - 11))) (List.take (Int.toNat ((↑(List.length l) : Int) - ((↑(List.length l) : Int) - 11))) (drop0 l (Int.toNat ((↑(List.length l) : Int) - 11))))) = PV.vec nl (B3 (List.length (lastU l)) (lastU l)), 0 ≤ (↑(List.length l) : Int) - 11, (↑(List.length l) : Int) - 11 ≤ (↑(List.length l) : Int), (↑(List.length l) : Int) ≤ (↑(List.length l) : Int), rr (PV.vec nl (B3 (List.length (lastU l)) (lastU l)))] (by kernel_rfl) (ac (decide_eq_true (by omega)) (ac (cg (w_i64 rfl (by omega) (by omega))) (ac (by omega) (ac (by omega) (ac (by omega) (ac (by omega) (ao rfl)))))))
  · have e : lastU l = l := by
      unfold lastU
      rw [show l.length - 11 = 0 by omega]; rfl
    rw [e]
    refine W.ret [(3, aF)] [] [decide ((↑(List.length l) : Int) > 11) = false, rr (PV.vec nl (B3 (List.length l) l))] (by kernel_rfl) (ac (decide_eq_false (by omega)) (ao rfl))
def dsIs (nl : Bool) (m : Int) (n : Nat) (l : List Int) (a b i : Nat) : DS := ⟨[(0, .int .u32 m), (1, .vec nl (.iarr .u32 n l)), (5, .int .i64 a), (6, .int .i64 b), (7, .int .i64 i)], []⟩
theorem cnt_step (p : Int → Bool) (l : List Int) {i : Nat} (h : i < l.length) : (l.drop i).countP p = (l.drop (i + 1)).countP p + if p (l.getD i 0) = true then 1 else 0 := by
  rw [List.drop_eq_getElem_cons h, List.countP_cons]
  simp [List.getD_eq_getElem?_getD, h]
theorem W_is {nl : Bool} {m : Int} {n : Nat} {l : List Int} (hn : n = l.length) (h0 : 0 < n) (hl : n < 1000) : ∀ (k i a b : Nat), i + k = n → a + lt m (l.drop i) = lt m l → b + eqs m (l.drop i) = eqs m l →
    W Tryz.prog G0 Tryz.f52 [] [] (.bool (isM m l)) (loopAt Tryz.f52 0) (dsIs nl m n l a b i)
  | 0, i, a, b, hk, ha, hb => by
    have hd : l.drop i = [] := List.drop_eq_nil_of_le (by omega)
    rw [hd] at ha hb
    have la : lt m l ≤ l.length := List.countP_le_length
    have lb : eqs m l ≤ l.length := List.countP_le_length
    simp only [lt, eqs, List.countP_nil, Nat.add_zero] at ha hb
    have hne : l ≠ [] := by rintro rfl; simp at hn; omega
    have hq : (n : Int).tdiv 2 = ((n / 2 : Nat) : Int) := by rw [Int.tdiv_eq_ediv_of_nonneg (by omega)]; omega
    have hM : isM m l = (decide (a ≤ n / 2) && (decide (n / 2 < a + b) && decide (0 < b))) := by
      unfold isM lt eqs
      rw [if_neg hne, ← ha, ← hb, hn]
    rw [hM]
    unfold lt at la
    unfold eqs at lb
    by_cases c1 : a ≤ n / 2
    · by_cases c2 : n / 2 < a + b
      · have c3 : 0 < b := by omega
        refine W.ret [(3, aF), (7, aV (I6 (↑(n / 2) : Int))), (8, aT), (12, aV (I6 (↑(a + b) : Int))), (15, aV (I6 (↑(n / 2) : Int))), (16, aT), (20, aT)] [] [decide ((i:Int) < (n:Int)) = false, I6 (IntKind.wrap .i64 (Int.tdiv (n:Int) (2 : Int))) = I6 (↑(n / 2) : Int), (2 : Int) ≠ (0 : Int), decide ((a:Int) ≤ (↑(n / 2) : Int)) = true, I6 (IntKind.wrap .i64 ((a:Int) + (b:Int))) = I6 (↑(a + b) : Int), I6 (IntKind.wrap .i64 (Int.tdiv (n:Int) (2 : Int))) = I6 (↑(n / 2) : Int), (2 : Int) ≠ (0 : Int), decide ((↑(a + b) : Int) > (↑(n / 2) : Int)) = true, decide ((b:Int) > 0) = true, PV.bool true = PV.bool (decide (a ≤ n / 2) && (decide (n / 2 < a + b) && decide (0 < b)))] (by kernel_rfl) (ac (decide_eq_false (by omega)) (ac (cg (w_i64 hq (by omega) (by omega))) (ac (by omega) (ac (decide_eq_true (by omega)) (ac (cg (w_i64 rfl (by omega) (by omega))) (ac (cg (w_i64 hq (by omega) (by omega))) (ac (by omega) (ac (decide_eq_true (by omega)) (ac (decide_eq_true (by omega)) (ao (by (simp; omega))))))))))))
      · refine W.ret [(3, aF), (7, aV (I6 (↑(n / 2) : Int))), (8, aT), (12, aV (I6 (↑(a + b) : Int))), (15, aV (I6 (↑(n / 2) : Int))), (16, aF)] [] [decide ((i:Int) < (n:Int)) = false, I6 (IntKind.wrap .i64 (Int.tdiv (n:Int) (2 : Int))) = I6 (↑(n / 2) : Int), (2 : Int) ≠ (0 : Int), decide ((a:Int) ≤ (↑(n / 2) : Int)) = true, I6 (IntKind.wrap .i64 ((a:Int) + (b:Int))) = I6 (↑(a + b) : Int), I6 (IntKind.wrap .i64 (Int.tdiv (n:Int) (2 : Int))) = I6 (↑(n / 2) : Int), (2 : Int) ≠ (0 : Int), decide ((↑(a + b) : Int) > (↑(n / 2) : Int)) = false, PV.bool false = PV.bool (decide (a ≤ n / 2) && (decide (n / 2 < a + b) && decide (0 < b)))] (by kernel_rfl) (ac (decide_eq_false (by omega)) (ac (cg (w_i64 hq (by omega) (by omega))) (ac (by omega) (ac (decide_eq_true (by omega)) (ac (cg (w_i64 rfl (by omega) (by omega))) (ac (cg (w_i64 hq (by omega) (by omega))) (ac (by omega) (ac (decide_eq_false (by omega)) (ao (by (simp; omega)))))))))))
    · refine W.ret [(3, aF), (7, aV (I6 (↑(n / 2) : Int))), (8, aF)] [] [decide ((i:Int) < (n:Int)) = false, I6 (IntKind.wrap .i64 (Int.tdiv (n:Int) (2 : Int))) = I6 (↑(n / 2) : Int), (2 : Int) ≠ (0 : Int), decide ((a:Int) ≤ (↑(n / 2) : Int)) = false, PV.bool false = PV.bool (decide (a ≤ n / 2) && (decide (n / 2 < a + b) && decide (0 < b)))] (by kernel_rfl) (ac (decide_eq_false (by omega)) (ac (cg (w_i64 hq (by omega) (by omega))) (ac (by omega) (ac (decide_eq_false (by omega)) (ao (by (simp; omega)))))))
  | k + 1, i, a, b, hk, ha, hb => by
    have la : lt m l ≤ l.length := List.countP_le_length
    have lb : eqs m l ≤ l.length := List.countP_le_length
    have sa := cnt_step (fun x => decide (x < m)) l (i := i) (by omega)
    have sb := cnt_step (fun x => decide (x = m)) l (i := i) (by omega)
    unfold lt eqs at *
    by_cases c1 : l.getD i 0 < m
    · have c2 : ¬ l.getD i 0 = m := by omega
      rw [if_pos (by simpa using c1)] at sa
      rw [if_neg (by simpa using c2)] at sb
      refine W.seg [(3, aT), (9, aT), (11, aV (I6 (↑(a + 1) : Int))), (18, aF), (20, aV (I6 (↑(i + 1) : Int)))] [] (dsIs nl m n l (a + 1) b (i + 1)) (todo' := loopAt Tryz.f52 0) [decide ((i:Int) < (n:Int)) = true, 0 ≤ (i:Int), (i:Int) < (n:Int), i < n, decide (List.getD l i (0 : Int) < m) = true, I6 (IntKind.wrap .i64 ((a:Int) + 1)) = I6 (↑(a + 1) : Int), 0 ≤ (i:Int), (i:Int) < (n:Int), i < n, (List.getD l i (0 : Int) == m) = false, I6 (IntKind.wrap .i64 ((i:Int) + 1)) = I6 (↑(i + 1) : Int), rr (U3 m), rr (PV.vec nl (B3 n l)), rr (I6 (↑(a + 1) : Int)), rr (I6 (b:Int)), rr (I6 (↑(i + 1) : Int))] (by kernel_rfl) (ac (decide_eq_true (by omega)) (ac (by omega) (ac (by omega) (ac (by omega) (ac (decide_eq_true (by omega)) (ac (cg (w_i64 rfl (by omega) (by omega))) (ac (by omega) (ac (by omega) (ac (by omega) (ac (decide_eq_false (by omega)) (ac (cg (w_i64 rfl (by omega) (by omega))) (ac rfl (ac rfl (ac rfl (ac rfl (ao rfl)))))))))))))))) ?_
      exact W_is hn h0 hl k (i + 1) (a + 1) b (by omega) (by unfold lt; omega) (by unfold eqs; omega)
    · by_cases c2 : l.getD i 0 = m
      · rw [if_neg (by simpa using c1)] at sa
        rw [if_pos (by simpa using c2)] at sb
        refine W.seg [(3, aT), (7, aV (U3 m)), (9, aF), (13, aV (U3 m)), (15, aT), (17, aV (I6 (↑(b + 1) : Int))), (20, aV (I6 (↑(i + 1) : Int)))] [] (dsIs nl m n l a (b + 1) (i + 1)) (todo' := loopAt Tryz.f52 0) [decide ((i:Int) < (n:Int)) = true, 0 ≤ (i:Int), (i:Int) < (n:Int), U3 (List.getD l i (0 : Int)) = U3 m, i < n, decide (m < m) = false, 0 ≤ (i:Int), (i:Int) < (n:Int), U3 (List.getD l i (0 : Int)) = U3 m, i < n, (m == m) = true, I6 (IntKind.wrap .i64 ((b:Int) + 1)) = I6 (↑(b + 1) : Int), I6 (IntKind.wrap .i64 ((i:Int) + 1)) = I6 (↑(i + 1) : Int), rr (U3 m), rr (PV.vec nl (B3 n l)), rr (I6 (a:Int)), rr (I6 (↑(b + 1) : Int)), rr (I6 (↑(i + 1) : Int))] (by kernel_rfl) (ac (decide_eq_true (by omega)) (ac (by omega) (ac (by omega) (ac (cg (c2)) (ac (by omega) (ac (decide_eq_false (by omega)) (ac (by omega) (ac (by omega) (ac (cg (c2)) (ac (by omega) (ac (decide_eq_true (by omega)) (ac (cg (w_i64 rfl (by omega) (by omega))) (ac (cg (w_i64 rfl (by omega) (by omega))) (ac rfl (ac rfl (ac rfl (ac rfl (ao rfl)))))))))))))))))) ?_
        exact W_is hn h0 hl k (i + 1) a (b + 1) (by omega) (by unfold lt; omega) (by unfold eqs; omega)
      · rw [if_neg (by simpa using c1)] at sa
        rw [if_neg (by simpa using c2)] at sb
        refine W.seg [(3, aT), (9, aF), (15, aF), (17, aV (I6 (↑(i + 1) : Int)))] [] (dsIs nl m n l a b (i + 1)) (todo' := loopAt Tryz.f52 0) [decide ((i:Int) < (n:Int)) = true, 0 ≤ (i:Int), (i:Int) < (n:Int), i < n, decide (List.getD l i (0 : Int) < m) = false, 0 ≤ (i:Int), (i:Int) < (n:Int), i < n, (List.getD l i (0 : Int) == m) = false, I6 (IntKind.wrap .i64 ((i:Int) + 1)) = I6 (↑(i + 1) : Int), rr (U3 m), rr (PV.vec nl (B3 n l)), rr (I6 (a:Int)), rr (I6 (b:Int)), rr (I6 (↑(i + 1) : Int))] (by kernel_rfl) (ac (decide_eq_true (by omega)) (ac (by omega) (ac (by omega) (ac (by omega) (ac (decide_eq_false (by omega)) (ac (by omega) (ac (by omega) (ac (by omega) (ac (decide_eq_false (by omega)) (ac (cg (w_i64 rfl (by omega) (by omega))) (ac rfl (ac rfl (ac rfl (ac rfl (ao rfl))))))))))))))) ?_
        exact W_is hn h0 hl k (i + 1) a b (by omega) (by unfold lt; omega) (by unfold eqs; omega)
theorem pc_is {nl : Bool} {m : Int} {n : Nat} {l : List Int} (hn : n = l.length) (hl : n < 1000) : PC Tryz.prog G0 52 [] [.int .u32 m, .vec nl (.iarr .u32 n l)] [] (.bool (isM m (lastU l))) := by
  refine PC.of (fn := Tryz.f52) (c := bodyOf Tryz.f52) Tryz.func52 (by kernel_rfl) (by kernel_rfl) (by kernel_rfl) (by kernel_rfl) ?_
  have hlen : (lastU l).length ≤ n := by simp [lastU]; omega
  have hp := pc_last (nl := nl) hn hl
  by_cases h0 : lastU l = []
  · rw [h0] at hp ⊢
    have : isM m [] = decide (m = 0) := rfl
    rw [this]
    have hb : decide (m = 0) = (m == 0) := by rw [Bool.eq_iff_iff]; simp
    rw [hb]
    simp only [List.length_nil] at hp
    refine W.ret [(2, aK (PV.vec nl (B3 0 []))), (5, aV (I6 0))] [] [PC Tryz.prog G0 51 [] [PV.vec nl (B3 n l)] [] (PV.vec nl (B3 0 [])), I6 (↑(0 : Nat) : Int) = I6 0, rr (PV.bool (m == (0 : Int)))] (by kernel_rfl) (ac (hp) (ac (cg (by omega)) (ao rfl)))
  · have hpos := List.length_pos_iff.2 h0
    generalize hL : lastU l = L at *
    refine W.seg [(2, Ans.call false [] [] (PV.vec nl (B3 (List.length L) L))), (6, aF)] [] (dsIs nl m (List.length L) L 0 0 0) (todo' := loopAt Tryz.f52 0) [PC Tryz.prog G0 51 [] [PV.vec nl (B3 n l)] [] (PV.vec nl (B3 (List.length L) L)), ((↑(List.length L) : Int) == 0) = false, rr (U3 m), rr (PV.vec nl (B3 (List.length L) L)), I6 0 = I6 (↑(0 : Nat) : Int), I6 0 = I6 (↑(0 : Nat) : Int), I6 0 = I6 (↑(0 : Nat) : Int)] (by kernel_rfl) (ac (hp) (ac (decide_eq_false (by omega)) (ac rfl (ac rfl (ac (cg (by omega)) (ac (cg (by omega)) (ao (cg (by omega))))))))) ?_
    exact W_is rfl hpos (by omega) L.length 0 0 0 (by omega) (by simp) (by simp)
end Go.Proofs
namespace Go.Proofs
open Go Go.Pe Go.Pm
set_option maxRecDepth 100000
def dsRm (nl : Bool) (n : Nat) (l L : List Int) (i : Nat) : DS := ⟨[(0, .vec nl (.iarr .u32 n l)), (6, .vec nl (.iarr .u32 L.length L)), (7, .int .i64 L.length), (8, .int .i64 i)], []⟩
theorem W_rm {nl : Bool} {n : Nat} {l L : List Int} (hn : n = l.length) (hl : n < 1000) (hL : lastU l = L) (hLn : L.length ≤ n) : ∀ (k i : Nat), i + k = L.length → (medianM l ∈ L.drop i ∨ L = []) → 
    W Tryz.prog G0 Tryz.f31 [] [] (.int .u32 (medianM l)) (loopAt Tryz.f31 0) (dsRm nl n l L i)
  | 0, i, hk, h => by
    have hd : L.drop i = [] := List.drop_eq_nil_of_le (by omega)
    rw [hd] at h
    have h0 : l = [] := by
      rcases h with h | h
      · cases h
      · rw [h] at hL; exact lastU_nil.1 hL
    have : medianM l = 0 := by rw [h0]; rfl
    rw [this]
    refine W.ret [(0, aF)] [] [decide ((i:Int) < (↑(List.length L) : Int)) = false, rr (U3 0)] (by kernel_rfl) (ac (decide_eq_false (by omega)) (ao rfl))
  | k + 1, i, hk, h => by
    have hp := @pc_is nl (L.getD i 0) n l hn hl
    rw [hL] at hp
    by_cases hc : isM (L.getD i 0) L = true
    · have hm : L.getD i 0 = medianM l := medianM_eq (by rw [hL]; exact hc)
      rw [← hm]
      clear hm
      rw [hc] at hp
      refine W.ret [(0, aT), (6, aK (PV.bool true))] [] [decide ((i:Int) < (↑(List.length L) : Int)) = true, 0 ≤ (i:Int), (i:Int) < (↑(List.length L) : Int), i < List.length L, PC Tryz.prog G0 52 [] [U3 (List.getD L i (0 : Int)), PV.vec nl (B3 n l)] [] (PV.bool true), rr (U3 (List.getD L i (0 : Int)))] (by kernel_rfl) (ac (decide_eq_true (by omega)) (ac (by omega) (ac (by omega) (ac (by omega) (ac (hp) (ao rfl))))))
    · rw [Bool.not_eq_true] at hc
      rw [hc] at hp
      refine W.seg [(0, aT), (6, aK (PV.bool false)), (7, aV (I6 (↑(i + 1) : Int)))] [] (dsRm nl n l L (i + 1)) (todo' := loopAt Tryz.f31 0) [decide ((i:Int) < (↑(List.length L) : Int)) = true, 0 ≤ (i:Int), (i:Int) < (↑(List.length L) : Int), i < List.length L, PC Tryz.prog G0 52 [] [U3 (List.getD L i (0 : Int)), PV.vec nl (B3 n l)] [] (PV.bool false), I6 (IntKind.wrap .i64 ((i:Int) + 1)) = I6 (↑(i + 1) : Int), rr (PV.vec nl (B3 n l)), rr (PV.vec nl (B3 (List.length L) L)), rr (I6 (↑(List.length L) : Int)), rr (I6 (↑(i + 1) : Int))] (by kernel_rfl) (ac (decide_eq_true (by omega)) (ac (by omega) (ac (by omega) (ac (by omega) (ac (hp) (ac (cg (w_i64 rfl (by omega) (by omega))) (ac rfl (ac rfl (ac rfl (ao rfl)))))))))) ?_
      refine W_rm hn hl hL hLn k (i + 1) (by omega) ?_
      rcases h with h | h
      · left
        rw [List.drop_eq_getElem_cons (by omega), List.mem_cons] at h
        rcases h with h | h
        · exfalso
          have e : L.getD i 0 = L[i]'(by omega) := by simp [List.getD_eq_getElem?_getD, show i < L.length by omega]
          rw [e, ← h, ← hL, medianM_isM] at hc
          cases hc
        · exact h
      · exact .inr h
theorem pc_refMedian {nl : Bool} {n : Nat} {l : List Int} (hn : n = l.length) (hl : n < 1000) : PC Tryz.prog G0 31 [] [.vec nl (.iarr .u32 n l)] [] (.int .u32 (medianM l)) := by
  refine PC.of (fn := Tryz.f31) (c := bodyOf Tryz.f31) Tryz.func31 (by kernel_rfl) (by kernel_rfl) (by kernel_rfl) (by kernel_rfl) ?_
  have hlen : (lastU l).length ≤ n := by simp [lastU]; omega
  have hp := pc_last (nl := nl) hn hl
  generalize hL : lastU l = L at *
  refine W.seg [(2, Ans.call false [] [] (PV.vec nl (B3 (List.length L) L)))] [] (dsRm nl n l L 0) (todo' := loopAt Tryz.f31 0) [PC Tryz.prog G0 51 [] [PV.vec nl (B3 n l)] [] (PV.vec nl (B3 (List.length L) L)), rr (PV.vec nl (B3 n l)), rr (PV.vec nl (B3 (List.length L) L)), rr (I6 (↑(List.length L) : Int)), I6 0 = I6 (↑(0 : Nat) : Int)] (by kernel_rfl) (ac (hp) (ac rfl (ac rfl (ac rfl (ao (cg (by omega))))))) ?_
  refine W_rm hn hl hL hlen L.length 0 (by omega) ?_
  by_cases h0 : l = []
  · right; rw [← hL]; exact lastU_nil.2 h0
  · left; rw [← hL]; exact medianM_mem h0
def held (n : Int) : Int := mn (mx n 0) 1099511627776
theorem held_le (n : Int) : 0 ≤ held n ∧ held n ≤ 1099511627776 := by
  unfold held mn mx
  split <;> split <;> omega
theorem pc_near {t now future : Int} (h1 : 0 ≤ t) (h2 : t ≤ 4294967295) : PC Tryz.prog G0 28 [] [.int .u32 t, .int .i64 now, .int .i64 future] [] (.bool (decide (t ≤ held now + held future))) := by
  refine PC.of (fn := Tryz.f28) (c := bodyOf Tryz.f28) Tryz.func28 (by kernel_rfl) (by kernel_rfl) (by kernel_rfl) (by kernel_rfl) ?_
  have h2 := held_le now
  have h3 := held_le future
  unfold held at *
  refine W.ret [(2, aV (I6 t)), (9, aV (I6 (mn (mx now (0 : Int)) (1099511627776 : Int) + mn (mx future (0 : Int)) (1099511627776 : Int))))] [] [I6 (IntKind.wrap .i64 t) = I6 t, I6 (IntKind.wrap .i64 (mn (mx now (0 : Int)) (1099511627776 : Int) + mn (mx future (0 : Int)) (1099511627776 : Int))) = I6 (mn (mx now (0 : Int)) (1099511627776 : Int) + mn (mx future (0 : Int)) (1099511627776 : Int)), rr (PV.bool (decide (t ≤ mn (mx now (0 : Int)) (1099511627776 : Int) + mn (mx future (0 : Int)) (1099511627776 : Int))))] (by kernel_rfl) (ac (cg (w_i64 rfl (by omega) (by omega))) (ac (cg (w_i64 rfl (by omega) (by omega))) (ao rfl)))
theorem pc_held (n : Int) : PC Tryz.prog G0 32 [] [.int .i64 n] [] (.int .i64 (held n)) := by
  refine PC.of (fn := Tryz.f32) (c := bodyOf Tryz.f32) Tryz.func32 (by kernel_rfl) (by kernel_rfl) (by kernel_rfl) (by kernel_rfl) ?_
  by_cases h1 : n < 0
  · have : held n = 0 := by simp [held, mx, mn, h1]
    rw [this]
    refine W.ret [(2, aT)] [] [decide (n < (0 : Int)) = true, rr (I6 0)] (by kernel_rfl) (ac (decide_eq_true (by omega)) (ao rfl))
  · by_cases h2 : n > 1099511627776
    · have : held n = 1099511627776 := by simp [held, mx, mn, h1, h2]
      rw [this]
      refine W.ret [(2, aF), (4, aT)] [] [decide (n < (0 : Int)) = false, decide (n > (1099511627776 : Int)) = true, rr (I6 1099511627776)] (by kernel_rfl) (ac (decide_eq_false (by omega)) (ac (decide_eq_true (by omega)) (ao rfl)))
    · have : held n = n := by simp [held, mx, mn, h1, h2]
      rw [this]
      refine W.ret [(2, aF), (4, aF)] [] [decide (n < (0 : Int)) = false, decide (n > (1099511627776 : Int)) = false, rr (I6 n)] (by kernel_rfl) (ac (decide_eq_false (by omega)) (ac (decide_eq_false (by omega)) (ao rfl)))
end Go.Proofs
