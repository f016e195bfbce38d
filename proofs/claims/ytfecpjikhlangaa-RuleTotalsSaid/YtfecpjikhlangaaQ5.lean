/- Merged texts: the pure machine and what the walks show. Conditions: as each statement says. -/
import Derived.Carry
import Derived.ChangeArms
import Derived.ChangeSame
import Derived.ChangeCalls
import Derived.JoinedOf
import Derived.Handed
import Derived.OpenShut
import Derived.RowKit
import Derived.ProofKit
import Derived.Test.YtfecpjikhlangaaQ4
namespace Go.Proofs
open Go Go.Pe Go.Pm
set_option maxRecDepth 100000
set_option linter.unusedVariables false
theorem mul_lt_W {m k : Nat} (h : blen m + k ≤ 256) : m * 2 ^ k < W256 := by
  have h1 := lt_blen m
  have h2 : 2 ^ blen m * 2 ^ k ≤ 2 ^ 256 := by rw [← Nat.pow_add]; exact Nat.pow_le_pow_right (by omega) h
  have h3 : m * 2 ^ k < 2 ^ blen m * 2 ^ k := Nat.mul_lt_mul_of_pos_right h1 (Nat.two_pow_pos k)
  exact Nat.lt_of_lt_of_le h3 (Nat.le_trans h2 (by decide))
theorem tgt_lt (c : Nat) : tgt c < W256 := by
  have hm : c % 8388608 < 8388608 := Nat.mod_lt _ (by omega)
  unfold tgt
  split
  · exact W256_pos
  · split
    · exact Nat.lt_of_le_of_lt (Nat.div_le_self _ _) (Nat.lt_of_lt_of_le hm (by decide))
    · split
      · exact W256_pos
      · exact mul_lt_W (by omega)
theorem pc_target {c : Nat} (hc : c < 4294967296) : PC Try.prog G0 30 [] [.int .u32 c] [] (.tup [.iarr .u64 4 (uw (tgt c)), .int .i64 (if tgt c = 0 then 5 else 0)]) := by
  have hm : c % 8388608 < 8388608 := Nat.mod_lt _ (by omega)
  have hb1 : blen (c % 8388608) ≤ 23 := blen_le.2 hm
  by_cases h1 : c / 8388608 % 2 = 1
  · have e : tgt c = 0 := by unfold tgt; rw [if_pos h1]
    rw [e]
    exact pc_tgtA hc h1
  · by_cases he : c / 16777216 ≤ 3
    · have e : c % 8388608 / 2 ^ (8 * (3 - c / 16777216)) = tgt c := by unfold tgt; rw [if_neg h1, if_pos he]
      exact pc_tgtB hc (by omega) he rfl hm (by omega) e
    · by_cases hb : 256 < blen (c % 8388608) + 8 * (c / 16777216 - 3)
      · have e : tgt c = 0 := by unfold tgt; rw [if_neg h1, if_neg he, if_pos hb]
        rw [e]
        exact pc_tgtD hc (by omega) he rfl hm hb hb1
      · have e : c % 8388608 * 2 ^ (8 * (c / 16777216 - 3)) = tgt c := by unfold tgt; rw [if_neg h1, if_neg he, if_neg hb]
        have e' : c % 8388608 * 2 ^ (8 * (c / 16777216 - 3)) % W256 = tgt c := by rw [e, Nat.mod_eq_of_lt (tgt_lt c)]
        exact pc_tgtC hc (by omega) he rfl hm hb (by omega) e'
theorem or24 {a b : Nat} (ha : a < 256) (hb : b < 16777216) : bits .or .u32 ((a : Int) * 2 ^ 24) (b : Int) = ((a * 16777216 + b : Nat) : Int) := by
  rw [bor_u32 (a := a * 16777216) (b := b) (by omega) rfl (by omega) (by omega)]
  have h := Nat.two_pow_add_eq_or_of_lt (i := 24) (by omega : b < 2 ^ 24) a
  rw [show (2 : Nat) ^ 24 = 16777216 by decide, Nat.mul_comm] at h
  rw [h]
theorem pc_targetN {c : Nat} (hc : c < 4294967296) (h : tgt c = 0) : PC Try.prog G0 30 [] [.int .u32 c] [] (.tup [.iarr .u64 4 (uw 0), .int .i64 5]) := by
  have := pc_target hc
  rwa [if_pos h, h] at this
theorem pc_targetY {c : Nat} (hc : c < 4294967296) (h : ¬ tgt c = 0) : PC Try.prog G0 30 [] [.int .u32 c] [] (.tup [.iarr .u64 4 (uw (tgt c)), .int .i64 0]) := by
  have := pc_target hc
  rwa [if_neg h] at this
set_option maxHeartbeats 4000000 in
theorem pc_bitsA {t e m : Nat} {x z : Int} (ht : t < W256) (hbl : blen t ≤ 256) (he : ((blen t + 7) / 8 : Nat) = (e : Int)) (he1 : e ≤ 32) (hj : (24 : Int) - 8 * e = x) (hk : 8 * (e : Int) - 24 = z) (hw : t * 2 ^ x.toNat % W256 < W256) (hm : ((t * 2 ^ x.toNat % W256 / 2 ^ z.toNat % 18446744073709551616 : Nat) : Int) = (m : Int)) (hm1 : m < 16777216) (h1 : m / 8388608 % 2 = 1) : PC Try.prog G0 51 [] [.iarr .u64 4 (uw t)] [] (.int .u32 (((e + 1) * 16777216 + m / 256 : Nat) : Int)) := by
  refine PC.of (fn := Try.f51) (c := bodyOf Try.f51) Try.func51 (by kernel_rfl) (by kernel_rfl) (by kernel_rfl) (by kernel_rfl) ?_
  have h2 := and23 m
  refine W.ret [((3 : Nat), Ans.call true [] [] (PV.int IntKind.i64 (↑(blen t) : Int))), ((4 : Nat), Ans.val (PV.int IntKind.i64 (↑(blen t + (8 : Nat)) : Int))), ((5 : Nat), Ans.val (PV.int IntKind.i64 (↑(blen t + (7 : Nat)) : Int))), ((6 : Nat), Ans.val (PV.int IntKind.i64 (↑e : Int))), ((10 : Nat), Ans.val (PV.int IntKind.i64 ((3 : Int) - (↑e : Int)))), ((11 : Nat), Ans.val (PV.int IntKind.i64 x)), ((12 : Nat), Ans.call true [] [] (PV.iarr IntKind.u64 (4 : Nat) (uw (t * (2 : Nat) ^ Int.toNat x % W256)))), ((14 : Nat), Ans.val (PV.int IntKind.i64 ((↑e : Int) - (3 : Int)))), ((15 : Nat), Ans.val (PV.int IntKind.i64 z)), ((16 : Nat), Ans.call true [] [] (PV.iarr IntKind.u64 (4 : Nat) (uw (t * (2 : Nat) ^ Int.toNat x % W256 / (2 : Nat) ^ Int.toNat z)))), ((17 : Nat), Ans.val (PV.int IntKind.u64 (↑(t * (2 : Nat) ^ Int.toNat x % W256 / (2 : Nat) ^ Int.toNat z % (18446744073709551616 : Nat)) : Int))), ((18 : Nat), Ans.val (PV.int IntKind.u64 (↑m : Int))), ((20 : Nat), Ans.val (PV.int IntKind.u64 (↑(m &&& (8388608 : Nat)) : Int))), ((21 : Nat), Ans.dec true), ((23 : Nat), Ans.val (PV.int IntKind.u64 (↑(m / (256 : Nat)) : Int))), ((25 : Nat), Ans.val (PV.int IntKind.i64 (↑(e + (1 : Nat)) : Int))), ((29 : Nat), Ans.val (PV.int IntKind.u32 (↑(e + (1 : Nat)) : Int))), ((30 : Nat), Ans.val (PV.int IntKind.u32 ((↑(e + (1 : Nat)) : Int) * (2 : Int) ^ (24 : Nat)))), ((32 : Nat), Ans.val (PV.int IntKind.u32 (↑(m / (256 : Nat)) : Int)))] [] [PC Try.prog G0 (49 : Nat) [] [PV.iarr IntKind.u64 (4 : Nat) (uw t)] [] (PV.int IntKind.i64 (↑(blen t) : Int)), PV.int IntKind.i64 (IntKind.wrap IntKind.i64 ((↑(blen t) : Int) + (8 : Int))) = PV.int IntKind.i64 (↑(blen t + (8 : Nat)) : Int), PV.int IntKind.i64 (IntKind.wrap IntKind.i64 ((↑(blen t + (8 : Nat)) : Int) - (1 : Int))) = PV.int IntKind.i64 (↑(blen t + (7 : Nat)) : Int), PV.int IntKind.i64 (IntKind.wrap IntKind.i64 (Int.tdiv (↑(blen t + (7 : Nat)) : Int) (8 : Int))) = PV.int IntKind.i64 (↑e : Int), (8 : Int) ≠ (0 : Int), PV.int IntKind.i64 (IntKind.wrap IntKind.i64 ((3 : Int) - (↑e : Int))) = PV.int IntKind.i64 ((3 : Int) - (↑e : Int)), PV.int IntKind.i64 (IntKind.wrap IntKind.i64 ((8 : Int) * ((3 : Int) - (↑e : Int)))) = PV.int IntKind.i64 x, PC Try.prog G0 (50 : Nat) [] [PV.iarr IntKind.u64 (4 : Nat) (uw t), PV.int IntKind.i64 x] [] (PV.iarr IntKind.u64 (4 : Nat) (uw (t * (2 : Nat) ^ Int.toNat x % W256))), PV.int IntKind.i64 (IntKind.wrap IntKind.i64 ((↑e : Int) - (3 : Int))) = PV.int IntKind.i64 ((↑e : Int) - (3 : Int)), PV.int IntKind.i64 (IntKind.wrap IntKind.i64 ((8 : Int) * ((↑e : Int) - (3 : Int)))) = PV.int IntKind.i64 z, PC Try.prog G0 (48 : Nat) [] [PV.iarr IntKind.u64 (4 : Nat) (uw (t * (2 : Nat) ^ Int.toNat x % W256)), PV.int IntKind.i64 z] [] (PV.iarr IntKind.u64 (4 : Nat) (uw (t * (2 : Nat) ^ Int.toNat x % W256 / (2 : Nat) ^ Int.toNat z))), PV.int IntKind.u64 (List.getD (uw (t * (2 : Nat) ^ Int.toNat x % W256 / (2 : Nat) ^ Int.toNat z)) (0 : Nat) (0 : Int)) = PV.int IntKind.u64 (↑(t * (2 : Nat) ^ Int.toNat x % W256 / (2 : Nat) ^ Int.toNat z % (18446744073709551616 : Nat)) : Int), (0 : Int) ≤ (0 : Int), (0 : Int) < (↑(4 : Nat) : Int), PV.int IntKind.u64 (↑(t * (2 : Nat) ^ Int.toNat x % W256 / (2 : Nat) ^ Int.toNat z % (18446744073709551616 : Nat)) : Int) = PV.int IntKind.u64 (↑m : Int), PV.int IntKind.u64 (bits BinOp.and IntKind.u64 (↑m : Int) (8388608 : Int)) = PV.int IntKind.u64 (↑(m &&& (8388608 : Nat)) : Int), ((↑(m &&& (8388608 : Nat)) : Int) != (0 : Int)) = true, PV.int IntKind.u64 (Int.fdiv (↑m : Int) ((2 : Int) ^ (8 : Nat))) = PV.int IntKind.u64 (↑(m / (256 : Nat)) : Int), (0 : Int) ≤ (8 : Int), PV.int IntKind.i64 (IntKind.wrap IntKind.i64 ((↑e : Int) + (1 : Int))) = PV.int IntKind.i64 (↑(e + (1 : Nat)) : Int), PV.int IntKind.u32 (IntKind.wrap IntKind.u32 (↑(e + (1 : Nat)) : Int)) = PV.int IntKind.u32 (↑(e + (1 : Nat)) : Int), PV.int IntKind.u32 (IntKind.wrap IntKind.u32 ((↑(e + (1 : Nat)) : Int) * (2 : Int) ^ (24 : Nat))) = PV.int IntKind.u32 ((↑(e + (1 : Nat)) : Int) * (2 : Int) ^ (24 : Nat)), (0 : Int) ≤ (24 : Int), PV.int IntKind.u32 (IntKind.wrap IntKind.u32 (↑(m / (256 : Nat)) : Int)) = PV.int IntKind.u32 (↑(m / (256 : Nat)) : Int), PV.int IntKind.u32 (bits BinOp.or IntKind.u32 ((↑(e + (1 : Nat)) : Int) * (2 : Int) ^ (24 : Nat)) (↑(m / (256 : Nat)) : Int)) = PV.int IntKind.u32 (↑((e + (1 : Nat)) * (16777216 : Nat) + m / (256 : Nat)) : Int)] (by kernel_rfl) (ac (by exact pc_wLen (by first | omega | decide)) (ac (by exact congrArg (PV.int _) (w_i64 rfl (by omega) (by omega))) (ac (by exact congrArg (PV.int _) (w_i64 (by omega) (by omega) (by omega))) (ac (by exact congrArg (PV.int _) (w_i64 he (by omega) (by omega))) (ac (by omega) (ac (by exact congrArg (PV.int _) (w_i64 rfl (by omega) (by omega))) (ac (by exact congrArg (PV.int _) (w_i64 (by rw [← hj]; omega) (by omega) (by omega))) (ac (by exact pc_wShl (by first | omega | decide) _) (ac (by exact congrArg (PV.int _) (w_i64 rfl (by omega) (by omega))) (ac (by exact congrArg (PV.int _) (w_i64 (by rw [← hk]; omega) (by omega) (by omega))) (ac (by exact pc_wShr (by first | omega | decide) _) (ac (by exact congrArg (PV.int _) (by rfl)) (ac (by omega) (ac (by omega) (ac (by exact congrArg (PV.int _) (hm)) (ac (by exact congrArg (PV.int _) (band_u64 rfl rfl (by omega) (by omega))) (ac (by exact bne_iff_ne.2 (by omega)) (ac (by exact congrArg (PV.int _) (shrm_u64 (y := 8) (s := 8) rfl rfl (by decide) (by omega))) (ac (by omega) (ac (by exact congrArg (PV.int _) (w_i64 rfl (by omega) (by omega))) (ac (by exact congrArg (PV.int _) (w_u32 rfl (by omega) (by omega))) (ac (by exact congrArg (PV.int _) (w_u32 rfl (by omega) (by omega))) (ac (by omega) (ac (by exact congrArg (PV.int _) (w_u32 rfl (by omega) (by omega))) (ao ?_)))))))))))))))))))))))))
  rw [or24 (by omega) (by omega)]
set_option maxHeartbeats 4000000 in
theorem pc_bitsB {t e m : Nat} {x z : Int} (ht : t < W256) (hbl : blen t ≤ 256) (he : ((blen t + 7) / 8 : Nat) = (e : Int)) (he1 : e ≤ 32) (hj : (24 : Int) - 8 * e = x) (hk : 8 * (e : Int) - 24 = z) (hw : t * 2 ^ x.toNat % W256 < W256) (hm : ((t * 2 ^ x.toNat % W256 / 2 ^ z.toNat % 18446744073709551616 : Nat) : Int) = (m : Int)) (hm1 : m < 16777216) (h1 : m / 8388608 % 2 = 0) : PC Try.prog G0 51 [] [.iarr .u64 4 (uw t)] [] (.int .u32 ((e * 16777216 + m : Nat) : Int)) := by
  refine PC.of (fn := Try.f51) (c := bodyOf Try.f51) Try.func51 (by kernel_rfl) (by kernel_rfl) (by kernel_rfl) (by kernel_rfl) ?_
  have h2 := and23 m
  refine W.ret [((3 : Nat), Ans.call true [] [] (PV.int IntKind.i64 (↑(blen t) : Int))), ((4 : Nat), Ans.val (PV.int IntKind.i64 (↑(blen t + (8 : Nat)) : Int))), ((5 : Nat), Ans.val (PV.int IntKind.i64 (↑(blen t + (7 : Nat)) : Int))), ((6 : Nat), Ans.val (PV.int IntKind.i64 (↑e : Int))), ((10 : Nat), Ans.val (PV.int IntKind.i64 ((3 : Int) - (↑e : Int)))), ((11 : Nat), Ans.val (PV.int IntKind.i64 x)), ((12 : Nat), Ans.call true [] [] (PV.iarr IntKind.u64 (4 : Nat) (uw (t * (2 : Nat) ^ Int.toNat x % W256)))), ((14 : Nat), Ans.val (PV.int IntKind.i64 ((↑e : Int) - (3 : Int)))), ((15 : Nat), Ans.val (PV.int IntKind.i64 z)), ((16 : Nat), Ans.call true [] [] (PV.iarr IntKind.u64 (4 : Nat) (uw (t * (2 : Nat) ^ Int.toNat x % W256 / (2 : Nat) ^ Int.toNat z)))), ((17 : Nat), Ans.val (PV.int IntKind.u64 (↑(t * (2 : Nat) ^ Int.toNat x % W256 / (2 : Nat) ^ Int.toNat z % (18446744073709551616 : Nat)) : Int))), ((18 : Nat), Ans.val (PV.int IntKind.u64 (↑m : Int))), ((20 : Nat), Ans.val (PV.int IntKind.u64 (↑(m &&& (8388608 : Nat)) : Int))), ((21 : Nat), Ans.dec false), ((23 : Nat), Ans.val (PV.int IntKind.u32 (↑e : Int))), ((24 : Nat), Ans.val (PV.int IntKind.u32 ((↑e : Int) * (2 : Int) ^ (24 : Nat)))), ((26 : Nat), Ans.val (PV.int IntKind.u32 (↑m : Int)))] [] [PC Try.prog G0 (49 : Nat) [] [PV.iarr IntKind.u64 (4 : Nat) (uw t)] [] (PV.int IntKind.i64 (↑(blen t) : Int)), PV.int IntKind.i64 (IntKind.wrap IntKind.i64 ((↑(blen t) : Int) + (8 : Int))) = PV.int IntKind.i64 (↑(blen t + (8 : Nat)) : Int), PV.int IntKind.i64 (IntKind.wrap IntKind.i64 ((↑(blen t + (8 : Nat)) : Int) - (1 : Int))) = PV.int IntKind.i64 (↑(blen t + (7 : Nat)) : Int), PV.int IntKind.i64 (IntKind.wrap IntKind.i64 (Int.tdiv (↑(blen t + (7 : Nat)) : Int) (8 : Int))) = PV.int IntKind.i64 (↑e : Int), (8 : Int) ≠ (0 : Int), PV.int IntKind.i64 (IntKind.wrap IntKind.i64 ((3 : Int) - (↑e : Int))) = PV.int IntKind.i64 ((3 : Int) - (↑e : Int)), PV.int IntKind.i64 (IntKind.wrap IntKind.i64 ((8 : Int) * ((3 : Int) - (↑e : Int)))) = PV.int IntKind.i64 x, PC Try.prog G0 (50 : Nat) [] [PV.iarr IntKind.u64 (4 : Nat) (uw t), PV.int IntKind.i64 x] [] (PV.iarr IntKind.u64 (4 : Nat) (uw (t * (2 : Nat) ^ Int.toNat x % W256))), PV.int IntKind.i64 (IntKind.wrap IntKind.i64 ((↑e : Int) - (3 : Int))) = PV.int IntKind.i64 ((↑e : Int) - (3 : Int)), PV.int IntKind.i64 (IntKind.wrap IntKind.i64 ((8 : Int) * ((↑e : Int) - (3 : Int)))) = PV.int IntKind.i64 z, PC Try.prog G0 (48 : Nat) [] [PV.iarr IntKind.u64 (4 : Nat) (uw (t * (2 : Nat) ^ Int.toNat x % W256)), PV.int IntKind.i64 z] [] (PV.iarr IntKind.u64 (4 : Nat) (uw (t * (2 : Nat) ^ Int.toNat x % W256 / (2 : Nat) ^ Int.toNat z))), PV.int IntKind.u64 (List.getD (uw (t * (2 : Nat) ^ Int.toNat x % W256 / (2 : Nat) ^ Int.toNat z)) (0 : Nat) (0 : Int)) = PV.int IntKind.u64 (↑(t * (2 : Nat) ^ Int.toNat x % W256 / (2 : Nat) ^ Int.toNat z % (18446744073709551616 : Nat)) : Int), (0 : Int) ≤ (0 : Int), (0 : Int) < (↑(4 : Nat) : Int), PV.int IntKind.u64 (↑(t * (2 : Nat) ^ Int.toNat x % W256 / (2 : Nat) ^ Int.toNat z % (18446744073709551616 : Nat)) : Int) = PV.int IntKind.u64 (↑m : Int), PV.int IntKind.u64 (bits BinOp.and IntKind.u64 (↑m : Int) (8388608 : Int)) = PV.int IntKind.u64 (↑(m &&& (8388608 : Nat)) : Int), ((↑(m &&& (8388608 : Nat)) : Int) != (0 : Int)) = false, PV.int IntKind.u32 (IntKind.wrap IntKind.u32 (↑e : Int)) = PV.int IntKind.u32 (↑e : Int), PV.int IntKind.u32 (IntKind.wrap IntKind.u32 ((↑e : Int) * (2 : Int) ^ (24 : Nat))) = PV.int IntKind.u32 ((↑e : Int) * (2 : Int) ^ (24 : Nat)), (0 : Int) ≤ (24 : Int), PV.int IntKind.u32 (IntKind.wrap IntKind.u32 (↑m : Int)) = PV.int IntKind.u32 (↑m : Int), PV.int IntKind.u32 (bits BinOp.or IntKind.u32 ((↑e : Int) * (2 : Int) ^ (24 : Nat)) (↑m : Int)) = PV.int IntKind.u32 (↑(e * (16777216 : Nat) + m) : Int)] (by kernel_rfl) (ac (by exact pc_wLen (by first | omega | decide)) (ac (by exact congrArg (PV.int _) (w_i64 rfl (by omega) (by omega))) (ac (by exact congrArg (PV.int _) (w_i64 (by omega) (by omega) (by omega))) (ac (by exact congrArg (PV.int _) (w_i64 he (by omega) (by omega))) (ac (by omega) (ac (by exact congrArg (PV.int _) (w_i64 rfl (by omega) (by omega))) (ac (by exact congrArg (PV.int _) (w_i64 (by rw [← hj]; omega) (by omega) (by omega))) (ac (by exact pc_wShl (by first | omega | decide) _) (ac (by exact congrArg (PV.int _) (w_i64 rfl (by omega) (by omega))) (ac (by exact congrArg (PV.int _) (w_i64 (by rw [← hk]; omega) (by omega) (by omega))) (ac (by exact pc_wShr (by first | omega | decide) _) (ac (by exact congrArg (PV.int _) (by rfl)) (ac (by omega) (ac (by omega) (ac (by exact congrArg (PV.int _) (hm)) (ac (by exact congrArg (PV.int _) (band_u64 rfl rfl (by omega) (by omega))) (ac (by exact bne_eq_false_iff_eq.2 (by omega)) (ac (by exact congrArg (PV.int _) (w_u32 rfl (by omega) (by omega))) (ac (by exact congrArg (PV.int _) (w_u32 rfl (by omega) (by omega))) (ac (by omega) (ac (by exact congrArg (PV.int _) (w_u32 rfl (by omega) (by omega))) (ao ?_))))))))))))))))))))))
  rw [or24 (by omega) (by omega)]
/-- a number's compact -/
def cbitsOf (e m : Nat) : Nat := if m / 8388608 % 2 = 1 then (e + 1) * 16777216 + m / 256 else e * 16777216 + m
def cbits (t : Nat) : Nat := cbitsOf ((blen t + 7) / 8) (t * 2 ^ (8 * (3 - (blen t + 7) / 8)) / 2 ^ (8 * ((blen t + 7) / 8 - 3)))
theorem cm_lt (t : Nat) : t * 2 ^ (8 * (3 - (blen t + 7) / 8)) / 2 ^ (8 * ((blen t + 7) / 8 - 3)) < 16777216 := by
  have h := lt_blen t
  have hp : 2 ^ blen t ≤ 2 ^ (8 * ((blen t + 7) / 8)) := Nat.pow_le_pow_right (by omega) (by omega)
  generalize (blen t + 7) / 8 = e at *
  have ht : t < 2 ^ (8 * e) := Nat.lt_of_lt_of_le h hp
  rw [Nat.div_lt_iff_lt_mul (Nat.two_pow_pos _)]
  have h1 : t * 2 ^ (8 * (3 - e)) < 2 ^ (8 * e) * 2 ^ (8 * (3 - e)) := Nat.mul_lt_mul_of_pos_right ht (Nat.two_pow_pos _)
  have h2 : (16777216 : Nat) * 2 ^ (8 * (e - 3)) = 2 ^ (8 * e) * 2 ^ (8 * (3 - e)) := by
    rw [show (16777216 : Nat) = 2 ^ 24 by decide, ← Nat.pow_add, ← Nat.pow_add]
    congr 1
    omega
  omega
theorem pc_bits {t : Nat} (ht : t < W256) : PC Try.prog G0 51 [] [.iarr .u64 4 (uw t)] [] (.int .u32 ((cbits t : Nat) : Int)) := by
  have hbl : blen t ≤ 256 := blen_le.2 (Nat.lt_of_lt_of_le ht (by decide))
  have hm := cm_lt t
  have hw : t * 2 ^ (8 * (3 - (blen t + 7) / 8)) < W256 := by
    by_cases h3 : (blen t + 7) / 8 ≤ 3
    · exact mul_lt_W (by omega)
    · rw [show 8 * (3 - (blen t + 7) / 8) = 0 by omega, Nat.pow_zero, Nat.mul_one]; exact ht
  have hx : ((24 : Int) - 8 * (((blen t + 7) / 8 : Nat) : Int)).toNat = 8 * (3 - (blen t + 7) / 8) := by omega
  have hz : (8 * (((blen t + 7) / 8 : Nat) : Int) - 24).toNat = 8 * ((blen t + 7) / 8 - 3) := by omega
  have hmm : ((t * 2 ^ ((24 : Int) - 8 * (((blen t + 7) / 8 : Nat) : Int)).toNat % W256 / 2 ^ (8 * (((blen t + 7) / 8 : Nat) : Int) - 24).toNat % 18446744073709551616 : Nat) : Int) = ((t * 2 ^ (8 * (3 - (blen t + 7) / 8)) / 2 ^ (8 * ((blen t + 7) / 8 - 3)) : Nat) : Int) := by
    rw [hx, hz, Nat.mod_eq_of_lt hw, Nat.mod_eq_of_lt (by omega)]
  by_cases h1 : t * 2 ^ (8 * (3 - (blen t + 7) / 8)) / 2 ^ (8 * ((blen t + 7) / 8 - 3)) / 8388608 % 2 = 1
  · have h := pc_bitsA ht hbl rfl (by omega) rfl rfl (Nat.mod_lt _ W256_pos) hmm hm h1
    unfold cbits cbitsOf; rw [if_pos h1]
    exact h
  · have h := pc_bitsB ht hbl rfl (by omega) rfl rfl (Nat.mod_lt _ W256_pos) hmm hm (by omega)
    unfold cbits cbitsOf; rw [if_neg h1]
    exact h
/-- Is a compact its target's? -/
def canon (c : Nat) : Bool := decide (tgt c ≠ 0 ∧ cbits (tgt c) = c)
set_option maxHeartbeats 4000000 in
theorem pc_canon {c : Nat} (hc : c < 4294967296) : PC Try.prog G0 31 [] [.int .u32 c] [] (.bool (canon c)) := by
  refine PC.of (fn := Try.f31) (c := bodyOf Try.f31) Try.func31 (by kernel_rfl) (by kernel_rfl) (by kernel_rfl) (by kernel_rfl) ?_
  have ht := tgt_lt c
  by_cases h0 : tgt c = 0
  · refine W.ret [((2 : Nat), Ans.call true [] [] (PV.tup [PV.iarr IntKind.u64 (4 : Nat) (uw (0 : Nat)), PV.int IntKind.i64 (5 : Int)]))] [] [PC Try.prog G0 (30 : Nat) [] [PV.int IntKind.u32 (↑c : Int)] [] (PV.tup [PV.iarr IntKind.u64 (4 : Nat) (uw (0 : Nat)), PV.int IntKind.i64 (5 : Int)]), PV.bool false = PV.bool (canon c)] (by kernel_rfl) (ac (by exact pc_targetN (by first | omega | decide) (by first | omega | decide)) (ao ?_))
    all_goals (unfold canon; simp [h0])
  · refine W.ret [((2 : Nat), Ans.call true [] [] (PV.tup [PV.iarr IntKind.u64 (4 : Nat) (uw (tgt c)), PV.int IntKind.i64 (0 : Int)])), ((13 : Nat), Ans.call true [] [] (PV.int IntKind.u32 (↑(cbits (tgt c)) : Int)))] [] [PC Try.prog G0 (30 : Nat) [] [PV.int IntKind.u32 (↑c : Int)] [] (PV.tup [PV.iarr IntKind.u64 (4 : Nat) (uw (tgt c)), PV.int IntKind.i64 (0 : Int)]), PC Try.prog G0 (51 : Nat) [] [PV.iarr IntKind.u64 (4 : Nat) (uw (tgt c))] [] (PV.int IntKind.u32 (↑(cbits (tgt c)) : Int)), PV.bool ((↑(cbits (tgt c)) : Int) == (↑c : Int)) = PV.bool (canon c)] (by kernel_rfl) (ac (by exact pc_targetY (by first | omega | decide) (by first | omega | decide)) (ac (by exact pc_bits (by first | omega | decide)) (ao ?_)))
    refine congrArg PV.bool ?_
    unfold canon
    rw [Bool.eq_iff_iff]
    simp only [beq_iff_eq, Int.natCast_inj, decide_eq_true_eq]
    exact ⟨fun e => ⟨h0, e⟩, fun e => e.2⟩
end Go.Proofs
namespace Go.Proofs
open Go Go.Pe Go.Pm
set_option maxRecDepth 100000
set_option linter.unusedVariables false
def rowW (l : List Int) : Row := ⟨.iarr .u64 4 l, false⟩
def dsQ (a b o : List Int) (k : Int) : DS := ⟨[(2, .at 0 []), (3, .at 1 []), (4, .at 2 []), (5, .at 3 []), (6, .at 4 []), (7, .int .i64 k)], [(0, rowW a), (1, rowW b), (2, rowW [0, 0, 0, 0]), (3, rowW [0, 0, 0, 0]), (4, rowW o)]⟩
set_option maxHeartbeats 4000000 in
theorem W_quoA {a b k w o : Nat} {n : Int} {s : Nat} (ha : a < W256) (hb : b < W256) (hk : k < 256) (hd : b * 2 ^ k < W256) (hle : b * 2 ^ k ≤ a) (hn : (k : Int).tdiv 64 = n) (hs : (k : Int).tmod 64 = s) (hs1 : s < 64) (hn0 : 0 ≤ n) (hn1 : n < 4) {hout : List (Nat × Row)} {res : PV}
    (hw : (uw o).getD n.toNat 0 = (w : Int)) (hw1 : w < 18446744073709551616) (hset : (uw o).set n.toNat ((w ||| 2 ^ s : Nat) : Int) = uw (o + 2 ^ k))
    (h : W Try.prog G0 Try.f61 [] hout res (loopAt Try.f61 0) (dsQ (uw (a - b * 2 ^ k)) (uw b) (uw (o + 2 ^ k)) ((k : Int) - 1))) :
    W Try.prog G0 Try.f61 [] hout res (loopAt Try.f61 0) (dsQ (uw a) (uw b) (uw o) k) := by
  have hmodd : b * 2 ^ ((k : Int)).toNat % W256 = b * 2 ^ k := by rw [Int.toNat_natCast]; exact Nat.mod_eq_of_lt hd
  have hdd : b * 2 ^ ((k : Int)).toNat % W256 < W256 := Nat.mod_lt _ W256_pos
  have hl : decide (a < b * 2 ^ ((k : Int)).toNat % W256) = false := by rw [hmodd]; exact decide_eq_false (by omega)
  refine W.seg [((4 : Nat), Ans.call true [] [] (PV.iarr IntKind.u64 (4 : Nat) (uw (b * (2 : Nat) ^ Int.toNat (↑k : Int) % W256)))), ((6 : Nat), Ans.ups [((144 : Nat), some (Row.mk (PV.iarr IntKind.u64 (4 : Nat) (uw (b * (2 : Nat) ^ k % W256))) false))]), ((9 : Nat), Ans.call true [] [] (PV.tup [PV.iarr IntKind.u64 (4 : Nat) (uw ((a + W256 - b * (2 : Nat) ^ k % W256) % W256)), PV.bool (decide (a < b * (2 : Nat) ^ k % W256))])), ((12 : Nat), Ans.dec false), ((21 : Nat), Ans.val (PV.int IntKind.i64 n)), ((23 : Nat), Ans.val (PV.int IntKind.u64 (↑w : Int))), ((25 : Nat), Ans.val (PV.int IntKind.i64 (↑s : Int))), ((26 : Nat), Ans.val (PV.int IntKind.u64 (↑((1 : Nat) * (2 : Nat) ^ s % (18446744073709551616 : Nat)) : Int))), ((27 : Nat), Ans.val (PV.int IntKind.u64 (↑(w ||| (1 : Nat) * (2 : Nat) ^ s % (18446744073709551616 : Nat)) : Int))), ((31 : Nat), Ans.val (PV.int IntKind.i64 ((↑k : Int) - (1 : Int))))] [((0 : Nat), (0 : Nat)), ((1 : Nat), (1 : Nat)), ((2 : Nat), (2 : Nat)), ((3 : Nat), (3 : Nat)), ((4 : Nat), (4 : Nat))] (dsQ (uw (a - b * (2 : Nat) ^ k)) (uw b) (uw (o + (2 : Nat) ^ k)) ((↑k : Int) - (1 : Int))) (todo' := loopAt Try.f61 (0 : Nat)) [PC Try.prog G0 (50 : Nat) [] [PV.iarr IntKind.u64 (4 : Nat) (uw b), PV.int IntKind.i64 (↑k : Int)] [] (PV.iarr IntKind.u64 (4 : Nat) (uw (b * (2 : Nat) ^ Int.toNat (↑k : Int) % W256))), ([((144 : Nat), some (Row.mk (PV.iarr IntKind.u64 (4 : Nat) (uw (b * (2 : Nat) ^ Int.toNat (↑k : Int) % W256))) false))] : List (Nat × Option Row)) = [((144 : Nat), some (Row.mk (PV.iarr IntKind.u64 (4 : Nat) (uw (b * (2 : Nat) ^ k % W256))) false))], PC Try.prog G0 (60 : Nat) [] [PV.iarr IntKind.u64 (4 : Nat) (uw a), PV.iarr IntKind.u64 (4 : Nat) (uw (b * (2 : Nat) ^ k % W256))] [] (PV.tup [PV.iarr IntKind.u64 (4 : Nat) (uw ((a + W256 - b * (2 : Nat) ^ k % W256) % W256)), PV.bool (decide (a < b * (2 : Nat) ^ k % W256))]), decide (a < b * (2 : Nat) ^ k % W256) = false, PV.int IntKind.i64 (IntKind.wrap IntKind.i64 (Int.tdiv (↑k : Int) (64 : Int))) = PV.int IntKind.i64 n, (64 : Int) ≠ (0 : Int), (0 : Int) ≤ n, n < (↑(4 : Nat) : Int), PV.int IntKind.u64 (List.getD (uw o) (Int.toNat n) (0 : Int)) = PV.int IntKind.u64 (↑w : Int), Int.toNat n < (4 : Nat), PV.int IntKind.i64 (Int.tmod (↑k : Int) (64 : Int)) = PV.int IntKind.i64 (↑s : Int), (64 : Int) ≠ (0 : Int), PV.int IntKind.u64 (IntKind.wrap IntKind.u64 ((1 : Int) * (2 : Int) ^ min s (64 : Nat))) = PV.int IntKind.u64 (↑((1 : Nat) * (2 : Nat) ^ s % (18446744073709551616 : Nat)) : Int), (0 : Int) ≤ (↑s : Int), PV.int IntKind.u64 (bits BinOp.or IntKind.u64 (↑w : Int) (↑((1 : Nat) * (2 : Nat) ^ s % (18446744073709551616 : Nat)) : Int)) = PV.int IntKind.u64 (↑(w ||| (1 : Nat) * (2 : Nat) ^ s % (18446744073709551616 : Nat)) : Int), (0 : Int) ≤ n, n < (↑(4 : Nat) : Int), Int.toNat n < (4 : Nat), PV.int IntKind.i64 (IntKind.wrap IntKind.i64 ((↑k : Int) - (1 : Int))) = PV.int IntKind.i64 ((↑k : Int) - (1 : Int)), PV.at (0 : Nat) [] = PV.at (0 : Nat) [], PV.at (1 : Nat) [] = PV.at (1 : Nat) [], PV.at (2 : Nat) [] = PV.at (2 : Nat) [], PV.at (3 : Nat) [] = PV.at (3 : Nat) [], PV.at (4 : Nat) [] = PV.at (4 : Nat) [], PV.int IntKind.i64 ((↑k : Int) - (1 : Int)) = PV.int IntKind.i64 ((↑k : Int) - (1 : Int)), PV.iarr IntKind.u64 (4 : Nat) (uw ((a + W256 - b * (2 : Nat) ^ k % W256) % W256)) = PV.iarr IntKind.u64 (4 : Nat) (uw (a - b * (2 : Nat) ^ k)), PV.iarr IntKind.u64 (4 : Nat) (uw b) = PV.iarr IntKind.u64 (4 : Nat) (uw b), PV.iarr IntKind.u64 (4 : Nat) [(0 : Int), (0 : Int), (0 : Int), (0 : Int)] = PV.iarr IntKind.u64 (4 : Nat) [(0 : Int), (0 : Int), (0 : Int), (0 : Int)], PV.iarr IntKind.u64 (4 : Nat) [(0 : Int), (0 : Int), (0 : Int), (0 : Int)] = PV.iarr IntKind.u64 (4 : Nat) [(0 : Int), (0 : Int), (0 : Int), (0 : Int)], PV.iarr IntKind.u64 (4 : Nat) (List.set (uw o) (Int.toNat n) (↑(w ||| (1 : Nat) * (2 : Nat) ^ s % (18446744073709551616 : Nat)) : Int)) = PV.iarr IntKind.u64 (4 : Nat) (uw (o + (2 : Nat) ^ k))] (by kernel_rfl) (ac (by exact pc_wShl (by first | omega | decide) _) (ac (by simp only [Int.toNat_natCast]) (ac (by exact pc_wSub (by first | omega | decide) (by assumption)) (ac (by assumption) (ac (by exact congrArg (PV.int _) (w_i64 hn (by omega) (by omega))) (ac (by omega) (ac (by omega) (ac (by omega) (ac (by exact congrArg (PV.int _) (hw)) (ac (by omega) (ac (by exact congrArg (PV.int _) (hs)) (ac (by omega) (ac (by exact congrArg (PV.int _) (shl_u64 (y := ((s : Nat) : Int)) rfl rfl)) (ac (by omega) (ac (by exact congrArg (PV.int _) (bor_u64 rfl rfl (by omega) (by omega))) (ac (by omega) (ac (by omega) (ac (by omega) (ac (by exact congrArg (PV.int _) (w_i64 rfl (by omega) (by omega))) (ac (by with_reducible rfl) (ac (by with_reducible rfl) (ac (by with_reducible rfl) (ac (by with_reducible rfl) (ac (by with_reducible rfl) (ac (by with_reducible rfl) (ac ?_ (ac (by with_reducible rfl) (ac (by with_reducible rfl) (ac (by with_reducible rfl) (ao ?_)))))))))))))))))))))))))))))) ?_
  · refine congrArg (fun v => PV.iarr .u64 4 (uw v)) ?_
    rw [Nat.mod_eq_of_lt hd, show a + W256 - b * 2 ^ k = (a - b * 2 ^ k) + W256 by omega, Nat.add_mod_right, Nat.mod_eq_of_lt (by omega)]
  · have h2 : 2 ^ s < 2 ^ 64 := Nat.pow_lt_pow_right (by omega) hs1
    rw [Nat.one_mul, Nat.mod_eq_of_lt h2, hset]
  · exact h
set_option maxHeartbeats 4000000 in
theorem W_quoB {a b k o : Nat} (ha : a < W256) (hb : b < W256) (hk : k < 256) (hd : b * 2 ^ k < W256) (hle : a < b * 2 ^ k) {hout : List (Nat × Row)} {res : PV}
    (h : W Try.prog G0 Try.f61 [] hout res (loopAt Try.f61 0) (dsQ (uw a) (uw b) (uw o) ((k : Int) - 1))) :
    W Try.prog G0 Try.f61 [] hout res (loopAt Try.f61 0) (dsQ (uw a) (uw b) (uw o) k) := by
  have hmodd : b * 2 ^ ((k : Int)).toNat % W256 = b * 2 ^ k := by rw [Int.toNat_natCast]; exact Nat.mod_eq_of_lt hd
  have hdd : b * 2 ^ ((k : Int)).toNat % W256 < W256 := Nat.mod_lt _ W256_pos
  have hl : decide (a < b * 2 ^ ((k : Int)).toNat % W256) = true := by rw [hmodd]; exact decide_eq_true (by omega)
  refine W.seg [((4 : Nat), Ans.call true [] [] (PV.iarr IntKind.u64 (4 : Nat) (uw (b * (2 : Nat) ^ Int.toNat (↑k : Int) % W256)))), ((6 : Nat), Ans.ups [((144 : Nat), some (Row.mk (PV.iarr IntKind.u64 (4 : Nat) (uw (b * (2 : Nat) ^ k % W256))) false))]), ((9 : Nat), Ans.call true [] [] (PV.tup [PV.iarr IntKind.u64 (4 : Nat) (uw ((a + W256 - b * (2 : Nat) ^ k % W256) % W256)), PV.bool (decide (a < b * (2 : Nat) ^ k % W256))])), ((12 : Nat), Ans.dec true), ((19 : Nat), Ans.val (PV.int IntKind.i64 ((↑k : Int) - (1 : Int))))] [((0 : Nat), (0 : Nat)), ((1 : Nat), (1 : Nat)), ((2 : Nat), (2 : Nat)), ((3 : Nat), (3 : Nat)), ((4 : Nat), (4 : Nat))] (dsQ (uw a) (uw b) (uw o) ((↑k : Int) - (1 : Int))) (todo' := loopAt Try.f61 (0 : Nat)) [PC Try.prog G0 (50 : Nat) [] [PV.iarr IntKind.u64 (4 : Nat) (uw b), PV.int IntKind.i64 (↑k : Int)] [] (PV.iarr IntKind.u64 (4 : Nat) (uw (b * (2 : Nat) ^ Int.toNat (↑k : Int) % W256))), ([((144 : Nat), some (Row.mk (PV.iarr IntKind.u64 (4 : Nat) (uw (b * (2 : Nat) ^ Int.toNat (↑k : Int) % W256))) false))] : List (Nat × Option Row)) = [((144 : Nat), some (Row.mk (PV.iarr IntKind.u64 (4 : Nat) (uw (b * (2 : Nat) ^ k % W256))) false))], PC Try.prog G0 (60 : Nat) [] [PV.iarr IntKind.u64 (4 : Nat) (uw a), PV.iarr IntKind.u64 (4 : Nat) (uw (b * (2 : Nat) ^ k % W256))] [] (PV.tup [PV.iarr IntKind.u64 (4 : Nat) (uw ((a + W256 - b * (2 : Nat) ^ k % W256) % W256)), PV.bool (decide (a < b * (2 : Nat) ^ k % W256))]), decide (a < b * (2 : Nat) ^ k % W256) = true, PV.int IntKind.i64 (IntKind.wrap IntKind.i64 ((↑k : Int) - (1 : Int))) = PV.int IntKind.i64 ((↑k : Int) - (1 : Int)), PV.at (0 : Nat) [] = PV.at (0 : Nat) [], PV.at (1 : Nat) [] = PV.at (1 : Nat) [], PV.at (2 : Nat) [] = PV.at (2 : Nat) [], PV.at (3 : Nat) [] = PV.at (3 : Nat) [], PV.at (4 : Nat) [] = PV.at (4 : Nat) [], PV.int IntKind.i64 ((↑k : Int) - (1 : Int)) = PV.int IntKind.i64 ((↑k : Int) - (1 : Int)), PV.iarr IntKind.u64 (4 : Nat) (uw a) = PV.iarr IntKind.u64 (4 : Nat) (uw a), PV.iarr IntKind.u64 (4 : Nat) (uw b) = PV.iarr IntKind.u64 (4 : Nat) (uw b), PV.iarr IntKind.u64 (4 : Nat) [(0 : Int), (0 : Int), (0 : Int), (0 : Int)] = PV.iarr IntKind.u64 (4 : Nat) [(0 : Int), (0 : Int), (0 : Int), (0 : Int)], PV.iarr IntKind.u64 (4 : Nat) [(0 : Int), (0 : Int), (0 : Int), (0 : Int)] = PV.iarr IntKind.u64 (4 : Nat) [(0 : Int), (0 : Int), (0 : Int), (0 : Int)], PV.iarr IntKind.u64 (4 : Nat) (uw o) = PV.iarr IntKind.u64 (4 : Nat) (uw o)] (by kernel_rfl) (ac (by exact pc_wShl (by first | omega | decide) _) (ac (by simp only [Int.toNat_natCast]) (ac (by exact pc_wSub (by first | omega | decide) (by assumption)) (ac (by assumption) (ac (by exact congrArg (PV.int _) (w_i64 rfl (by omega) (by omega))) (ac (by with_reducible rfl) (ac (by with_reducible rfl) (ac (by with_reducible rfl) (ac (by with_reducible rfl) (ac (by with_reducible rfl) (ac (by with_reducible rfl) (ac (by with_reducible rfl) (ac (by with_reducible rfl) (ac (by with_reducible rfl) (ac (by with_reducible rfl) (ao (by with_reducible rfl))))))))))))))))) ?_
  exact h
theorem or_bit {w s : Nat} (hw : w < 18446744073709551616) (hs : s < 64) (h : w % 2 ^ (s + 1) = 0) : w ||| 2 ^ s = w + 2 ^ s ∧ w + 2 ^ s < 18446744073709551616 := by
  have hp : 2 ^ (s + 1) * 2 ^ (63 - s) = 18446744073709551616 := by rw [← Nat.pow_add, show s + 1 + (63 - s) = 64 by omega]
  have hs2 : 2 ^ (s + 1) = 2 * 2 ^ s := by rw [Nat.pow_succ, Nat.mul_comm]
  have hp0 := Nat.two_pow_pos s
  have hw2 : w = 2 ^ (s + 1) * (w / 2 ^ (s + 1)) := by have := Nat.div_add_mod w (2 ^ (s + 1)); omega
  have hq : w / 2 ^ (s + 1) < 2 ^ (63 - s) := by rw [Nat.div_lt_iff_lt_mul (Nat.two_pow_pos _), Nat.mul_comm, hp]; exact hw
  constructor
  · have e := Nat.two_pow_add_eq_or_of_lt (i := s + 1) (b := 2 ^ s) (by omega) (w / 2 ^ (s + 1))
    rw [← hw2] at e
    exact e.symm
  · have : 2 ^ (s + 1) * (w / 2 ^ (s + 1) + 1) ≤ 2 ^ (s + 1) * 2 ^ (63 - s) := Nat.mul_le_mul_left _ hq
    rw [hp, Nat.mul_add, ← hw2] at this
    omega
theorem low_zero {w o M : Nat} (hw : w < 18446744073709551616) (h : (w + 18446744073709551616 * o) % (18446744073709551616 * M) = 0) : w = 0 ∧ o % M = 0 := by
  rw [Nat.mod_mul, show (w + 18446744073709551616 * o) / 18446744073709551616 = o by omega] at h
  omega
theorem low_mod {w o s : Nat} (hs : s < 64) (h : (w + 18446744073709551616 * o) % 2 ^ (s + 1) = 0) : w % 2 ^ (s + 1) = 0 := by
  have hp : 18446744073709551616 = 2 ^ (s + 1) * 2 ^ (63 - s) := by rw [← Nat.pow_add, show s + 1 + (63 - s) = 64 by omega]
  rw [hp, Nat.mul_assoc, Nat.add_mul_mod_self_left] at h
  exact h
theorem uw_set {o k n s : Nat} (ho : o < W256) (hns : k = 64 * n + s) (hs : s < 64) (hn : n < 4) (hz : o % 2 ^ (k + 1) = 0) : ∃ w : Nat, (uw o).getD n 0 = (w : Int) ∧ w < 18446744073709551616 ∧ (uw o).set n ((w ||| 2 ^ s : Nat) : Int) = uw (o + 2 ^ k) ∧ o + 2 ^ k < W256 := by
  obtain ⟨a, b, c, d, pa, pb, pc, pd, rfl, e⟩ := words_of ho
  rw [e]
  have hk : 2 ^ k = 18446744073709551616 ^ n * 2 ^ s := by rw [hns, pow_w]
  have hk1 : 2 ^ (k + 1) = 18446744073709551616 ^ n * 2 ^ (s + 1) := by rw [hns, Nat.add_assoc, pow_w]
  rw [hk1] at hz
  rw [hk]
  unfold wu at hz
  obtain rfl | rfl | rfl | rfl : n = 0 ∨ n = 1 ∨ n = 2 ∨ n = 3 := by omega
  · rw [Nat.pow_zero, Nat.one_mul] at *
    obtain ⟨h1, h2⟩ := or_bit pa hs (low_mod hs hz)
    refine ⟨a, rfl, pa, ?_, ?_⟩
    · rw [h1]
      exact uw_eq (by unfold wu; omega) h2 pb pc pd
    · have := wu_lt h2 pb pc pd
      unfold wu at *; omega
  · rw [Nat.pow_one] at hz ⊢
    obtain ⟨rfl, hz1⟩ := low_zero pa hz
    obtain ⟨h1, h2⟩ := or_bit pb hs (low_mod hs hz1)
    refine ⟨b, rfl, pb, ?_, ?_⟩
    · rw [h1]
      exact uw_eq (by unfold wu; omega) pa h2 pc pd
    · have := wu_lt pa h2 pc pd
      unfold wu at *; omega
  · rw [Nat.pow_succ, Nat.pow_one] at hz ⊢
    rw [Nat.mul_assoc] at hz ⊢
    obtain ⟨rfl, hz1⟩ := low_zero pa hz
    obtain ⟨rfl, hz2⟩ := low_zero pb hz1
    obtain ⟨h1, h2⟩ := or_bit pc hs (low_mod hs hz2)
    refine ⟨c, rfl, pc, ?_, ?_⟩
    · rw [h1]
      exact uw_eq (by unfold wu; omega) pa pb h2 pd
    · have := wu_lt pa pb h2 pd
      unfold wu at *; omega
  · rw [Nat.pow_succ, Nat.pow_succ, Nat.pow_one] at hz ⊢
    rw [Nat.mul_assoc, Nat.mul_assoc] at hz ⊢
    obtain ⟨rfl, hz1⟩ := low_zero pa hz
    obtain ⟨rfl, hz2⟩ := low_zero pb hz1
    obtain ⟨rfl, hz3⟩ := low_zero pc hz2
    have hz' : (d + 18446744073709551616 * 0) % 2 ^ (s + 1) = 0 := hz3
    obtain ⟨h1, h2⟩ := or_bit pd hs (low_mod hs hz')
    refine ⟨d, rfl, pd, ?_, ?_⟩
    · rw [h1]
      exact uw_eq (by unfold wu; omega) pa pb pc h2
    · have := wu_lt pa pb pc h2
      unfold wu at *; omega
theorem W_quo {b A : Nat} (hb : b < W256) (hb0 : 0 < b) : ∀ (k1 a o : Nat), a < W256 → o < W256 → o * b + a = A → a < b * 2 ^ k1 → o % 2 ^ k1 = 0 → (k1 = 0 ∨ blen b + k1 ≤ 257) →
    W Try.prog G0 Try.f61 [] [] (.tup [.iarr .u64 4 (uw (A / b)), .iarr .u64 4 (uw (A % b))]) (loopAt Try.f61 0) (dsQ (uw a) (uw b) (uw o) ((k1 : Int) - 1))
  | 0, a, o, ha, ho, hA, hl, hz, hk => by
    rw [Nat.pow_zero, Nat.mul_one] at hl
    have e1 : A / b = o := by
      rw [← hA, Nat.add_comm, Nat.add_mul_div_right _ _ hb0, Nat.div_eq_of_lt hl, Nat.zero_add]
    have e2 : A % b = a := by
      rw [← hA, Nat.add_comm, Nat.add_mul_mod_self_right, Nat.mod_eq_of_lt hl]
    rw [e1, e2]
    refine W.ret [((0 : Nat), Ans.val (PV.int IntKind.i64 (-1 : Int)))] [] [PV.int IntKind.i64 ((↑(0 : Nat) : Int) - (1 : Int)) = PV.int IntKind.i64 (-1 : Int), PV.tup [PV.iarr IntKind.u64 (4 : Nat) (uw o), PV.iarr IntKind.u64 (4 : Nat) (uw a)] = PV.tup [PV.iarr IntKind.u64 (4 : Nat) (uw o), PV.iarr IntKind.u64 (4 : Nat) (uw a)]] (by kernel_rfl) (ac (by exact congrArg (PV.int _) (by omega)) (ao (by with_reducible rfl)))
  | k + 1, a, o, ha, ho, hA, hl, hz, hk => by
    have hb1 : 0 < blen b := by
      apply Nat.pos_of_ne_zero
      intro e
      have := lt_blen b
      rw [e] at this
      omega
    have hk2 : k < 256 := by omega
    have hd : b * 2 ^ k < W256 := mul_lt_W (by omega)
    have hp2 : 2 ^ (k + 1) = 2 ^ k * 2 := Nat.pow_succ _ _
    have hzk : o % 2 ^ k = 0 := by
      rw [hp2] at hz
      have := Nat.mod_mul_right_mod o (2 ^ k) 2
      rw [hz, Nat.zero_mod] at this
      exact this.symm
    have hl2 : a < b * 2 ^ k + b * 2 ^ k := by rw [hp2, ← Nat.mul_assoc] at hl; omega
    rw [show ((k + 1 : Nat) : Int) - 1 = (k : Int) by omega]
    by_cases hc : a < b * 2 ^ k
    · exact W_quoB ha hb hk2 hd hc (W_quo hb hb0 k a o ha ho hA hc hzk (.inr (by omega)))
    · obtain ⟨w, hw, hw1, hset, hlt⟩ := uw_set (n := k / 64) (s := k % 64) ho (by omega) (by omega) (by omega) hz
      have hh := W_quo (A := A) hb hb0 k (a - b * 2 ^ k) (o + 2 ^ k) (by omega) hlt (by rw [Nat.add_mul, Nat.mul_comm (2 ^ k) b]; omega) (by omega) (by rw [Nat.add_mod_right, hzk]) (.inr (by omega))
      have hn : (k : Int).tdiv 64 = ((k / 64 : Nat) : Int) := by rw [Int.tdiv_eq_ediv_of_nonneg (by omega)]; omega
      have hs : (k : Int).tmod 64 = ((k % 64 : Nat) : Int) := by rw [Int.tmod_eq_emod_of_nonneg (by omega)]; omega
      exact W_quoA ha hb hk2 hd (by omega) hn hs (by omega) (by omega) (by omega) hw hw1 hset hh
set_option maxHeartbeats 4000000 in
theorem pc_wQuo {a b : Nat} (ha : a < W256) (hb : b < W256) (hb0 : 0 < b) : PC Try.prog G0 61 [] [.iarr .u64 4 (uw a), .iarr .u64 4 (uw b)] [] (.tup [.iarr .u64 4 (uw (a / b)), .iarr .u64 4 (uw (a % b))]) := by
  refine PC.of (fn := Try.f61) (c := bodyOf Try.f61) Try.func61 (by kernel_rfl) (by kernel_rfl) (by kernel_rfl) (by kernel_rfl) ?_
  have hla : blen a ≤ 256 := blen_le.2 (Nat.lt_of_lt_of_le ha (by decide))
  have hlb : blen b ≤ 256 := blen_le.2 (Nat.lt_of_lt_of_le hb (by decide))
  have hbz : ¬ uw b = [0, 0, 0, 0] := fun e => by have := (uw_zero hb).1 e; omega
  have hA := lt_blen a
  have hB := blen_low hb0
  by_cases hc : blen a < blen b
  · have hlt : a < b := Nat.lt_of_lt_of_le hA (Nat.le_trans (Nat.pow_le_pow_right (by omega) (by omega)) hB)
    rw [Nat.div_eq_of_lt hlt, Nat.mod_eq_of_lt hlt]
    refine W.seg [((7 : Nat), Ans.dec false), ((9 : Nat), Ans.call true [] [] (PV.int IntKind.i64 (↑(blen a) : Int))), ((11 : Nat), Ans.call true [] [] (PV.int IntKind.i64 (↑(blen b) : Int))), ((12 : Nat), Ans.val (PV.int IntKind.i64 ((↑(blen a) : Int) - (↑(blen b) : Int))))] [((64 : Nat), (1 : Nat)), ((80 : Nat), (2 : Nat)), ((96 : Nat), (3 : Nat)), ((112 : Nat), (4 : Nat)), ((128 : Nat), (5 : Nat))] (DS.mk [((2 : Nat), PV.at (1 : Nat) []), ((3 : Nat), PV.at (2 : Nat) []), ((4 : Nat), PV.at (3 : Nat) []), ((5 : Nat), PV.at (4 : Nat) []), ((6 : Nat), PV.at (5 : Nat) []), ((7 : Nat), PV.int IntKind.i64 ((↑(blen a) : Int) - (↑(blen b) : Int)))] [((1 : Nat), Row.mk (PV.iarr IntKind.u64 (4 : Nat) (uw a)) false), ((2 : Nat), Row.mk (PV.iarr IntKind.u64 (4 : Nat) (uw b)) false), ((3 : Nat), Row.mk (PV.iarr IntKind.u64 (4 : Nat) [(0 : Int), (0 : Int), (0 : Int), (0 : Int)]) false), ((4 : Nat), Row.mk (PV.iarr IntKind.u64 (4 : Nat) [(0 : Int), (0 : Int), (0 : Int), (0 : Int)]) false), ((5 : Nat), Row.mk (PV.iarr IntKind.u64 (4 : Nat) [(0 : Int), (0 : Int), (0 : Int), (0 : Int)]) false)]) (todo' := loopAt Try.f61 (0 : Nat)) [decide (uw b = [(0 : Int), (0 : Int), (0 : Int), (0 : Int)]) = false, PC Try.prog G0 (49 : Nat) [] [PV.iarr IntKind.u64 (4 : Nat) (uw a)] [] (PV.int IntKind.i64 (↑(blen a) : Int)), PC Try.prog G0 (49 : Nat) [] [PV.iarr IntKind.u64 (4 : Nat) (uw b)] [] (PV.int IntKind.i64 (↑(blen b) : Int)), PV.int IntKind.i64 (IntKind.wrap IntKind.i64 ((↑(blen a) : Int) - (↑(blen b) : Int))) = PV.int IntKind.i64 ((↑(blen a) : Int) - (↑(blen b) : Int)), PV.at (1 : Nat) [] = PV.at (1 : Nat) [], PV.at (2 : Nat) [] = PV.at (2 : Nat) [], PV.at (3 : Nat) [] = PV.at (3 : Nat) [], PV.at (4 : Nat) [] = PV.at (4 : Nat) [], PV.at (5 : Nat) [] = PV.at (5 : Nat) [], PV.int IntKind.i64 ((↑(blen a) : Int) - (↑(blen b) : Int)) = PV.int IntKind.i64 ((↑(blen a) : Int) - (↑(blen b) : Int)), PV.iarr IntKind.u64 (4 : Nat) (uw a) = PV.iarr IntKind.u64 (4 : Nat) (uw a), PV.iarr IntKind.u64 (4 : Nat) (uw b) = PV.iarr IntKind.u64 (4 : Nat) (uw b), PV.iarr IntKind.u64 (4 : Nat) [(0 : Int), (0 : Int), (0 : Int), (0 : Int)] = PV.iarr IntKind.u64 (4 : Nat) [(0 : Int), (0 : Int), (0 : Int), (0 : Int)], PV.iarr IntKind.u64 (4 : Nat) [(0 : Int), (0 : Int), (0 : Int), (0 : Int)] = PV.iarr IntKind.u64 (4 : Nat) [(0 : Int), (0 : Int), (0 : Int), (0 : Int)], PV.iarr IntKind.u64 (4 : Nat) [(0 : Int), (0 : Int), (0 : Int), (0 : Int)] = PV.iarr IntKind.u64 (4 : Nat) [(0 : Int), (0 : Int), (0 : Int), (0 : Int)]] (by kernel_rfl) (ac (by exact decide_eq_false (by omega)) (ac (by exact pc_wLen (by first | omega | decide)) (ac (by exact pc_wLen (by first | omega | decide)) (ac (by exact congrArg (PV.int _) (w_i64 rfl (by omega) (by omega))) (ac (by with_reducible rfl) (ac (by with_reducible rfl) (ac (by with_reducible rfl) (ac (by with_reducible rfl) (ac (by with_reducible rfl) (ac (by with_reducible rfl) (ac (by with_reducible rfl) (ac (by with_reducible rfl) (ac (by with_reducible rfl) (ac (by with_reducible rfl) (ao (by with_reducible rfl)))))))))))))))) ?_
    refine W.ret [((1 : Nat), Ans.dec false)] [] [decide ((↑(blen a) : Int) - (↑(blen b) : Int) ≥ (0 : Int)) = false, PV.tup [PV.iarr IntKind.u64 (4 : Nat) [(0 : Int), (0 : Int), (0 : Int), (0 : Int)], PV.iarr IntKind.u64 (4 : Nat) (uw a)] = PV.tup [PV.iarr IntKind.u64 (4 : Nat) (uw (0 : Nat)), PV.iarr IntKind.u64 (4 : Nat) (uw a)]] (by kernel_rfl) (ac (by exact decide_eq_false (by omega)) (ao (by rfl)))
  · obtain ⟨k, hk⟩ : ∃ k, blen a = blen b + k := ⟨blen a - blen b, by omega⟩
    have hb1 : 0 < blen b := by
      apply Nat.pos_of_ne_zero
      intro e
      have := lt_blen b
      rw [e] at this
      omega
    have hkk : (blen a : Int) - (blen b : Int) = (k : Int) := by omega
    have hl : a < b * 2 ^ (k + 1) := by
      have h1 : 2 ^ (blen b - 1) * 2 ^ (k + 1) ≤ b * 2 ^ (k + 1) := Nat.mul_le_mul_right _ hB
      rw [← Nat.pow_add, show blen b - 1 + (k + 1) = blen a by omega] at h1
      exact Nat.lt_of_lt_of_le hA h1
    have hh := W_quo (A := a) hb hb0 (k + 1) a 0 ha W256_pos (by omega) hl (Nat.zero_mod _) (.inr (by omega))
    rw [show ((k + 1 : Nat) : Int) - 1 = (k : Int) by omega] at hh
    refine W.seg [((7 : Nat), Ans.dec false), ((9 : Nat), Ans.call true [] [] (PV.int IntKind.i64 (↑(blen a) : Int))), ((11 : Nat), Ans.call true [] [] (PV.int IntKind.i64 (↑(blen b) : Int))), ((12 : Nat), Ans.val (PV.int IntKind.i64 (↑k : Int)))] [((64 : Nat), (0 : Nat)), ((80 : Nat), (1 : Nat)), ((96 : Nat), (2 : Nat)), ((112 : Nat), (3 : Nat)), ((128 : Nat), (4 : Nat))] (dsQ (uw a) (uw b) (uw (0 : Nat)) (↑k : Int)) (todo' := loopAt Try.f61 (0 : Nat)) [decide (uw b = [(0 : Int), (0 : Int), (0 : Int), (0 : Int)]) = false, PC Try.prog G0 (49 : Nat) [] [PV.iarr IntKind.u64 (4 : Nat) (uw a)] [] (PV.int IntKind.i64 (↑(blen a) : Int)), PC Try.prog G0 (49 : Nat) [] [PV.iarr IntKind.u64 (4 : Nat) (uw b)] [] (PV.int IntKind.i64 (↑(blen b) : Int)), PV.int IntKind.i64 (IntKind.wrap IntKind.i64 ((↑(blen a) : Int) - (↑(blen b) : Int))) = PV.int IntKind.i64 (↑k : Int), PV.at (0 : Nat) [] = PV.at (0 : Nat) [], PV.at (1 : Nat) [] = PV.at (1 : Nat) [], PV.at (2 : Nat) [] = PV.at (2 : Nat) [], PV.at (3 : Nat) [] = PV.at (3 : Nat) [], PV.at (4 : Nat) [] = PV.at (4 : Nat) [], PV.int IntKind.i64 (↑k : Int) = PV.int IntKind.i64 (↑k : Int), PV.iarr IntKind.u64 (4 : Nat) (uw a) = PV.iarr IntKind.u64 (4 : Nat) (uw a), PV.iarr IntKind.u64 (4 : Nat) (uw b) = PV.iarr IntKind.u64 (4 : Nat) (uw b), PV.iarr IntKind.u64 (4 : Nat) [(0 : Int), (0 : Int), (0 : Int), (0 : Int)] = PV.iarr IntKind.u64 (4 : Nat) [(0 : Int), (0 : Int), (0 : Int), (0 : Int)], PV.iarr IntKind.u64 (4 : Nat) [(0 : Int), (0 : Int), (0 : Int), (0 : Int)] = PV.iarr IntKind.u64 (4 : Nat) [(0 : Int), (0 : Int), (0 : Int), (0 : Int)], PV.iarr IntKind.u64 (4 : Nat) [(0 : Int), (0 : Int), (0 : Int), (0 : Int)] = PV.iarr IntKind.u64 (4 : Nat) (uw (0 : Nat))] (by kernel_rfl) (ac (by exact decide_eq_false (by omega)) (ac (by exact pc_wLen (by first | omega | decide)) (ac (by exact pc_wLen (by first | omega | decide)) (ac (by exact congrArg (PV.int _) (w_i64 hkk (by omega) (by omega))) (ac (by with_reducible rfl) (ac (by with_reducible rfl) (ac (by with_reducible rfl) (ac (by with_reducible rfl) (ac (by with_reducible rfl) (ac (by with_reducible rfl) (ac (by with_reducible rfl) (ac (by with_reducible rfl) (ac (by with_reducible rfl) (ac (by with_reducible rfl) (ao (by rfl)))))))))))))))) ?_
    exact hh
end Go.Proofs
namespace Go.Proofs
open Go Go.Pe Go.Pm
set_option maxRecDepth 100000
set_option linter.unusedVariables false
/-- what a target stands for -/
def work (t : Nat) : Nat := if t = W256 - 1 then 1 else if t = 0 then W256 - 1 else (W256 - 1 - t) / (t + 1) + 1
theorem work_lt {t : Nat} : work t < W256 := by
  unfold work
  have := W256_pos
  split
  · decide
  · split
    · omega
    · have : (W256 - 1 - t) / (t + 1) ≤ (W256 - 1 - t) / 2 := Nat.div_le_div_left (by omega) (by omega)
      have hw : 4 ≤ W256 := by decide
      omega
set_option maxHeartbeats 4000000 in
theorem pc_workA : PC Try.prog G0 42 [] [.iarr .u64 4 (uw (W256 - 1))] [] (.iarr .u64 4 (uw 1)) := by
  refine PC.of (fn := Try.f42) (c := bodyOf Try.f42) Try.func42 (by kernel_rfl) (by kernel_rfl) (by kernel_rfl) (by kernel_rfl) ?_
  have h1 : W256 - 1 < W256 := by decide
  have h2 : 1 < W256 := by decide
  have h3 : decide (W256 ≤ W256 - 1 + 1) = true := by decide
  refine W.ret [((3 : Nat), Ans.call true [] [] (PV.iarr IntKind.u64 (4 : Nat) (uw (1 : Nat)))), ((4 : Nat), Ans.call true [] [] (PV.tup [PV.iarr IntKind.u64 (4 : Nat) (uw ((W256 - (1 : Nat) + (1 : Nat)) % W256)), PV.bool true])), ((12 : Nat), Ans.call true [] [] (PV.iarr IntKind.u64 (4 : Nat) (uw (1 : Nat))))] [] [PC Try.prog G0 (47 : Nat) [] [PV.int IntKind.u64 (1 : Int)] [] (PV.iarr IntKind.u64 (4 : Nat) (uw (1 : Nat))), PC Try.prog G0 (41 : Nat) [] [PV.iarr IntKind.u64 (4 : Nat) (uw (W256 - (1 : Nat))), PV.iarr IntKind.u64 (4 : Nat) (uw (1 : Nat))] [] (PV.tup [PV.iarr IntKind.u64 (4 : Nat) (uw ((W256 - (1 : Nat) + (1 : Nat)) % W256)), PV.bool true]), PC Try.prog G0 (47 : Nat) [] [PV.int IntKind.u64 (1 : Int)] [] (PV.iarr IntKind.u64 (4 : Nat) (uw (1 : Nat))), PV.iarr IntKind.u64 (4 : Nat) (uw (1 : Nat)) = PV.iarr IntKind.u64 (4 : Nat) (uw (1 : Nat))] (by kernel_rfl) (ac (by exact pc_wOf _ (by first | omega | decide)) (ac (by exact pc_wAdd (by first | omega | decide) (by first | omega | decide)) (ac (by exact pc_wOf _ (by first | omega | decide)) (ao (by with_reducible rfl)))))
set_option maxHeartbeats 4000000 in
theorem pc_workB : PC Try.prog G0 42 [] [.iarr .u64 4 (uw 0)] [] (.iarr .u64 4 (uw (W256 - 1))) := by
  refine PC.of (fn := Try.f42) (c := bodyOf Try.f42) Try.func42 (by kernel_rfl) (by kernel_rfl) (by kernel_rfl) (by kernel_rfl) ?_
  have h1 : 0 < W256 := by decide
  have h2 : 1 < W256 := by decide
  have h3 : decide (W256 ≤ 0 + 1) = false := by decide
  refine W.ret [((3 : Nat), Ans.call true [] [] (PV.iarr IntKind.u64 (4 : Nat) (uw (1 : Nat)))), ((4 : Nat), Ans.call true [] [] (PV.tup [PV.iarr IntKind.u64 (4 : Nat) (uw (((0 : Nat) + (1 : Nat)) % W256)), PV.bool false])), ((5 : Nat), Ans.val (PV.tup [PV.iarr IntKind.u64 (4 : Nat) (uw ((1 : Nat) % W256)), PV.bool false])), ((15 : Nat), Ans.call true [] [] (PV.iarr IntKind.u64 (4 : Nat) (uw (W256 - (1 : Nat)))))] [] [PC Try.prog G0 (47 : Nat) [] [PV.int IntKind.u64 (1 : Int)] [] (PV.iarr IntKind.u64 (4 : Nat) (uw (1 : Nat))), PC Try.prog G0 (41 : Nat) [] [PV.iarr IntKind.u64 (4 : Nat) (uw (0 : Nat)), PV.iarr IntKind.u64 (4 : Nat) (uw (1 : Nat))] [] (PV.tup [PV.iarr IntKind.u64 (4 : Nat) (uw (((0 : Nat) + (1 : Nat)) % W256)), PV.bool false]), PV.tup [PV.iarr IntKind.u64 (4 : Nat) (uw (((0 : Nat) + (1 : Nat)) % W256)), PV.bool false] = PV.tup [PV.iarr IntKind.u64 (4 : Nat) (uw ((1 : Nat) % W256)), PV.bool false], PC Try.prog G0 (59 : Nat) [] [] [] (PV.iarr IntKind.u64 (4 : Nat) (uw (W256 - (1 : Nat)))), PV.iarr IntKind.u64 (4 : Nat) (uw (W256 - (1 : Nat))) = PV.iarr IntKind.u64 (4 : Nat) (uw (W256 - (1 : Nat)))] (by kernel_rfl) (ac (by exact pc_wOf _ (by first | omega | decide)) (ac (by exact pc_wAdd (by first | omega | decide) (by first | omega | decide)) (ac (by simp only [Nat.zero_add]) (ac (by exact pc_wMax) (ao (by with_reducible rfl))))))
set_option maxHeartbeats 4000000 in
theorem pc_workC {t : Nat} (ht : t < W256 - 1) (h0 : 0 < t) : PC Try.prog G0 42 [] [.iarr .u64 4 (uw t)] [] (.iarr .u64 4 (uw ((W256 - 1 - t) / (t + 1) + 1))) := by
  refine PC.of (fn := Try.f42) (c := bodyOf Try.f42) Try.func42 (by kernel_rfl) (by kernel_rfl) (by kernel_rfl) (by kernel_rfl) ?_
  have h1 : t < W256 := by omega
  have h2 : 1 < W256 := by decide
  have h4 : W256 - 1 < W256 := by decide
  have h3 : decide (W256 ≤ t + 1) = false := decide_eq_false (by omega)
  have h5 : ¬ uw t = [0, 0, 0, 0] := fun e => by have := (uw_zero h1).1 e; omega
  have h6 : (t + 1) % W256 < W256 := Nat.mod_lt _ W256_pos
  have h7 : 0 < (t + 1) % W256 := by rw [Nat.mod_eq_of_lt (by omega)]; omega
  have h8 : (W256 - 1 + W256 - t) % W256 < W256 := Nat.mod_lt _ W256_pos
  have h9 : (W256 - 1 + W256 - t) % W256 / ((t + 1) % W256) < W256 := Nat.lt_of_le_of_lt (Nat.div_le_self _ _) h8
  refine W.ret [((3 : Nat), Ans.call true [] [] (PV.iarr IntKind.u64 (4 : Nat) (uw (1 : Nat)))), ((4 : Nat), Ans.call true [] [] (PV.tup [PV.iarr IntKind.u64 (4 : Nat) (uw ((t + (1 : Nat)) % W256)), PV.bool (decide (W256 ≤ t + (1 : Nat)))])), ((7 : Nat), Ans.dec false), ((14 : Nat), Ans.dec false), ((15 : Nat), Ans.call true [] [] (PV.iarr IntKind.u64 (4 : Nat) (uw (W256 - (1 : Nat))))), ((17 : Nat), Ans.call true [] [] (PV.tup [PV.iarr IntKind.u64 (4 : Nat) (uw ((W256 - (1 : Nat) + W256 - t) % W256)), PV.bool (decide ((115792089237316195423570985008687907853269984665640564039457584007913129639935 : Nat) < t))])), ((26 : Nat), Ans.call true [] [] (PV.tup [PV.iarr IntKind.u64 (4 : Nat) (uw ((W256 - (1 : Nat) + W256 - t) % W256 / ((t + (1 : Nat)) % W256))), PV.iarr IntKind.u64 (4 : Nat) (uw ((W256 - (1 : Nat) + W256 - t) % W256 % ((t + (1 : Nat)) % W256)))])), ((35 : Nat), Ans.call true [] [] (PV.iarr IntKind.u64 (4 : Nat) (uw (1 : Nat)))), ((36 : Nat), Ans.call true [] [] (PV.tup [PV.iarr IntKind.u64 (4 : Nat) (uw (((W256 - (1 : Nat) + W256 - t) % W256 / ((t + (1 : Nat)) % W256) + (1 : Nat)) % W256)), PV.bool (decide (W256 ≤ ((231584178474632390847141970017375815706539969331281128078915168015826259279871 : Nat) - t) % W256 / ((t + (1 : Nat)) % W256) + (1 : Nat)))]))] [] [PC Try.prog G0 (47 : Nat) [] [PV.int IntKind.u64 (1 : Int)] [] (PV.iarr IntKind.u64 (4 : Nat) (uw (1 : Nat))), PC Try.prog G0 (41 : Nat) [] [PV.iarr IntKind.u64 (4 : Nat) (uw t), PV.iarr IntKind.u64 (4 : Nat) (uw (1 : Nat))] [] (PV.tup [PV.iarr IntKind.u64 (4 : Nat) (uw ((t + (1 : Nat)) % W256)), PV.bool (decide (W256 ≤ t + (1 : Nat)))]), decide (W256 ≤ t + (1 : Nat)) = false, decide (uw t = [(0 : Int), (0 : Int), (0 : Int), (0 : Int)]) = false, PC Try.prog G0 (59 : Nat) [] [] [] (PV.iarr IntKind.u64 (4 : Nat) (uw (W256 - (1 : Nat)))), PC Try.prog G0 (60 : Nat) [] [PV.iarr IntKind.u64 (4 : Nat) (uw (W256 - (1 : Nat))), PV.iarr IntKind.u64 (4 : Nat) (uw t)] [] (PV.tup [PV.iarr IntKind.u64 (4 : Nat) (uw ((W256 - (1 : Nat) + W256 - t) % W256)), PV.bool (decide ((115792089237316195423570985008687907853269984665640564039457584007913129639935 : Nat) < t))]), PC Try.prog G0 (61 : Nat) [] [PV.iarr IntKind.u64 (4 : Nat) (uw ((W256 - (1 : Nat) + W256 - t) % W256)), PV.iarr IntKind.u64 (4 : Nat) (uw ((t + (1 : Nat)) % W256))] [] (PV.tup [PV.iarr IntKind.u64 (4 : Nat) (uw ((W256 - (1 : Nat) + W256 - t) % W256 / ((t + (1 : Nat)) % W256))), PV.iarr IntKind.u64 (4 : Nat) (uw ((W256 - (1 : Nat) + W256 - t) % W256 % ((t + (1 : Nat)) % W256)))]), PC Try.prog G0 (47 : Nat) [] [PV.int IntKind.u64 (1 : Int)] [] (PV.iarr IntKind.u64 (4 : Nat) (uw (1 : Nat))), PC Try.prog G0 (41 : Nat) [] [PV.iarr IntKind.u64 (4 : Nat) (uw ((W256 - (1 : Nat) + W256 - t) % W256 / ((t + (1 : Nat)) % W256))), PV.iarr IntKind.u64 (4 : Nat) (uw (1 : Nat))] [] (PV.tup [PV.iarr IntKind.u64 (4 : Nat) (uw (((W256 - (1 : Nat) + W256 - t) % W256 / ((t + (1 : Nat)) % W256) + (1 : Nat)) % W256)), PV.bool (decide (W256 ≤ ((231584178474632390847141970017375815706539969331281128078915168015826259279871 : Nat) - t) % W256 / ((t + (1 : Nat)) % W256) + (1 : Nat)))]), PV.iarr IntKind.u64 (4 : Nat) (uw (((W256 - (1 : Nat) + W256 - t) % W256 / ((t + (1 : Nat)) % W256) + (1 : Nat)) % W256)) = PV.iarr IntKind.u64 (4 : Nat) (uw ((W256 - (1 : Nat) - t) / (t + (1 : Nat)) + (1 : Nat)))] (by kernel_rfl) (ac (by exact pc_wOf _ (by first | omega | decide)) (ac (by exact pc_wAdd (by first | omega | decide) (by first | omega | decide)) (ac (by exact decide_eq_false (by omega)) (ac (by exact decide_eq_false (by omega)) (ac (by exact pc_wMax) (ac (by exact pc_wSub (by first | omega | decide) (by first | omega | decide)) (ac (by exact pc_wQuo (by first | omega | decide) (by first | omega | decide) (by first | omega | decide)) (ac (by exact pc_wOf _ (by first | omega | decide)) (ac (by exact pc_wAdd (by first | omega | decide) (by first | omega | decide)) (ao ?_))))))))))
  refine congrArg (fun v => PV.iarr .u64 4 (uw v)) ?_
  have e1 : (t + 1) % W256 = t + 1 := Nat.mod_eq_of_lt (by omega)
  have e2 : (W256 - 1 + W256 - t) % W256 = W256 - 1 - t := by
    rw [show W256 - 1 + W256 - t = (W256 - 1 - t) + W256 by omega, Nat.add_mod_right, Nat.mod_eq_of_lt (by omega)]
  have e3 := work_lt (t := t)
  unfold work at e3
  rw [if_neg (by omega), if_neg (by omega)] at e3
  rw [e1, e2, Nat.mod_eq_of_lt e3]
theorem pc_work {t : Nat} (ht : t < W256) : PC Try.prog G0 42 [] [.iarr .u64 4 (uw t)] [] (.iarr .u64 4 (uw (work t))) := by
  unfold work
  split
  · rename_i h; subst h; exact pc_workA
  · split
    · rename_i h; subst h; exact pc_workB
    · exact pc_workC (by omega) (by omega)
end Go.Proofs
namespace Go.Proofs
open Go Go.Pe Go.Pm
set_option maxRecDepth 100000
set_option linter.unusedVariables false
/-- a quotient of two words and what is left -/
structure DivIs (hi lo y q r : Nat) : Prop where
  eq : hi * 18446744073709551616 + lo = r + y * q
  lt : r < y
end Go.Proofs
namespace Go.Proofs
open Go Go.Pe Go.Pm
set_option maxRecDepth 100000
set_option linter.unusedVariables false
theorem pc_bOf1 {w : Nat} (hw : w < 18446744073709551616) : PC Try.prog G0 37 [] [.vec false (.iarr .u64 1 [(w : Int)])] [] (bv false w) := by
  have h := pc_bOf (nl := false) (m := 1) (v := w) (ws := [(w : Int)]) (by omega) (by omega) (by simp [wdn, Nat.mod_eq_of_lt hw]) (by simpa using hw)
  exact h
theorem pc_parts {c : Nat} (hc : c < 4294967296) : PC Try.prog G0 53 [] [.int .u32 c] [] (.tup [.int .i64 ((c / 16777216 : Nat) : Int), .bool (decide (c / 8388608 % 2 = 1)), .int .i64 ((c % 8388608 : Nat) : Int)]) := by
  refine PC.of (fn := Try.f53) (c := bodyOf Try.f53) Try.func53 (by kernel_rfl) (by kernel_rfl) (by kernel_rfl) (by kernel_rfl) ?_
  refine W.ret [((4 : Nat), Ans.val (PV.int IntKind.u32 (↑(c / (16777216 : Nat)) : Int))), ((5 : Nat), Ans.val (PV.int IntKind.i64 (↑(c / (16777216 : Nat)) : Int))), ((7 : Nat), Ans.val (PV.int IntKind.u32 (↑(c / (8388608 : Nat)) : Int))), ((8 : Nat), Ans.val (PV.int IntKind.u32 (↑(c / (8388608 : Nat) % (2 : Nat)) : Int))), ((11 : Nat), Ans.val (PV.int IntKind.u32 (↑(c % (8388608 : Nat)) : Int))), ((12 : Nat), Ans.val (PV.int IntKind.i64 (↑(c % (8388608 : Nat)) : Int)))] [] [PV.int IntKind.u32 (IntKind.wrap IntKind.u32 (Int.tdiv (↑c : Int) (16777216 : Int))) = PV.int IntKind.u32 (↑(c / (16777216 : Nat)) : Int), (16777216 : Int) ≠ (0 : Int), PV.int IntKind.i64 (IntKind.wrap IntKind.i64 (↑(c / (16777216 : Nat)) : Int)) = PV.int IntKind.i64 (↑(c / (16777216 : Nat)) : Int), PV.int IntKind.u32 (IntKind.wrap IntKind.u32 (Int.tdiv (↑c : Int) (8388608 : Int))) = PV.int IntKind.u32 (↑(c / (8388608 : Nat)) : Int), (8388608 : Int) ≠ (0 : Int), PV.int IntKind.u32 (Int.tmod (↑(c / (8388608 : Nat)) : Int) (2 : Int)) = PV.int IntKind.u32 (↑(c / (8388608 : Nat) % (2 : Nat)) : Int), (2 : Int) ≠ (0 : Int), PV.int IntKind.u32 (Int.tmod (↑c : Int) (8388608 : Int)) = PV.int IntKind.u32 (↑(c % (8388608 : Nat)) : Int), (8388608 : Int) ≠ (0 : Int), PV.int IntKind.i64 (IntKind.wrap IntKind.i64 (↑(c % (8388608 : Nat)) : Int)) = PV.int IntKind.i64 (↑(c % (8388608 : Nat)) : Int), PV.tup [PV.int IntKind.i64 (↑(c / (16777216 : Nat)) : Int), PV.bool ((↑(c / (8388608 : Nat) % (2 : Nat)) : Int) == (1 : Int)), PV.int IntKind.i64 (↑(c % (8388608 : Nat)) : Int)] = PV.tup [PV.int IntKind.i64 (↑(c / (16777216 : Nat)) : Int), PV.bool (decide (c / (8388608 : Nat) % (2 : Nat) = (1 : Nat))), PV.int IntKind.i64 (↑(c % (8388608 : Nat)) : Int)]] (by kernel_rfl) (ac (by exact congrArg (PV.int _) (w_u32 rfl (by omega) (by omega))) (ac (by omega) (ac (by exact congrArg (PV.int _) (w_i64 rfl (by omega) (by omega))) (ac (by exact congrArg (PV.int _) (w_u32 rfl (by omega) (by omega))) (ac (by omega) (ac (by exact congrArg (PV.int _) (by rfl)) (ac (by omega) (ac (by exact congrArg (PV.int _) (by rfl)) (ac (by omega) (ac (by exact congrArg (PV.int _) (w_i64 rfl (by omega) (by omega))) (ao ?_)))))))))))
  refine congrArg (fun b => PV.tup [_, PV.bool b, _]) ?_
  rw [Bool.eq_iff_iff, beq_iff_eq, decide_eq_true_eq]
  omega
def dsNum (e m : Nat) : DS := ⟨[(3, .int .i64 e), (5, .int .i64 m)], []⟩
theorem W_num : ∀ (k e m : Nat), (e + k = 3 ∨ (k = 0 ∧ 3 ≤ e)) → e < 256 → m < 8388608 →
    W Try.prog G0 Try.f54 [] [] (bv false (m / 256 ^ k * 2 ^ (8 * (e + k - 3)))) (loopAt Try.f54 0) (dsNum e m)
  | 0, e, m, he, he2, hm => by
    have he3 : 3 ≤ e := by omega
    have h1 := pc_bOf1 (w := m) (by omega)
    have h2 := pc_bPow (k := 8 * (e - 3)) (by omega)
    have hn1 : nd m ≤ 100000 := nd_le_of_le (b := 8388608) (by omega) (by decide)
    have hn2 : nd (2 ^ (8 * (e - 3))) ≤ 100000 := by rw [nd_pow]; omega
    have h3 := pc_bMul (na := false) (nb := false) (a := m) (b := 2 ^ (8 * (e - 3))) hn1 hn2
    have hp : 8 * (e : Int) - 24 = ((8 * (e - 3) : Nat) : Int) := by omega
    rw [Nat.pow_zero, Nat.div_one, Nat.add_zero]
    generalize 8 * (e - 3) = p at *
    refine W.ret [((1 : Nat), Ans.dec false), ((3 : Nat), Ans.val (PV.int IntKind.u64 (↑m : Int))), ((5 : Nat), Ans.call false [] [] (PV.vec false (PV.iarr IntKind.i64 (nd m) (dg m)))), ((7 : Nat), Ans.val (PV.int IntKind.i64 ((↑e : Int) - (3 : Int)))), ((8 : Nat), Ans.val (PV.int IntKind.i64 (↑p : Int))), ((9 : Nat), Ans.call false [] [] (PV.vec false (PV.iarr IntKind.i64 (nd ((2 : Nat) ^ p)) (dg ((2 : Nat) ^ p))))), ((10 : Nat), Ans.call false [] [] (PV.vec false (PV.iarr IntKind.i64 (nd (m * (2 : Nat) ^ p)) (dg (m * (2 : Nat) ^ p)))))] [] [decide ((↑e : Int) < (3 : Int)) = false, PV.int IntKind.u64 (IntKind.wrap IntKind.u64 (↑m : Int)) = PV.int IntKind.u64 (↑m : Int), (1 : Nat) ≤ (1 : Nat), PC Try.prog G0 (37 : Nat) [] [PV.vec false (PV.iarr IntKind.u64 (1 : Nat) [(↑m : Int)])] [] (PV.vec false (PV.iarr IntKind.i64 (nd m) (dg m))), PV.int IntKind.i64 (IntKind.wrap IntKind.i64 ((↑e : Int) - (3 : Int))) = PV.int IntKind.i64 ((↑e : Int) - (3 : Int)), PV.int IntKind.i64 (IntKind.wrap IntKind.i64 ((8 : Int) * ((↑e : Int) - (3 : Int)))) = PV.int IntKind.i64 (↑p : Int), PC Try.prog G0 (63 : Nat) [] [PV.int IntKind.i64 (↑p : Int)] [] (PV.vec false (PV.iarr IntKind.i64 (nd ((2 : Nat) ^ p)) (dg ((2 : Nat) ^ p)))), PC Try.prog G0 (76 : Nat) [] [PV.vec false (PV.iarr IntKind.i64 (nd m) (dg m)), PV.vec false (PV.iarr IntKind.i64 (nd ((2 : Nat) ^ p)) (dg ((2 : Nat) ^ p)))] [] (PV.vec false (PV.iarr IntKind.i64 (nd (m * (2 : Nat) ^ p)) (dg (m * (2 : Nat) ^ p)))), PV.vec false (PV.iarr IntKind.i64 (nd (m * (2 : Nat) ^ p)) (dg (m * (2 : Nat) ^ p))) = PV.vec false (PV.iarr IntKind.i64 (nd (m * (2 : Nat) ^ p)) (dg (m * (2 : Nat) ^ p)))] (by kernel_rfl) (ac (by exact decide_eq_false (by omega)) (ac (by exact congrArg (PV.int _) (w_u64 rfl (by omega) (by omega))) (ac (by omega) (ac (by exact h1) (ac (by exact congrArg (PV.int _) (w_i64 rfl (by omega) (by omega))) (ac (by exact congrArg (PV.int _) (w_i64 (by rw [← hp]; omega) (by omega) (by omega))) (ac (by exact h2) (ac (by exact h3) (ao (by with_reducible rfl))))))))))
  | k + 1, e, m, he, he2, hm => by
    refine W.seg [((1 : Nat), Ans.dec true), ((3 : Nat), Ans.val (PV.int IntKind.i64 (↑(m / (256 : Nat)) : Int))), ((6 : Nat), Ans.val (PV.int IntKind.i64 (↑(e + (1 : Nat)) : Int)))] [] (dsNum (e + (1 : Nat)) (m / (256 : Nat))) (todo' := loopAt Try.f54 (0 : Nat)) [decide ((↑e : Int) < (3 : Int)) = true, PV.int IntKind.i64 (IntKind.wrap IntKind.i64 (Int.tdiv (↑m : Int) (256 : Int))) = PV.int IntKind.i64 (↑(m / (256 : Nat)) : Int), (256 : Int) ≠ (0 : Int), PV.int IntKind.i64 (IntKind.wrap IntKind.i64 ((↑e : Int) + (1 : Int))) = PV.int IntKind.i64 (↑(e + (1 : Nat)) : Int), PV.int IntKind.i64 (↑(e + (1 : Nat)) : Int) = PV.int IntKind.i64 (↑(e + (1 : Nat)) : Int), PV.int IntKind.i64 (↑(m / (256 : Nat)) : Int) = PV.int IntKind.i64 (↑(m / (256 : Nat)) : Int)] (by kernel_rfl) (ac (by exact decide_eq_true (by omega)) (ac (by exact congrArg (PV.int _) (w_i64 rfl (by omega) (by omega))) (ac (by omega) (ac (by exact congrArg (PV.int _) (w_i64 rfl (by omega) (by omega))) (ac (by with_reducible rfl) (ao (by with_reducible rfl))))))) ?_
    have h := W_num k (e + 1) (m / 256) (by omega) (by omega) (by omega)
    rw [Nat.div_div_eq_div_mul, show e + 1 + k = e + (k + 1) by omega] at h
    rw [Nat.pow_succ, Nat.mul_comm (256 ^ k)]
    exact h
/-- a compact's number -/
def num (c : Nat) : Nat := if c / 16777216 ≤ 3 then c % 8388608 / 2 ^ (8 * (3 - c / 16777216)) else c % 8388608 * 2 ^ (8 * (c / 16777216 - 3))
theorem pc_number {c : Nat} (hc : c < 4294967296) : PC Try.prog G0 54 [] [.int .u32 c] [] (bv false (num c)) := by
  refine PC.of (fn := Try.f54) (c := bodyOf Try.f54) Try.func54 (by kernel_rfl) (by kernel_rfl) (by kernel_rfl) (by kernel_rfl) ?_
  have hp := pc_parts hc
  refine W.seg [((2 : Nat), Ans.call true [] [] (PV.tup [PV.int IntKind.i64 (↑(c / (16777216 : Nat)) : Int), PV.bool (decide (c / (8388608 : Nat) % (2 : Nat) = (1 : Nat))), PV.int IntKind.i64 (↑(c % (8388608 : Nat)) : Int)]))] [] (dsNum (c / (16777216 : Nat)) (c % (8388608 : Nat))) (todo' := loopAt Try.f54 (0 : Nat)) [PC Try.prog G0 (53 : Nat) [] [PV.int IntKind.u32 (↑c : Int)] [] (PV.tup [PV.int IntKind.i64 (↑(c / (16777216 : Nat)) : Int), PV.bool (decide (c / (8388608 : Nat) % (2 : Nat) = (1 : Nat))), PV.int IntKind.i64 (↑(c % (8388608 : Nat)) : Int)]), PV.int IntKind.i64 (↑(c / (16777216 : Nat)) : Int) = PV.int IntKind.i64 (↑(c / (16777216 : Nat)) : Int), PV.int IntKind.i64 (↑(c % (8388608 : Nat)) : Int) = PV.int IntKind.i64 (↑(c % (8388608 : Nat)) : Int)] (by kernel_rfl) (ac (by exact hp) (ac (by with_reducible rfl) (ao (by with_reducible rfl)))) ?_
  have e8 : ∀ k, 256 ^ k = 2 ^ (8 * k) := fun k => by rw [Nat.pow_mul]
  unfold num
  split
  · rename_i h
    have := W_num (3 - c / 16777216) (c / 16777216) (c % 8388608) (by omega) (by omega) (Nat.mod_lt _ (by omega))
    rw [show 8 * (c / 16777216 + (3 - c / 16777216) - 3) = 0 by omega, Nat.pow_zero, Nat.mul_one, e8] at this
    exact this
  · rename_i h
    have := W_num 0 (c / 16777216) (c % 8388608) (by omega) (by omega) (Nat.mod_lt _ (by omega))
    rw [Nat.pow_zero, Nat.div_one, Nat.add_zero] at this
    exact this
theorem blen_mul_pow {m k : Nat} (hm : 0 < m) : blen (m * 2 ^ k) = blen m + k := by
  refine blen_eq ?_ (.inr ?_)
  · rw [Nat.pow_add]; exact Nat.mul_lt_mul_of_pos_right (lt_blen m) (Nat.two_pow_pos k)
  · have h0 : 0 < blen m := by
      apply Nat.pos_of_ne_zero
      intro e
      have := lt_blen m
      rw [e] at this
      omega
    rw [show blen m + k - 1 = (blen m - 1) + k by omega, Nat.pow_add]
    exact Nat.mul_le_mul_right _ (blen_low hm)
theorem tgt_num {c : Nat} : tgt c = if c / 8388608 % 2 = 1 ∨ num c = 0 ∨ 16 < nd (num c) then 0 else num c := by
  have hm : c % 8388608 < 8388608 := Nat.mod_lt _ (by omega)
  have hb : blen (c % 8388608) ≤ 23 := blen_le.2 hm
  have hnd : ∀ v, 16 < nd v ↔ 256 < blen v := fun v => by unfold nd; omega
  unfold tgt num
  by_cases h1 : c / 8388608 % 2 = 1
  · rw [if_pos h1, if_pos (.inl h1)]
  · rw [if_neg h1]
    by_cases h2 : c / 16777216 ≤ 3
    · rw [if_pos h2, if_pos h2]
      split
      · rename_i h
        rcases h with h | h | h
        · exact absurd h h1
        · exact h
        · exfalso
          rw [hnd] at h
          have : blen (c % 8388608 / 2 ^ (8 * (3 - c / 16777216))) ≤ 23 := blen_le.2 (Nat.lt_of_le_of_lt (Nat.div_le_self _ _) hm)
          omega
      · rfl
    · rw [if_neg h2, if_neg h2]
      by_cases h0 : c % 8388608 = 0
      · rw [h0, Nat.zero_mul]
        split <;> split <;> rfl
      · have hp : 0 < c % 8388608 := by omega
        have e := blen_mul_pow (k := 8 * (c / 16777216 - 3)) hp
        have hne : c % 8388608 * 2 ^ (8 * (c / 16777216 - 3)) ≠ 0 := Nat.mul_ne_zero h0 (Nat.ne_of_gt (Nat.two_pow_pos _))
        have hk := hnd (c % 8388608 * 2 ^ (8 * (c / 16777216 - 3)))
        rw [e] at hk
        by_cases h3 : 256 < blen (c % 8388608) + 8 * (c / 16777216 - 3)
        · rw [if_pos h3, if_pos (.inr (.inr (hk.2 h3)))]
        · rw [if_neg h3, if_neg (by rintro (h | h | h); exact h1 h; exact hne h; exact h3 (hk.1 h))]
theorem nd_num {c : Nat} (hc : c < 4294967296) : nd (num c) ≤ 1000 := by
  have hm : c % 8388608 < 8388608 := Nat.mod_lt _ (by omega)
  unfold num
  split
  · exact nd_le_of_le (b := 8388608) (Nat.le_trans (Nat.div_le_self _ _) (Nat.le_of_lt hm)) (by decide)
  · have h1 := nd_mul (c % 8388608) (2 ^ (8 * (c / 16777216 - 3)))
    rw [nd_pow] at h1
    have h2 : nd (c % 8388608) ≤ 2 := nd_le_of_le (b := 8388608) (Nat.le_of_lt hm) (by decide)
    omega
theorem pc_rTargetN {c : Nat} (hc : c < 4294967296) (h : tgt c = 0) : PC Try.prog G0 35 [] [.int .u32 c] [] (.tup [bv true 0, .bool false]) := by
  refine PC.of (fn := Try.f35) (c := bodyOf Try.f35) Try.func35 (by kernel_rfl) (by kernel_rfl) (by kernel_rfl) (by kernel_rfl) ?_
  have h1 := pc_parts hc
  have h2 := pc_number hc
  have hn := nd_num hc
  have e := tgt_num (c := c)
  rw [h] at e
  by_cases hs : c / 8388608 % 2 = 1
  · rw [decide_eq_true hs] at h1
    refine W.ret [((3 : Nat), Ans.call true [] [] (PV.tup [PV.int IntKind.i64 (↑(c / (16777216 : Nat)) : Int), PV.bool true, PV.int IntKind.i64 (↑(c % (8388608 : Nat)) : Int)])), ((12 : Nat), Ans.call false [] [] (PV.vec false (PV.iarr IntKind.i64 (nd (num c)) (dg (num c)))))] [] [PC Try.prog G0 (53 : Nat) [] [PV.int IntKind.u32 (↑c : Int)] [] (PV.tup [PV.int IntKind.i64 (↑(c / (16777216 : Nat)) : Int), PV.bool true, PV.int IntKind.i64 (↑(c % (8388608 : Nat)) : Int)]), PC Try.prog G0 (54 : Nat) [] [PV.int IntKind.u32 (↑c : Int)] [] (PV.vec false (PV.iarr IntKind.i64 (nd (num c)) (dg (num c)))), PV.tup [PV.vec true (PV.iarr IntKind.i64 (0 : Nat) []), PV.bool false] = PV.tup [PV.vec true (PV.iarr IntKind.i64 (0 : Nat) (dg (0 : Nat))), PV.bool false]] (by kernel_rfl) (ac (by exact h1) (ac (by exact h2) (ao (by rfl))))
  · rw [decide_eq_false hs] at h1
    by_cases h0 : nd (num c) = 0
    · refine W.ret [((3 : Nat), Ans.call true [] [] (PV.tup [PV.int IntKind.i64 (↑(c / (16777216 : Nat)) : Int), PV.bool false, PV.int IntKind.i64 (↑(c % (8388608 : Nat)) : Int)])), ((12 : Nat), Ans.call false [] [] (PV.vec false (PV.iarr IntKind.i64 (nd (num c)) (dg (num c))))), ((18 : Nat), Ans.dec true)] [] [PC Try.prog G0 (53 : Nat) [] [PV.int IntKind.u32 (↑c : Int)] [] (PV.tup [PV.int IntKind.i64 (↑(c / (16777216 : Nat)) : Int), PV.bool false, PV.int IntKind.i64 (↑(c % (8388608 : Nat)) : Int)]), PC Try.prog G0 (54 : Nat) [] [PV.int IntKind.u32 (↑c : Int)] [] (PV.vec false (PV.iarr IntKind.i64 (nd (num c)) (dg (num c)))), ((↑(nd (num c)) : Int) == (0 : Int)) = true, PV.tup [PV.vec true (PV.iarr IntKind.i64 (0 : Nat) []), PV.bool false] = PV.tup [PV.vec true (PV.iarr IntKind.i64 (0 : Nat) (dg (0 : Nat))), PV.bool false]] (by kernel_rfl) (ac (by exact h1) (ac (by exact h2) (ac (by exact decide_eq_true (by omega)) (ao (by rfl)))))
    · have h16 : 16 < nd (num c) := by
        apply Nat.lt_of_not_le
        intro hle
        rw [if_neg (by rintro (h | h | h); exact hs h; exact h0 (by rw [h]; rfl); omega)] at e
        exact h0 (by rw [← e]; rfl)
      refine W.ret [((3 : Nat), Ans.call true [] [] (PV.tup [PV.int IntKind.i64 (↑(c / (16777216 : Nat)) : Int), PV.bool false, PV.int IntKind.i64 (↑(c % (8388608 : Nat)) : Int)])), ((12 : Nat), Ans.call false [] [] (PV.vec false (PV.iarr IntKind.i64 (nd (num c)) (dg (num c))))), ((18 : Nat), Ans.dec false), ((23 : Nat), Ans.dec true)] [] [PC Try.prog G0 (53 : Nat) [] [PV.int IntKind.u32 (↑c : Int)] [] (PV.tup [PV.int IntKind.i64 (↑(c / (16777216 : Nat)) : Int), PV.bool false, PV.int IntKind.i64 (↑(c % (8388608 : Nat)) : Int)]), PC Try.prog G0 (54 : Nat) [] [PV.int IntKind.u32 (↑c : Int)] [] (PV.vec false (PV.iarr IntKind.i64 (nd (num c)) (dg (num c)))), ((↑(nd (num c)) : Int) == (0 : Int)) = false, decide ((↑(nd (num c)) : Int) > (16 : Int)) = true, PV.tup [PV.vec true (PV.iarr IntKind.i64 (0 : Nat) []), PV.bool false] = PV.tup [PV.vec true (PV.iarr IntKind.i64 (0 : Nat) (dg (0 : Nat))), PV.bool false]] (by kernel_rfl) (ac (by exact h1) (ac (by exact h2) (ac (by exact decide_eq_false (by omega)) (ac (by exact decide_eq_true (by omega)) (ao (by rfl))))))
theorem pc_rTargetY {c : Nat} (hc : c < 4294967296) (h : ¬ tgt c = 0) : PC Try.prog G0 35 [] [.int .u32 c] [] (.tup [bv false (tgt c), .bool true]) := by
  refine PC.of (fn := Try.f35) (c := bodyOf Try.f35) Try.func35 (by kernel_rfl) (by kernel_rfl) (by kernel_rfl) (by kernel_rfl) ?_
  have h1 := pc_parts hc
  have h2 := pc_number hc
  have hn := nd_num hc
  have e := tgt_num (c := c)
  split at e
  · contradiction
  · rename_i hh
    have hs : ¬ c / 8388608 % 2 = 1 := fun h => hh (.inl h)
    have h0 : nd (num c) ≠ 0 := fun h => hh (.inr (.inl (nd_eq_zero.1 h)))
    have h16 : nd (num c) ≤ 16 := Nat.le_of_not_lt fun h => hh (.inr (.inr h))
    rw [decide_eq_false hs] at h1
    rw [e]
    refine W.ret [((3 : Nat), Ans.call true [] [] (PV.tup [PV.int IntKind.i64 (↑(c / (16777216 : Nat)) : Int), PV.bool false, PV.int IntKind.i64 (↑(c % (8388608 : Nat)) : Int)])), ((12 : Nat), Ans.call false [] [] (PV.vec false (PV.iarr IntKind.i64 (nd (num c)) (dg (num c))))), ((18 : Nat), Ans.dec false), ((23 : Nat), Ans.dec false)] [] [PC Try.prog G0 (53 : Nat) [] [PV.int IntKind.u32 (↑c : Int)] [] (PV.tup [PV.int IntKind.i64 (↑(c / (16777216 : Nat)) : Int), PV.bool false, PV.int IntKind.i64 (↑(c % (8388608 : Nat)) : Int)]), PC Try.prog G0 (54 : Nat) [] [PV.int IntKind.u32 (↑c : Int)] [] (PV.vec false (PV.iarr IntKind.i64 (nd (num c)) (dg (num c)))), ((↑(nd (num c)) : Int) == (0 : Int)) = false, decide ((↑(nd (num c)) : Int) > (16 : Int)) = false, PV.tup [PV.vec false (PV.iarr IntKind.i64 (nd (num c)) (dg (num c))), PV.bool true] = PV.tup [PV.vec false (PV.iarr IntKind.i64 (nd (num c)) (dg (num c))), PV.bool true]] (by kernel_rfl) (ac (by exact h1) (ac (by exact h2) (ac (by exact decide_eq_false (by omega)) (ac (by exact decide_eq_false (by omega)) (ao (by with_reducible rfl))))))
end Go.Proofs
namespace Go.Proofs
open Go Go.Pe Go.Pm
set_option maxRecDepth 100000
set_option linter.unusedVariables false
def dsRb0 (nt : Bool) (t e : Nat) : DS := ⟨[(0, bv nt t), (3, .int .i64 e)], []⟩
def dsRb1 (nm : Bool) (m e i : Nat) : DS := ⟨[(3, .int .i64 e), (4, bv nm m), (5, .int .i64 i)], []⟩
def dsRb2 (nm : Bool) (m e i : Nat) : DS := ⟨[(3, .int .i64 e), (4, bv nm m), (6, .int .i64 i)], []⟩
def dsRb3 (nm : Bool) (m e i : Nat) : DS := ⟨[(3, .int .i64 e), (4, bv nm m), (7, .int .i64 i)], []⟩
theorem nd_small {m : Nat} (h : m < 16777216 * 65536) : nd m ≤ 3 := nd_le_of_le (b := 16777216 * 65536) (Nat.le_of_lt h) (by decide)
theorem W_rb3 {E : Nat} (hE : E ≤ 32) : ∀ (k i m : Nat) (nm : Bool), i + k = 8 → m < 16777216 →
    W Try.prog G0 Try.f52 [] [] (.int .u32 (((E + 1) * 16777216 + m / 2 ^ k : Nat) : Int)) (loopAt Try.f52 3) (dsRb3 nm m E i)
  | 0, i, m, nm, hk, hm => by
    have h1 := pc_bWords (na := nm) (a := m) (by have := nd_small (m := m) (by omega); omega)
    rw [Nat.pow_zero, Nat.div_one]
    refine W.ret [((1 : Nat), Ans.dec false), ((3 : Nat), Ans.val (PV.int IntKind.i64 (↑(E + (1 : Nat)) : Int))), ((6 : Nat), Ans.val (PV.int IntKind.u32 (↑(E + (1 : Nat)) : Int))), ((7 : Nat), Ans.val (PV.int IntKind.u32 (↑((16777216 : Nat) * E + (16777216 : Nat)) : Int))), ((9 : Nat), Ans.call true [] [] (PV.iarr IntKind.u64 (4 : Nat) (uw m))), ((10 : Nat), Ans.val (PV.int IntKind.u64 (↑(m % (18446744073709551616 : Nat)) : Int))), ((11 : Nat), Ans.val (PV.int IntKind.u32 (↑(m % (18446744073709551616 : Nat)) : Int))), ((12 : Nat), Ans.val (PV.int IntKind.u32 (↑((16777216 : Nat) * E + m % (18446744073709551616 : Nat) + (16777216 : Nat)) : Int)))] [] [decide ((↑i : Int) < (8 : Int)) = false, PV.int IntKind.i64 (IntKind.wrap IntKind.i64 ((↑E : Int) + (1 : Int))) = PV.int IntKind.i64 (↑(E + (1 : Nat)) : Int), PV.int IntKind.u32 (IntKind.wrap IntKind.u32 (↑(E + (1 : Nat)) : Int)) = PV.int IntKind.u32 (↑(E + (1 : Nat)) : Int), PV.int IntKind.u32 (IntKind.wrap IntKind.u32 ((↑(E + (1 : Nat)) : Int) * (16777216 : Int))) = PV.int IntKind.u32 (↑((16777216 : Nat) * E + (16777216 : Nat)) : Int), PC Try.prog G0 (26 : Nat) [] [PV.vec nm (PV.iarr IntKind.i64 (nd m) (dg m))] [] (PV.iarr IntKind.u64 (4 : Nat) (uw m)), PV.int IntKind.u64 (List.getD (uw m) (0 : Nat) (0 : Int)) = PV.int IntKind.u64 (↑(m % (18446744073709551616 : Nat)) : Int), (0 : Int) ≤ (0 : Int), (0 : Int) < (↑(4 : Nat) : Int), PV.int IntKind.u32 (IntKind.wrap IntKind.u32 (↑(m % (18446744073709551616 : Nat)) : Int)) = PV.int IntKind.u32 (↑(m % (18446744073709551616 : Nat)) : Int), PV.int IntKind.u32 (IntKind.wrap IntKind.u32 ((↑((16777216 : Nat) * E + (16777216 : Nat)) : Int) + (↑(m % (18446744073709551616 : Nat)) : Int))) = PV.int IntKind.u32 (↑((16777216 : Nat) * E + m % (18446744073709551616 : Nat) + (16777216 : Nat)) : Int), PV.int IntKind.u32 (↑((16777216 : Nat) * E + m % (18446744073709551616 : Nat) + (16777216 : Nat)) : Int) = PV.int IntKind.u32 (↑((E + (1 : Nat)) * (16777216 : Nat) + m) : Int)] (by kernel_rfl) (ac (by exact decide_eq_false (by omega)) (ac (by exact congrArg (PV.int _) (w_i64 rfl (by omega) (by omega))) (ac (by exact congrArg (PV.int _) (w_u32 rfl (by omega) (by omega))) (ac (by exact congrArg (PV.int _) (w_u32 (by omega) (by omega) (by omega))) (ac (by exact h1) (ac (by exact congrArg (PV.int _) (by rfl)) (ac (by omega) (ac (by omega) (ac (by exact congrArg (PV.int _) (w_u32 rfl (by omega) (by omega))) (ac (by exact congrArg (PV.int _) (w_u32 (by omega) (by omega) (by omega))) (ao (by exact congrArg (PV.int _) (by omega)))))))))))))
  | k + 1, i, m, nm, hk, hm => by
    have h1 := pc_bHalf (na := nm) (a := m) (by have := nd_small (m := m) (by omega); omega)
    refine W.seg [((1 : Nat), Ans.dec true), ((3 : Nat), Ans.call false [] [] (PV.vec false (PV.iarr IntKind.i64 (nd (m / (2 : Nat))) (dg (m / (2 : Nat)))))), ((6 : Nat), Ans.val (PV.int IntKind.i64 (↑(i + (1 : Nat)) : Int)))] [] (dsRb3 false (m / (2 : Nat)) E (i + (1 : Nat))) (todo' := loopAt Try.f52 (3 : Nat)) [decide ((↑i : Int) < (8 : Int)) = true, PC Try.prog G0 (75 : Nat) [] [PV.vec nm (PV.iarr IntKind.i64 (nd m) (dg m))] [] (PV.vec false (PV.iarr IntKind.i64 (nd (m / (2 : Nat))) (dg (m / (2 : Nat))))), PV.int IntKind.i64 (IntKind.wrap IntKind.i64 ((↑i : Int) + (1 : Int))) = PV.int IntKind.i64 (↑(i + (1 : Nat)) : Int), PV.int IntKind.i64 (↑E : Int) = PV.int IntKind.i64 (↑E : Int), PV.vec false (PV.iarr IntKind.i64 (nd (m / (2 : Nat))) (dg (m / (2 : Nat)))) = PV.vec false (PV.iarr IntKind.i64 (nd (m / (2 : Nat))) (dg (m / (2 : Nat)))), PV.int IntKind.i64 (↑(i + (1 : Nat)) : Int) = PV.int IntKind.i64 (↑(i + (1 : Nat)) : Int)] (by kernel_rfl) (ac (by exact decide_eq_true (by omega)) (ac (by exact h1) (ac (by exact congrArg (PV.int _) (w_i64 rfl (by omega) (by omega))) (ac (by with_reducible rfl) (ac (by with_reducible rfl) (ao (by with_reducible rfl))))))) ?_
    have := W_rb3 hE k (i + 1) (m / 2) false (by omega) (by omega)
    rw [Nat.div_div_eq_div_mul, ← Nat.pow_succ'] at this
    exact this
theorem W_rb2 {E : Nat} (hE : E ≤ 32) : ∀ (k i m : Nat) (nm : Bool), (i + k = 3 ∨ (k = 0 ∧ 3 ≤ i)) → i ≤ 32 → m * 256 ^ k < 16777216 →
    W Try.prog G0 Try.f52 [] [] (.int .u32 ((cbitsOf E (m * 256 ^ k) : Nat) : Int)) (loopAt Try.f52 2) (dsRb2 nm m E i)
  | 0, i, m, nm, hk, hi, hm => by
    rw [Nat.pow_zero, Nat.mul_one] at hm ⊢
    have hn := nd_small (m := m) (by omega)
    have h0 := pc_bLess (na := nm) (nb := false) (a := m) (b := 8388608) (by omega) (by decide)
    have e0 : bv false 8388608 = .vec false (.iarr .i64 2 [0, 128]) := by rfl
    rw [e0] at h0
    have h1 := pc_bWords (na := nm) (a := m) (by omega)
    by_cases h : m < 8388608
    · rw [decide_eq_true h] at h0
      refine W.ret [((1 : Nat), Ans.dec false), ((4 : Nat), Ans.call true [] [] (PV.bool true)), ((7 : Nat), Ans.val (PV.int IntKind.u32 (↑E : Int))), ((8 : Nat), Ans.val (PV.int IntKind.u32 (↑((16777216 : Nat) * E) : Int))), ((10 : Nat), Ans.call true [] [] (PV.iarr IntKind.u64 (4 : Nat) (uw m))), ((11 : Nat), Ans.val (PV.int IntKind.u64 (↑(m % (18446744073709551616 : Nat)) : Int))), ((12 : Nat), Ans.val (PV.int IntKind.u32 (↑(m % (18446744073709551616 : Nat)) : Int))), ((13 : Nat), Ans.val (PV.int IntKind.u32 (↑((16777216 : Nat) * E + m % (18446744073709551616 : Nat)) : Int)))] [] [decide ((↑i : Int) < (3 : Int)) = false, (2 : Nat) ≤ (2 : Nat), PC Try.prog G0 (36 : Nat) [] [PV.vec nm (PV.iarr IntKind.i64 (nd m) (dg m)), PV.vec false (PV.iarr IntKind.i64 (2 : Nat) [(0 : Int), (128 : Int)])] [] (PV.bool true), PV.int IntKind.u32 (IntKind.wrap IntKind.u32 (↑E : Int)) = PV.int IntKind.u32 (↑E : Int), PV.int IntKind.u32 (IntKind.wrap IntKind.u32 ((↑E : Int) * (16777216 : Int))) = PV.int IntKind.u32 (↑((16777216 : Nat) * E) : Int), PC Try.prog G0 (26 : Nat) [] [PV.vec nm (PV.iarr IntKind.i64 (nd m) (dg m))] [] (PV.iarr IntKind.u64 (4 : Nat) (uw m)), PV.int IntKind.u64 (List.getD (uw m) (0 : Nat) (0 : Int)) = PV.int IntKind.u64 (↑(m % (18446744073709551616 : Nat)) : Int), (0 : Int) ≤ (0 : Int), (0 : Int) < (↑(4 : Nat) : Int), PV.int IntKind.u32 (IntKind.wrap IntKind.u32 (↑(m % (18446744073709551616 : Nat)) : Int)) = PV.int IntKind.u32 (↑(m % (18446744073709551616 : Nat)) : Int), PV.int IntKind.u32 (IntKind.wrap IntKind.u32 ((↑((16777216 : Nat) * E) : Int) + (↑(m % (18446744073709551616 : Nat)) : Int))) = PV.int IntKind.u32 (↑((16777216 : Nat) * E + m % (18446744073709551616 : Nat)) : Int), PV.int IntKind.u32 (↑((16777216 : Nat) * E + m % (18446744073709551616 : Nat)) : Int) = PV.int IntKind.u32 (↑(cbitsOf E m) : Int)] (by kernel_rfl) (ac (by exact decide_eq_false (by omega)) (ac (by omega) (ac (by exact h0) (ac (by exact congrArg (PV.int _) (w_u32 rfl (by omega) (by omega))) (ac (by exact congrArg (PV.int _) (w_u32 (by omega) (by omega) (by omega))) (ac (by exact h1) (ac (by exact congrArg (PV.int _) (by rfl)) (ac (by omega) (ac (by omega) (ac (by exact congrArg (PV.int _) (w_u32 rfl (by omega) (by omega))) (ac (by exact congrArg (PV.int _) (w_u32 rfl (by omega) (by omega))) (ao ?_))))))))))))
      refine congrArg (fun x : Nat => PV.int .u32 (x : Int)) ?_
      unfold cbitsOf
      rw [if_neg (by omega)]
      omega
    · rw [decide_eq_false h] at h0
      refine W.seg [((1 : Nat), Ans.dec false), ((4 : Nat), Ans.call true [] [] (PV.bool false))] [] (dsRb3 nm m E (0 : Nat)) (todo' := loopAt Try.f52 (3 : Nat)) [decide ((↑i : Int) < (3 : Int)) = false, (2 : Nat) ≤ (2 : Nat), PC Try.prog G0 (36 : Nat) [] [PV.vec nm (PV.iarr IntKind.i64 (nd m) (dg m)), PV.vec false (PV.iarr IntKind.i64 (2 : Nat) [(0 : Int), (128 : Int)])] [] (PV.bool false), PV.int IntKind.i64 (↑E : Int) = PV.int IntKind.i64 (↑E : Int), PV.vec nm (PV.iarr IntKind.i64 (nd m) (dg m)) = PV.vec nm (PV.iarr IntKind.i64 (nd m) (dg m)), PV.int IntKind.i64 (0 : Int) = PV.int IntKind.i64 (↑(0 : Nat) : Int)] (by kernel_rfl) (ac (by exact decide_eq_false (by omega)) (ac (by omega) (ac (by exact h0) (ac (by with_reducible rfl) (ac (by with_reducible rfl) (ao (by exact congrArg (PV.int _) (by omega)))))))) ?_
      have := W_rb3 hE 8 0 m nm (by omega) hm
      unfold cbitsOf
      rw [if_pos (by omega)]
      exact this
  | k + 1, i, m, nm, hk, hi, hm => by
    have hle : m ≤ m * 256 ^ (k + 1) := Nat.le_mul_of_pos_right m (Nat.pow_pos (by omega))
    have hn := nd_small (m := m) (by omega)
    have h1 := pc_bMul (na := nm) (nb := false) (a := m) (b := 256) (by omega) (by decide)
    have e0 : bv false 256 = .vec false (.iarr .i64 1 [256]) := by rfl
    rw [e0] at h1
    refine W.seg [((1 : Nat), Ans.dec true), ((4 : Nat), Ans.call false [] [] (PV.vec false (PV.iarr IntKind.i64 (nd (m * (256 : Nat))) (dg (m * (256 : Nat)))))), ((7 : Nat), Ans.val (PV.int IntKind.i64 (↑(i + (1 : Nat)) : Int)))] [] (dsRb2 false (m * (256 : Nat)) E (i + (1 : Nat))) (todo' := loopAt Try.f52 (2 : Nat)) [decide ((↑i : Int) < (3 : Int)) = true, (1 : Nat) ≤ (1 : Nat), PC Try.prog G0 (76 : Nat) [] [PV.vec nm (PV.iarr IntKind.i64 (nd m) (dg m)), PV.vec false (PV.iarr IntKind.i64 (1 : Nat) [(256 : Int)])] [] (PV.vec false (PV.iarr IntKind.i64 (nd (m * (256 : Nat))) (dg (m * (256 : Nat))))), PV.int IntKind.i64 (IntKind.wrap IntKind.i64 ((↑i : Int) + (1 : Int))) = PV.int IntKind.i64 (↑(i + (1 : Nat)) : Int), PV.int IntKind.i64 (↑E : Int) = PV.int IntKind.i64 (↑E : Int), PV.vec false (PV.iarr IntKind.i64 (nd (m * (256 : Nat))) (dg (m * (256 : Nat)))) = PV.vec false (PV.iarr IntKind.i64 (nd (m * (256 : Nat))) (dg (m * (256 : Nat)))), PV.int IntKind.i64 (↑(i + (1 : Nat)) : Int) = PV.int IntKind.i64 (↑(i + (1 : Nat)) : Int)] (by kernel_rfl) (ac (by exact decide_eq_true (by omega)) (ac (by omega) (ac (by exact h1) (ac (by exact congrArg (PV.int _) (w_i64 rfl (by omega) (by omega))) (ac (by with_reducible rfl) (ac (by with_reducible rfl) (ao (by with_reducible rfl)))))))) ?_
    have e : m * 256 ^ (k + 1) = m * 256 * 256 ^ k := by rw [Nat.pow_succ, Nat.mul_comm (256 ^ k), Nat.mul_assoc]
    rw [e] at hm ⊢
    exact W_rb2 hE k (i + 1) (m * 256) false (by omega) (by omega) hm
theorem W_rb1 {E : Nat} (hE : E ≤ 32) : ∀ (k i m : Nat) (nm : Bool), i + k = 8 * (E - 3) → nd m ≤ 1000 → m / 2 ^ k * 256 ^ (3 - E) < 16777216 →
    W Try.prog G0 Try.f52 [] [] (.int .u32 ((cbitsOf E (m / 2 ^ k * 256 ^ (3 - E)) : Nat) : Int)) (loopAt Try.f52 1) (dsRb1 nm m E i)
  | 0, i, m, nm, hk, hm, hlt => by
    rw [Nat.pow_zero, Nat.div_one] at hlt ⊢
    refine W.seg [((2 : Nat), Ans.val (PV.int IntKind.i64 ((↑E : Int) - (3 : Int)))), ((3 : Nat), Ans.val (PV.int IntKind.i64 ((8 : Int) * (↑E : Int) - (24 : Int)))), ((4 : Nat), Ans.dec false)] [] (dsRb2 nm m E E) (todo' := loopAt Try.f52 (2 : Nat)) [PV.int IntKind.i64 (IntKind.wrap IntKind.i64 ((↑E : Int) - (3 : Int))) = PV.int IntKind.i64 ((↑E : Int) - (3 : Int)), PV.int IntKind.i64 (IntKind.wrap IntKind.i64 ((8 : Int) * ((↑E : Int) - (3 : Int)))) = PV.int IntKind.i64 ((8 : Int) * (↑E : Int) - (24 : Int)), decide ((↑i : Int) < (8 : Int) * (↑E : Int) - (24 : Int)) = false, PV.int IntKind.i64 (↑E : Int) = PV.int IntKind.i64 (↑E : Int), PV.vec nm (PV.iarr IntKind.i64 (nd m) (dg m)) = PV.vec nm (PV.iarr IntKind.i64 (nd m) (dg m)), PV.int IntKind.i64 (↑E : Int) = PV.int IntKind.i64 (↑E : Int)] (by kernel_rfl) (ac (by exact congrArg (PV.int _) (w_i64 rfl (by omega) (by omega))) (ac (by exact congrArg (PV.int _) (w_i64 (by omega) (by omega) (by omega))) (ac (by exact decide_eq_false (by omega)) (ac (by with_reducible rfl) (ac (by with_reducible rfl) (ao (by with_reducible rfl))))))) ?_
    exact W_rb2 hE (3 - E) E m nm (by omega) hE hlt
  | k + 1, i, m, nm, hk, hm, hlt => by
    have h1 := pc_bHalf (na := nm) (a := m) (by omega)
    refine W.seg [((2 : Nat), Ans.val (PV.int IntKind.i64 ((↑E : Int) - (3 : Int)))), ((3 : Nat), Ans.val (PV.int IntKind.i64 ((8 : Int) * (↑E : Int) - (24 : Int)))), ((4 : Nat), Ans.dec true), ((6 : Nat), Ans.call false [] [] (PV.vec false (PV.iarr IntKind.i64 (nd (m / (2 : Nat))) (dg (m / (2 : Nat)))))), ((9 : Nat), Ans.val (PV.int IntKind.i64 (↑(i + (1 : Nat)) : Int)))] [] (dsRb1 false (m / (2 : Nat)) E (i + (1 : Nat))) (todo' := loopAt Try.f52 (1 : Nat)) [PV.int IntKind.i64 (IntKind.wrap IntKind.i64 ((↑E : Int) - (3 : Int))) = PV.int IntKind.i64 ((↑E : Int) - (3 : Int)), PV.int IntKind.i64 (IntKind.wrap IntKind.i64 ((8 : Int) * ((↑E : Int) - (3 : Int)))) = PV.int IntKind.i64 ((8 : Int) * (↑E : Int) - (24 : Int)), decide ((↑i : Int) < (8 : Int) * (↑E : Int) - (24 : Int)) = true, PC Try.prog G0 (75 : Nat) [] [PV.vec nm (PV.iarr IntKind.i64 (nd m) (dg m))] [] (PV.vec false (PV.iarr IntKind.i64 (nd (m / (2 : Nat))) (dg (m / (2 : Nat))))), PV.int IntKind.i64 (IntKind.wrap IntKind.i64 ((↑i : Int) + (1 : Int))) = PV.int IntKind.i64 (↑(i + (1 : Nat)) : Int), PV.int IntKind.i64 (↑E : Int) = PV.int IntKind.i64 (↑E : Int), PV.vec false (PV.iarr IntKind.i64 (nd (m / (2 : Nat))) (dg (m / (2 : Nat)))) = PV.vec false (PV.iarr IntKind.i64 (nd (m / (2 : Nat))) (dg (m / (2 : Nat)))), PV.int IntKind.i64 (↑(i + (1 : Nat)) : Int) = PV.int IntKind.i64 (↑(i + (1 : Nat)) : Int)] (by kernel_rfl) (ac (by exact congrArg (PV.int _) (w_i64 rfl (by omega) (by omega))) (ac (by exact congrArg (PV.int _) (w_i64 (by omega) (by omega) (by omega))) (ac (by exact decide_eq_true (by omega)) (ac (by exact h1) (ac (by exact congrArg (PV.int _) (w_i64 rfl (by omega) (by omega))) (ac (by with_reducible rfl) (ac (by with_reducible rfl) (ao (by with_reducible rfl))))))))) ?_
    have e : m / 2 ^ (k + 1) = m / 2 / 2 ^ k := by rw [Nat.pow_succ', Nat.div_div_eq_div_mul]
    rw [e] at hlt ⊢
    exact W_rb1 hE k (i + 1) (m / 2) false (by omega) (nd_le_of_le (Nat.div_le_self _ _) hm) hlt
theorem W_rb0 {nt : Bool} {t E : Nat} (hE : E = (blen t + 7) / 8) (hE2 : E ≤ 32) (ht : nd t ≤ 1000) (hlt : t / 2 ^ (8 * (E - 3)) * 256 ^ (3 - E) < 16777216) : ∀ (k e : Nat), e + k = E →
    W Try.prog G0 Try.f52 [] [] (.int .u32 ((cbitsOf E (t / 2 ^ (8 * (E - 3)) * 256 ^ (3 - E)) : Nat) : Int)) (loopAt Try.f52 0) (dsRb0 nt t e)
  | 0, e, hk => by
    have he : e = E := by omega
    subst he
    by_cases h32 : e < 32
    · have h1 := pc_bPow (k := 8 * e) (by omega)
      have h2 := pc_bLess (na := nt) (nb := false) (a := t) (b := 2 ^ (8 * e)) (by omega) (by rw [nd_pow]; omega)
      have hd : t < 2 ^ (8 * e) := blen_le.1 (by omega)
      rw [decide_eq_true hd] at h2
      refine W.seg [((1 : Nat), Ans.dec true), ((5 : Nat), Ans.val (PV.int IntKind.i64 (↑((8 : Nat) * e) : Int))), ((6 : Nat), Ans.call false [] [] (PV.vec false (PV.iarr IntKind.i64 (nd ((2 : Nat) ^ ((8 : Nat) * e))) (dg ((2 : Nat) ^ ((8 : Nat) * e)))))), ((7 : Nat), Ans.call true [] [] (PV.bool true))] [] (dsRb1 nt t e (0 : Nat)) (todo' := loopAt Try.f52 (1 : Nat)) [decide ((↑e : Int) < (32 : Int)) = true, PV.int IntKind.i64 (IntKind.wrap IntKind.i64 ((8 : Int) * (↑e : Int))) = PV.int IntKind.i64 (↑((8 : Nat) * e) : Int), PC Try.prog G0 (63 : Nat) [] [PV.int IntKind.i64 (↑((8 : Nat) * e) : Int)] [] (PV.vec false (PV.iarr IntKind.i64 (nd ((2 : Nat) ^ ((8 : Nat) * e))) (dg ((2 : Nat) ^ ((8 : Nat) * e))))), PC Try.prog G0 (36 : Nat) [] [PV.vec nt (PV.iarr IntKind.i64 (nd t) (dg t)), PV.vec false (PV.iarr IntKind.i64 (nd ((2 : Nat) ^ ((8 : Nat) * e))) (dg ((2 : Nat) ^ ((8 : Nat) * e))))] [] (PV.bool true), PV.int IntKind.i64 (↑e : Int) = PV.int IntKind.i64 (↑e : Int), PV.vec nt (PV.iarr IntKind.i64 (nd t) (dg t)) = PV.vec nt (PV.iarr IntKind.i64 (nd t) (dg t)), PV.int IntKind.i64 (0 : Int) = PV.int IntKind.i64 (↑(0 : Nat) : Int)] (by kernel_rfl) (ac (by exact decide_eq_true (by omega)) (ac (by exact congrArg (PV.int _) (w_i64 rfl (by omega) (by omega))) (ac (by exact h1) (ac (by exact h2) (ac (by with_reducible rfl) (ac (by with_reducible rfl) (ao (by exact congrArg (PV.int _) (by omega))))))))) ?_
      exact W_rb1 hE2 _ 0 t nt (Nat.zero_add _) ht hlt
    · refine W.seg [((1 : Nat), Ans.dec false)] [] (dsRb1 nt t e (0 : Nat)) (todo' := loopAt Try.f52 (1 : Nat)) [decide ((↑e : Int) < (32 : Int)) = false, PV.int IntKind.i64 (↑e : Int) = PV.int IntKind.i64 (↑e : Int), PV.vec nt (PV.iarr IntKind.i64 (nd t) (dg t)) = PV.vec nt (PV.iarr IntKind.i64 (nd t) (dg t)), PV.int IntKind.i64 (0 : Int) = PV.int IntKind.i64 (↑(0 : Nat) : Int)] (by kernel_rfl) (ac (by exact decide_eq_false (by omega)) (ac (by with_reducible rfl) (ac (by with_reducible rfl) (ao (by exact congrArg (PV.int _) (by omega)))))) ?_
      exact W_rb1 hE2 _ 0 t nt (Nat.zero_add _) ht hlt
  | k + 1, e, hk => by
    have h1 := pc_bPow (k := 8 * e) (by omega)
    have h2 := pc_bLess (na := nt) (nb := false) (a := t) (b := 2 ^ (8 * e)) (by omega) (by rw [nd_pow]; omega)
    have hd : ¬ t < 2 ^ (8 * e) := fun h => by have := blen_le.2 h; omega
    rw [decide_eq_false hd] at h2
    refine W.seg [((1 : Nat), Ans.dec true), ((5 : Nat), Ans.val (PV.int IntKind.i64 (↑((8 : Nat) * e) : Int))), ((6 : Nat), Ans.call false [] [] (PV.vec false (PV.iarr IntKind.i64 (nd ((2 : Nat) ^ ((8 : Nat) * e))) (dg ((2 : Nat) ^ ((8 : Nat) * e)))))), ((7 : Nat), Ans.call true [] [] (PV.bool false)), ((11 : Nat), Ans.val (PV.int IntKind.i64 (↑(e + (1 : Nat)) : Int)))] [] (dsRb0 nt t (e + (1 : Nat))) (todo' := loopAt Try.f52 (0 : Nat)) [decide ((↑e : Int) < (32 : Int)) = true, PV.int IntKind.i64 (IntKind.wrap IntKind.i64 ((8 : Int) * (↑e : Int))) = PV.int IntKind.i64 (↑((8 : Nat) * e) : Int), PC Try.prog G0 (63 : Nat) [] [PV.int IntKind.i64 (↑((8 : Nat) * e) : Int)] [] (PV.vec false (PV.iarr IntKind.i64 (nd ((2 : Nat) ^ ((8 : Nat) * e))) (dg ((2 : Nat) ^ ((8 : Nat) * e))))), PC Try.prog G0 (36 : Nat) [] [PV.vec nt (PV.iarr IntKind.i64 (nd t) (dg t)), PV.vec false (PV.iarr IntKind.i64 (nd ((2 : Nat) ^ ((8 : Nat) * e))) (dg ((2 : Nat) ^ ((8 : Nat) * e))))] [] (PV.bool false), PV.int IntKind.i64 (IntKind.wrap IntKind.i64 ((↑e : Int) + (1 : Int))) = PV.int IntKind.i64 (↑(e + (1 : Nat)) : Int), PV.vec nt (PV.iarr IntKind.i64 (nd t) (dg t)) = PV.vec nt (PV.iarr IntKind.i64 (nd t) (dg t)), PV.int IntKind.i64 (↑(e + (1 : Nat)) : Int) = PV.int IntKind.i64 (↑(e + (1 : Nat)) : Int)] (by kernel_rfl) (ac (by exact decide_eq_true (by omega)) (ac (by exact congrArg (PV.int _) (w_i64 rfl (by omega) (by omega))) (ac (by exact h1) (ac (by exact h2) (ac (by exact congrArg (PV.int _) (w_i64 rfl (by omega) (by omega))) (ac (by with_reducible rfl) (ao (by with_reducible rfl)))))))) ?_
    exact W_rb0 hE hE2 ht hlt k (e + 1) (by omega)
theorem pc_rBits5 {nt : Bool} {t : Nat} (ht : t < W256) : PC Try.prog G0 52 [] [bv nt t] [] (.int .u32 ((cbits t : Nat) : Int)) := by
  refine PC.of (fn := Try.f52) (c := bodyOf Try.f52) Try.func52 (by kernel_rfl) (by kernel_rfl) (by kernel_rfl) (by kernel_rfl) ?_
  have hbl : blen t ≤ 256 := blen_le.2 (Nat.lt_of_lt_of_le ht (by decide))
  have hnd : nd t ≤ 16 := nd_W256.2 ht
  have hlt := cm_lt t
  have e : t * 2 ^ (8 * (3 - (blen t + 7) / 8)) / 2 ^ (8 * ((blen t + 7) / 8 - 3)) = t / 2 ^ (8 * ((blen t + 7) / 8 - 3)) * 256 ^ (3 - (blen t + 7) / 8) := by
    rw [show (256 : Nat) = 2 ^ 8 by decide, ← Nat.pow_mul]
    by_cases h3 : (blen t + 7) / 8 ≤ 3
    · rw [show 8 * ((blen t + 7) / 8 - 3) = 0 by omega, Nat.pow_zero, Nat.div_one, Nat.div_one]
    · rw [show 8 * (3 - (blen t + 7) / 8) = 0 by omega, Nat.pow_zero, Nat.mul_one, Nat.mul_one]
  unfold cbits
  rw [e] at hlt ⊢
  refine W.seg [] [] (dsRb0 nt t (0 : Nat)) (todo' := loopAt Try.f52 (0 : Nat)) [PV.vec nt (PV.iarr IntKind.i64 (nd t) (dg t)) = PV.vec nt (PV.iarr IntKind.i64 (nd t) (dg t)), PV.int IntKind.i64 (0 : Int) = PV.int IntKind.i64 (↑(0 : Nat) : Int)] (by kernel_rfl) (ac (by with_reducible rfl) (ao (by exact congrArg (PV.int _) (by omega)))) ?_
  exact W_rb0 rfl (by omega) (by omega) hlt _ 0 (Nat.zero_add _)
end Go.Proofs
namespace Go.Proofs
open Go Go.Pe Go.Pm
set_option maxRecDepth 100000
set_option linter.unusedVariables false
/-- a header -/
structure Hd where
  ver : Nat
  prev : List Int
  root : List Int
  time : Nat
  bits : Nat
  nonce : Nat
def Hd.pv (h : Hd) : PV := .st 68 [.int .u32 h.ver, .iarr .u8 32 h.prev, .iarr .u8 32 h.root, .int .u32 h.time, .int .u32 h.bits, .int .u32 h.nonce]
structure Hd.Ok (h : Hd) : Prop where
  ver : h.ver < 4294967296
  time : h.time < 4294967296
  bits : h.bits < 4294967296
  nonce : h.nonce < 4294967296
  prev : h.prev.length = 32
  root : h.root.length = 32
  prevB : ∀ x ∈ h.prev, 0 ≤ x ∧ x ≤ 255
  rootB : ∀ x ∈ h.root, 0 ≤ x ∧ x ≤ 255
/-- params -/
structure Prm where
  lim : Nat
  per : Int
  sp : Int
  fu : Int
  cap : Int
  gen : Hd
  sum : Nat
def Prm.pv (p : Prm) : PV := .st 77 [.int .u32 p.lim, .int .i64 p.per, .int .i64 p.sp, .int .i64 p.fu, .int .i64 p.cap, p.gen.pv, .iarr .u64 4 (uw p.sum)]
def Prm.rpv (p : Prm) : PV := .st 74 [.int .u32 p.lim, .int .i64 p.per, .int .i64 p.sp, .int .i64 p.fu, .int .i64 p.cap, p.gen.pv, bv false p.sum]
structure Prm.Ok (p : Prm) : Prop where
  lim : p.lim < 4294967296
  gen : p.gen.Ok
  sum : p.sum < W256
/-- may they be? -/
structure Prm.May (p : Prm) : Prop where
  c1 : canon p.lim = true
  c2 : canon p.gen.bits = true
  le : tgt p.gen.bits ≤ tgt p.lim
  per : 1 ≤ p.per ∧ p.per ≤ 65536
  sp : 1 ≤ p.sp ∧ p.sp ≤ 65536
  fu : 0 ≤ p.fu ∧ p.fu ≤ 4294967296
  cap : 1 ≤ p.cap ∧ p.cap ≤ 4096
theorem pc_withinT {x lo hi : Int} (h : lo ≤ x ∧ x ≤ hi) : PC Try.prog G0 33 [] [.int .i64 x, .int .i64 lo, .int .i64 hi] [] (.bool true) := by
  refine PC.of (fn := Try.f33) (c := bodyOf Try.f33) Try.func33 (by kernel_rfl) (by kernel_rfl) (by kernel_rfl) (by kernel_rfl) ?_
  refine W.ret [((3 : Nat), Ans.dec true), ((7 : Nat), Ans.dec true)] [] [decide (x ≥ lo) = true, decide (x ≤ hi) = true, PV.bool true = PV.bool true] (by kernel_rfl) (ac (by exact decide_eq_true (by omega)) (ac (by exact decide_eq_true (by omega)) (ao (by with_reducible rfl))))
theorem pc_withinF {x lo hi : Int} (h : ¬ (lo ≤ x ∧ x ≤ hi)) : PC Try.prog G0 33 [] [.int .i64 x, .int .i64 lo, .int .i64 hi] [] (.bool false) := by
  refine PC.of (fn := Try.f33) (c := bodyOf Try.f33) Try.func33 (by kernel_rfl) (by kernel_rfl) (by kernel_rfl) (by kernel_rfl) ?_
  by_cases h1 : lo ≤ x
  · refine W.ret [((3 : Nat), Ans.dec true), ((7 : Nat), Ans.dec false)] [] [decide (x ≥ lo) = true, decide (x ≤ hi) = false, PV.bool false = PV.bool false] (by kernel_rfl) (ac (by exact decide_eq_true (by omega)) (ac (by exact decide_eq_false (by omega)) (ao (by with_reducible rfl))))
  · refine W.ret [((3 : Nat), Ans.dec false)] [] [decide (x ≥ lo) = false, PV.bool false = PV.bool false] (by kernel_rfl) (ac (by exact decide_eq_false (by omega)) (ao (by with_reducible rfl)))
theorem pc_targetE {c : Nat} (hc : c < 4294967296) : ∃ e : Int, PC Try.prog G0 30 [] [.int .u32 c] [] (.tup [.iarr .u64 4 (uw (tgt c)), .int .i64 e]) := ⟨_, pc_target hc⟩
theorem cmpN_gt {a b : Nat} (h : b < a) : cmpN a b = 1 := by unfold cmpN; rw [if_neg (by omega), if_pos h]
theorem cmpN_le {a b : Nat} (h : a ≤ b) : ∃ z : Int, cmpN a b = z ∧ z ≤ 0 := ⟨_, rfl, by unfold cmpN; split <;> (try split) <;> omega⟩
set_option maxHeartbeats 4000000 in
theorem pc_checkY {p : Prm} (ho : p.Ok) (h : p.May) : PC Try.prog G0 17 [] [p.pv] [] (.int .i64 0) := by
  refine PC.of (fn := Try.f17) (c := bodyOf Try.f17) Try.func17 (by kernel_rfl) (by kernel_rfl) (by kernel_rfl) (by kernel_rfl) ?_
  obtain ⟨e1, g1⟩ := pc_targetE ho.lim
  obtain ⟨e2, g2⟩ := pc_targetE ho.gen.bits
  have g3 := pc_canon ho.lim
  have g4 := pc_canon ho.gen.bits
  rw [h.c1] at g3
  rw [h.c2] at g4
  have g5 := pc_wCmp (tgt_lt p.gen.bits) (tgt_lt p.lim)
  obtain ⟨z, hz, hz0⟩ := cmpN_le h.le
  rw [hz] at g5
  have g6 := pc_withinT h.per
  have g7 := pc_withinT h.sp
  have g8 := pc_withinT h.fu
  have g9 := pc_withinT h.cap
  refine W.ret [((4 : Nat), Ans.call true [] [] (PV.tup [PV.iarr IntKind.u64 (4 : Nat) (uw (tgt (Prm.lim p))), PV.int IntKind.i64 e1])), ((14 : Nat), Ans.call true [] [] (PV.tup [PV.iarr IntKind.u64 (4 : Nat) (uw (tgt (Hd.bits (Prm.gen p)))), PV.int IntKind.i64 e2])), ((23 : Nat), Ans.call true [] [] (PV.bool true)), ((29 : Nat), Ans.call true [] [] (PV.bool true)), ((34 : Nat), Ans.call true [] [] (PV.int IntKind.i64 z)), ((35 : Nat), Ans.dec false), ((39 : Nat), Ans.call true [] [] (PV.bool true)), ((44 : Nat), Ans.call true [] [] (PV.bool true)), ((49 : Nat), Ans.call true [] [] (PV.bool true)), ((54 : Nat), Ans.call true [] [] (PV.bool true))] [] [PC Try.prog G0 (30 : Nat) [] [PV.int IntKind.u32 (↑(Prm.lim p) : Int)] [] (PV.tup [PV.iarr IntKind.u64 (4 : Nat) (uw (tgt (Prm.lim p))), PV.int IntKind.i64 e1]), PC Try.prog G0 (30 : Nat) [] [PV.int IntKind.u32 (↑(Hd.bits (Prm.gen p)) : Int)] [] (PV.tup [PV.iarr IntKind.u64 (4 : Nat) (uw (tgt (Hd.bits (Prm.gen p)))), PV.int IntKind.i64 e2]), PC Try.prog G0 (31 : Nat) [] [PV.int IntKind.u32 (↑(Prm.lim p) : Int)] [] (PV.bool true), PC Try.prog G0 (31 : Nat) [] [PV.int IntKind.u32 (↑(Hd.bits (Prm.gen p)) : Int)] [] (PV.bool true), PC Try.prog G0 (32 : Nat) [] [PV.iarr IntKind.u64 (4 : Nat) (uw (tgt (Hd.bits (Prm.gen p)))), PV.iarr IntKind.u64 (4 : Nat) (uw (tgt (Prm.lim p)))] [] (PV.int IntKind.i64 z), decide (z > (0 : Int)) = false, PC Try.prog G0 (33 : Nat) [] [PV.int IntKind.i64 (Prm.per p), PV.int IntKind.i64 (1 : Int), PV.int IntKind.i64 (65536 : Int)] [] (PV.bool true), PC Try.prog G0 (33 : Nat) [] [PV.int IntKind.i64 (Prm.sp p), PV.int IntKind.i64 (1 : Int), PV.int IntKind.i64 (65536 : Int)] [] (PV.bool true), PC Try.prog G0 (33 : Nat) [] [PV.int IntKind.i64 (Prm.fu p), PV.int IntKind.i64 (0 : Int), PV.int IntKind.i64 (4294967296 : Int)] [] (PV.bool true), PC Try.prog G0 (33 : Nat) [] [PV.int IntKind.i64 (Prm.cap p), PV.int IntKind.i64 (1 : Int), PV.int IntKind.i64 (4096 : Int)] [] (PV.bool true), PV.int IntKind.i64 (0 : Int) = PV.int IntKind.i64 (0 : Int)] (by kernel_rfl) (ac (by exact g1) (ac (by exact g2) (ac (by exact g3) (ac (by exact g4) (ac (by exact g5) (ac (by exact decide_eq_false (by omega)) (ac (by exact g6) (ac (by exact g7) (ac (by exact g8) (ac (by exact g9) (ao (by with_reducible rfl))))))))))))
set_option maxHeartbeats 4000000 in
theorem pc_checkN {p : Prm} (ho : p.Ok) (h : ¬ p.May) : PC Try.prog G0 17 [] [p.pv] [] (.int .i64 1) := by
  refine PC.of (fn := Try.f17) (c := bodyOf Try.f17) Try.func17 (by kernel_rfl) (by kernel_rfl) (by kernel_rfl) (by kernel_rfl) ?_
  obtain ⟨e1, g1⟩ := pc_targetE ho.lim
  obtain ⟨e2, g2⟩ := pc_targetE ho.gen.bits
  have g3 := pc_canon ho.lim
  have g4 := pc_canon ho.gen.bits
  have g5 := pc_wCmp (tgt_lt p.gen.bits) (tgt_lt p.lim)
  by_cases c1 : canon p.lim = true
  · rw [c1] at g3
    by_cases c2 : canon p.gen.bits = true
    · rw [c2] at g4
      by_cases c3 : tgt p.gen.bits ≤ tgt p.lim
      · obtain ⟨z, hz, hz0⟩ := cmpN_le c3
        rw [hz] at g5
        by_cases c4 : 1 ≤ p.per ∧ p.per ≤ 65536
        · have g6 := pc_withinT c4
          by_cases c5 : 1 ≤ p.sp ∧ p.sp ≤ 65536
          · have g7 := pc_withinT c5
            by_cases c6 : 0 ≤ p.fu ∧ p.fu ≤ 4294967296
            · have g8 := pc_withinT c6
              by_cases c7 : 1 ≤ p.cap ∧ p.cap ≤ 4096
              · exact absurd ⟨c1, c2, c3, c4, c5, c6, c7⟩ h
              · have g9 := pc_withinF c7
                refine W.ret [((4 : Nat), Ans.call true [] [] (PV.tup [PV.iarr IntKind.u64 (4 : Nat) (uw (tgt (Prm.lim p))), PV.int IntKind.i64 e1])), ((14 : Nat), Ans.call true [] [] (PV.tup [PV.iarr IntKind.u64 (4 : Nat) (uw (tgt (Hd.bits (Prm.gen p)))), PV.int IntKind.i64 e2])), ((23 : Nat), Ans.call true [] [] (PV.bool true)), ((29 : Nat), Ans.call true [] [] (PV.bool true)), ((34 : Nat), Ans.call true [] [] (PV.int IntKind.i64 z)), ((35 : Nat), Ans.dec false), ((39 : Nat), Ans.call true [] [] (PV.bool true)), ((44 : Nat), Ans.call true [] [] (PV.bool true)), ((49 : Nat), Ans.call true [] [] (PV.bool true)), ((54 : Nat), Ans.call true [] [] (PV.bool false))] [] [PC Try.prog G0 (30 : Nat) [] [PV.int IntKind.u32 (↑(Prm.lim p) : Int)] [] (PV.tup [PV.iarr IntKind.u64 (4 : Nat) (uw (tgt (Prm.lim p))), PV.int IntKind.i64 e1]), PC Try.prog G0 (30 : Nat) [] [PV.int IntKind.u32 (↑(Hd.bits (Prm.gen p)) : Int)] [] (PV.tup [PV.iarr IntKind.u64 (4 : Nat) (uw (tgt (Hd.bits (Prm.gen p)))), PV.int IntKind.i64 e2]), PC Try.prog G0 (31 : Nat) [] [PV.int IntKind.u32 (↑(Prm.lim p) : Int)] [] (PV.bool true), PC Try.prog G0 (31 : Nat) [] [PV.int IntKind.u32 (↑(Hd.bits (Prm.gen p)) : Int)] [] (PV.bool true), PC Try.prog G0 (32 : Nat) [] [PV.iarr IntKind.u64 (4 : Nat) (uw (tgt (Hd.bits (Prm.gen p)))), PV.iarr IntKind.u64 (4 : Nat) (uw (tgt (Prm.lim p)))] [] (PV.int IntKind.i64 z), decide (z > (0 : Int)) = false, PC Try.prog G0 (33 : Nat) [] [PV.int IntKind.i64 (Prm.per p), PV.int IntKind.i64 (1 : Int), PV.int IntKind.i64 (65536 : Int)] [] (PV.bool true), PC Try.prog G0 (33 : Nat) [] [PV.int IntKind.i64 (Prm.sp p), PV.int IntKind.i64 (1 : Int), PV.int IntKind.i64 (65536 : Int)] [] (PV.bool true), PC Try.prog G0 (33 : Nat) [] [PV.int IntKind.i64 (Prm.fu p), PV.int IntKind.i64 (0 : Int), PV.int IntKind.i64 (4294967296 : Int)] [] (PV.bool true), PC Try.prog G0 (33 : Nat) [] [PV.int IntKind.i64 (Prm.cap p), PV.int IntKind.i64 (1 : Int), PV.int IntKind.i64 (4096 : Int)] [] (PV.bool false), PV.int IntKind.i64 (1 : Int) = PV.int IntKind.i64 (1 : Int)] (by kernel_rfl) (ac (by exact g1) (ac (by exact g2) (ac (by exact g3) (ac (by exact g4) (ac (by exact g5) (ac (by exact decide_eq_false (by omega)) (ac (by exact g6) (ac (by exact g7) (ac (by exact g8) (ac (by exact g9) (ao (by with_reducible rfl))))))))))))
            · have g8 := pc_withinF c6
              refine W.ret [((4 : Nat), Ans.call true [] [] (PV.tup [PV.iarr IntKind.u64 (4 : Nat) (uw (tgt (Prm.lim p))), PV.int IntKind.i64 e1])), ((14 : Nat), Ans.call true [] [] (PV.tup [PV.iarr IntKind.u64 (4 : Nat) (uw (tgt (Hd.bits (Prm.gen p)))), PV.int IntKind.i64 e2])), ((23 : Nat), Ans.call true [] [] (PV.bool true)), ((29 : Nat), Ans.call true [] [] (PV.bool true)), ((34 : Nat), Ans.call true [] [] (PV.int IntKind.i64 z)), ((35 : Nat), Ans.dec false), ((39 : Nat), Ans.call true [] [] (PV.bool true)), ((44 : Nat), Ans.call true [] [] (PV.bool true)), ((49 : Nat), Ans.call true [] [] (PV.bool false))] [] [PC Try.prog G0 (30 : Nat) [] [PV.int IntKind.u32 (↑(Prm.lim p) : Int)] [] (PV.tup [PV.iarr IntKind.u64 (4 : Nat) (uw (tgt (Prm.lim p))), PV.int IntKind.i64 e1]), PC Try.prog G0 (30 : Nat) [] [PV.int IntKind.u32 (↑(Hd.bits (Prm.gen p)) : Int)] [] (PV.tup [PV.iarr IntKind.u64 (4 : Nat) (uw (tgt (Hd.bits (Prm.gen p)))), PV.int IntKind.i64 e2]), PC Try.prog G0 (31 : Nat) [] [PV.int IntKind.u32 (↑(Prm.lim p) : Int)] [] (PV.bool true), PC Try.prog G0 (31 : Nat) [] [PV.int IntKind.u32 (↑(Hd.bits (Prm.gen p)) : Int)] [] (PV.bool true), PC Try.prog G0 (32 : Nat) [] [PV.iarr IntKind.u64 (4 : Nat) (uw (tgt (Hd.bits (Prm.gen p)))), PV.iarr IntKind.u64 (4 : Nat) (uw (tgt (Prm.lim p)))] [] (PV.int IntKind.i64 z), decide (z > (0 : Int)) = false, PC Try.prog G0 (33 : Nat) [] [PV.int IntKind.i64 (Prm.per p), PV.int IntKind.i64 (1 : Int), PV.int IntKind.i64 (65536 : Int)] [] (PV.bool true), PC Try.prog G0 (33 : Nat) [] [PV.int IntKind.i64 (Prm.sp p), PV.int IntKind.i64 (1 : Int), PV.int IntKind.i64 (65536 : Int)] [] (PV.bool true), PC Try.prog G0 (33 : Nat) [] [PV.int IntKind.i64 (Prm.fu p), PV.int IntKind.i64 (0 : Int), PV.int IntKind.i64 (4294967296 : Int)] [] (PV.bool false), PV.int IntKind.i64 (1 : Int) = PV.int IntKind.i64 (1 : Int)] (by kernel_rfl) (ac (by exact g1) (ac (by exact g2) (ac (by exact g3) (ac (by exact g4) (ac (by exact g5) (ac (by exact decide_eq_false (by omega)) (ac (by exact g6) (ac (by exact g7) (ac (by exact g8) (ao (by with_reducible rfl)))))))))))
          · have g7 := pc_withinF c5
            refine W.ret [((4 : Nat), Ans.call true [] [] (PV.tup [PV.iarr IntKind.u64 (4 : Nat) (uw (tgt (Prm.lim p))), PV.int IntKind.i64 e1])), ((14 : Nat), Ans.call true [] [] (PV.tup [PV.iarr IntKind.u64 (4 : Nat) (uw (tgt (Hd.bits (Prm.gen p)))), PV.int IntKind.i64 e2])), ((23 : Nat), Ans.call true [] [] (PV.bool true)), ((29 : Nat), Ans.call true [] [] (PV.bool true)), ((34 : Nat), Ans.call true [] [] (PV.int IntKind.i64 z)), ((35 : Nat), Ans.dec false), ((39 : Nat), Ans.call true [] [] (PV.bool true)), ((44 : Nat), Ans.call true [] [] (PV.bool false))] [] [PC Try.prog G0 (30 : Nat) [] [PV.int IntKind.u32 (↑(Prm.lim p) : Int)] [] (PV.tup [PV.iarr IntKind.u64 (4 : Nat) (uw (tgt (Prm.lim p))), PV.int IntKind.i64 e1]), PC Try.prog G0 (30 : Nat) [] [PV.int IntKind.u32 (↑(Hd.bits (Prm.gen p)) : Int)] [] (PV.tup [PV.iarr IntKind.u64 (4 : Nat) (uw (tgt (Hd.bits (Prm.gen p)))), PV.int IntKind.i64 e2]), PC Try.prog G0 (31 : Nat) [] [PV.int IntKind.u32 (↑(Prm.lim p) : Int)] [] (PV.bool true), PC Try.prog G0 (31 : Nat) [] [PV.int IntKind.u32 (↑(Hd.bits (Prm.gen p)) : Int)] [] (PV.bool true), PC Try.prog G0 (32 : Nat) [] [PV.iarr IntKind.u64 (4 : Nat) (uw (tgt (Hd.bits (Prm.gen p)))), PV.iarr IntKind.u64 (4 : Nat) (uw (tgt (Prm.lim p)))] [] (PV.int IntKind.i64 z), decide (z > (0 : Int)) = false, PC Try.prog G0 (33 : Nat) [] [PV.int IntKind.i64 (Prm.per p), PV.int IntKind.i64 (1 : Int), PV.int IntKind.i64 (65536 : Int)] [] (PV.bool true), PC Try.prog G0 (33 : Nat) [] [PV.int IntKind.i64 (Prm.sp p), PV.int IntKind.i64 (1 : Int), PV.int IntKind.i64 (65536 : Int)] [] (PV.bool false), PV.int IntKind.i64 (1 : Int) = PV.int IntKind.i64 (1 : Int)] (by kernel_rfl) (ac (by exact g1) (ac (by exact g2) (ac (by exact g3) (ac (by exact g4) (ac (by exact g5) (ac (by exact decide_eq_false (by omega)) (ac (by exact g6) (ac (by exact g7) (ao (by with_reducible rfl))))))))))
        · have g6 := pc_withinF c4
          refine W.ret [((4 : Nat), Ans.call true [] [] (PV.tup [PV.iarr IntKind.u64 (4 : Nat) (uw (tgt (Prm.lim p))), PV.int IntKind.i64 e1])), ((14 : Nat), Ans.call true [] [] (PV.tup [PV.iarr IntKind.u64 (4 : Nat) (uw (tgt (Hd.bits (Prm.gen p)))), PV.int IntKind.i64 e2])), ((23 : Nat), Ans.call true [] [] (PV.bool true)), ((29 : Nat), Ans.call true [] [] (PV.bool true)), ((34 : Nat), Ans.call true [] [] (PV.int IntKind.i64 z)), ((35 : Nat), Ans.dec false), ((39 : Nat), Ans.call true [] [] (PV.bool false))] [] [PC Try.prog G0 (30 : Nat) [] [PV.int IntKind.u32 (↑(Prm.lim p) : Int)] [] (PV.tup [PV.iarr IntKind.u64 (4 : Nat) (uw (tgt (Prm.lim p))), PV.int IntKind.i64 e1]), PC Try.prog G0 (30 : Nat) [] [PV.int IntKind.u32 (↑(Hd.bits (Prm.gen p)) : Int)] [] (PV.tup [PV.iarr IntKind.u64 (4 : Nat) (uw (tgt (Hd.bits (Prm.gen p)))), PV.int IntKind.i64 e2]), PC Try.prog G0 (31 : Nat) [] [PV.int IntKind.u32 (↑(Prm.lim p) : Int)] [] (PV.bool true), PC Try.prog G0 (31 : Nat) [] [PV.int IntKind.u32 (↑(Hd.bits (Prm.gen p)) : Int)] [] (PV.bool true), PC Try.prog G0 (32 : Nat) [] [PV.iarr IntKind.u64 (4 : Nat) (uw (tgt (Hd.bits (Prm.gen p)))), PV.iarr IntKind.u64 (4 : Nat) (uw (tgt (Prm.lim p)))] [] (PV.int IntKind.i64 z), decide (z > (0 : Int)) = false, PC Try.prog G0 (33 : Nat) [] [PV.int IntKind.i64 (Prm.per p), PV.int IntKind.i64 (1 : Int), PV.int IntKind.i64 (65536 : Int)] [] (PV.bool false), PV.int IntKind.i64 (1 : Int) = PV.int IntKind.i64 (1 : Int)] (by kernel_rfl) (ac (by exact g1) (ac (by exact g2) (ac (by exact g3) (ac (by exact g4) (ac (by exact g5) (ac (by exact decide_eq_false (by omega)) (ac (by exact g6) (ao (by with_reducible rfl)))))))))
      · rw [cmpN_gt (by omega)] at g5
        refine W.ret [((4 : Nat), Ans.call true [] [] (PV.tup [PV.iarr IntKind.u64 (4 : Nat) (uw (tgt (Prm.lim p))), PV.int IntKind.i64 e1])), ((14 : Nat), Ans.call true [] [] (PV.tup [PV.iarr IntKind.u64 (4 : Nat) (uw (tgt (Hd.bits (Prm.gen p)))), PV.int IntKind.i64 e2])), ((23 : Nat), Ans.call true [] [] (PV.bool true)), ((29 : Nat), Ans.call true [] [] (PV.bool true)), ((34 : Nat), Ans.call true [] [] (PV.int IntKind.i64 (1 : Int)))] [] [PC Try.prog G0 (30 : Nat) [] [PV.int IntKind.u32 (↑(Prm.lim p) : Int)] [] (PV.tup [PV.iarr IntKind.u64 (4 : Nat) (uw (tgt (Prm.lim p))), PV.int IntKind.i64 e1]), PC Try.prog G0 (30 : Nat) [] [PV.int IntKind.u32 (↑(Hd.bits (Prm.gen p)) : Int)] [] (PV.tup [PV.iarr IntKind.u64 (4 : Nat) (uw (tgt (Hd.bits (Prm.gen p)))), PV.int IntKind.i64 e2]), PC Try.prog G0 (31 : Nat) [] [PV.int IntKind.u32 (↑(Prm.lim p) : Int)] [] (PV.bool true), PC Try.prog G0 (31 : Nat) [] [PV.int IntKind.u32 (↑(Hd.bits (Prm.gen p)) : Int)] [] (PV.bool true), PC Try.prog G0 (32 : Nat) [] [PV.iarr IntKind.u64 (4 : Nat) (uw (tgt (Hd.bits (Prm.gen p)))), PV.iarr IntKind.u64 (4 : Nat) (uw (tgt (Prm.lim p)))] [] (PV.int IntKind.i64 (1 : Int)), PV.int IntKind.i64 (1 : Int) = PV.int IntKind.i64 (1 : Int)] (by kernel_rfl) (ac (by exact g1) (ac (by exact g2) (ac (by exact g3) (ac (by exact g4) (ac (by exact g5) (ao (by with_reducible rfl)))))))
    · rw [Bool.not_eq_true] at c2
      rw [c2] at g4
      refine W.ret [((4 : Nat), Ans.call true [] [] (PV.tup [PV.iarr IntKind.u64 (4 : Nat) (uw (tgt (Prm.lim p))), PV.int IntKind.i64 e1])), ((14 : Nat), Ans.call true [] [] (PV.tup [PV.iarr IntKind.u64 (4 : Nat) (uw (tgt (Hd.bits (Prm.gen p)))), PV.int IntKind.i64 e2])), ((23 : Nat), Ans.call true [] [] (PV.bool true)), ((29 : Nat), Ans.call true [] [] (PV.bool false))] [] [PC Try.prog G0 (30 : Nat) [] [PV.int IntKind.u32 (↑(Prm.lim p) : Int)] [] (PV.tup [PV.iarr IntKind.u64 (4 : Nat) (uw (tgt (Prm.lim p))), PV.int IntKind.i64 e1]), PC Try.prog G0 (30 : Nat) [] [PV.int IntKind.u32 (↑(Hd.bits (Prm.gen p)) : Int)] [] (PV.tup [PV.iarr IntKind.u64 (4 : Nat) (uw (tgt (Hd.bits (Prm.gen p)))), PV.int IntKind.i64 e2]), PC Try.prog G0 (31 : Nat) [] [PV.int IntKind.u32 (↑(Prm.lim p) : Int)] [] (PV.bool true), PC Try.prog G0 (31 : Nat) [] [PV.int IntKind.u32 (↑(Hd.bits (Prm.gen p)) : Int)] [] (PV.bool false), PV.int IntKind.i64 (1 : Int) = PV.int IntKind.i64 (1 : Int)] (by kernel_rfl) (ac (by exact g1) (ac (by exact g2) (ac (by exact g3) (ac (by exact g4) (ao (by with_reducible rfl))))))
  · rw [Bool.not_eq_true] at c1
    rw [c1] at g3
    refine W.ret [((4 : Nat), Ans.call true [] [] (PV.tup [PV.iarr IntKind.u64 (4 : Nat) (uw (tgt (Prm.lim p))), PV.int IntKind.i64 e1])), ((14 : Nat), Ans.call true [] [] (PV.tup [PV.iarr IntKind.u64 (4 : Nat) (uw (tgt (Hd.bits (Prm.gen p)))), PV.int IntKind.i64 e2])), ((23 : Nat), Ans.call true [] [] (PV.bool false))] [] [PC Try.prog G0 (30 : Nat) [] [PV.int IntKind.u32 (↑(Prm.lim p) : Int)] [] (PV.tup [PV.iarr IntKind.u64 (4 : Nat) (uw (tgt (Prm.lim p))), PV.int IntKind.i64 e1]), PC Try.prog G0 (30 : Nat) [] [PV.int IntKind.u32 (↑(Hd.bits (Prm.gen p)) : Int)] [] (PV.tup [PV.iarr IntKind.u64 (4 : Nat) (uw (tgt (Hd.bits (Prm.gen p)))), PV.int IntKind.i64 e2]), PC Try.prog G0 (31 : Nat) [] [PV.int IntKind.u32 (↑(Prm.lim p) : Int)] [] (PV.bool false), PV.int IntKind.i64 (1 : Int) = PV.int IntKind.i64 (1 : Int)] (by kernel_rfl) (ac (by exact g1) (ac (by exact g2) (ac (by exact g3) (ao (by with_reducible rfl)))))
theorem pc_canonical {c : Nat} (hc : c < 4294967296) : PC Try.prog G0 34 [] [.int .u32 c] [] (.bool (canon c)) := by
  refine PC.of (fn := Try.f34) (c := bodyOf Try.f34) Try.func34 (by kernel_rfl) (by kernel_rfl) (by kernel_rfl) (by kernel_rfl) ?_
  by_cases h : tgt c = 0
  · have g := pc_rTargetN hc h
    refine W.ret [((2 : Nat), Ans.call true [] [] (PV.tup [PV.vec true (PV.iarr IntKind.i64 (0 : Nat) (dg (0 : Nat))), PV.bool false]))] [] [PC Try.prog G0 (35 : Nat) [] [PV.int IntKind.u32 (↑c : Int)] [] (PV.tup [PV.vec true (PV.iarr IntKind.i64 (0 : Nat) (dg (0 : Nat))), PV.bool false]), PV.bool false = PV.bool (canon c)] (by kernel_rfl) (ac (by exact g) (ao ?_))
    unfold canon
    simp [h]
  · have g := pc_rTargetY hc h
    have g2 := pc_rBits5 (nt := false) (tgt_lt c)
    refine W.ret [((2 : Nat), Ans.call false [] [] (PV.tup [PV.vec false (PV.iarr IntKind.i64 (nd (tgt c)) (dg (tgt c))), PV.bool true])), ((11 : Nat), Ans.call true [] [] (PV.int IntKind.u32 (↑(cbits (tgt c)) : Int)))] [] [PC Try.prog G0 (35 : Nat) [] [PV.int IntKind.u32 (↑c : Int)] [] (PV.tup [PV.vec false (PV.iarr IntKind.i64 (nd (tgt c)) (dg (tgt c))), PV.bool true]), PC Try.prog G0 (52 : Nat) [] [PV.vec false (PV.iarr IntKind.i64 (nd (tgt c)) (dg (tgt c)))] [] (PV.int IntKind.u32 (↑(cbits (tgt c)) : Int)), PV.bool ((↑(cbits (tgt c)) : Int) == (↑c : Int)) = PV.bool (canon c)] (by kernel_rfl) (ac (by exact g) (ac (by exact g2) (ao ?_)))
    refine congrArg PV.bool ?_
    unfold canon
    rw [Bool.eq_iff_iff]
    simp only [beq_iff_eq, Int.natCast_inj, decide_eq_true_eq]
    exact ⟨fun e => ⟨h, e⟩, fun e => e.2⟩
theorem canon_ne {c : Nat} (h : canon c = true) : ¬ tgt c = 0 := by
  unfold canon at h
  simp only [decide_eq_true_eq] at h
  exact h.1
set_option maxHeartbeats 4000000 in
theorem pc_mayY {p : Prm} (ho : p.Ok) (h : p.May) : PC Try.prog G0 18 [] [p.rpv] [] (.bool true) := by
  refine PC.of (fn := Try.f18) (c := bodyOf Try.f18) Try.func18 (by kernel_rfl) (by kernel_rfl) (by kernel_rfl) (by kernel_rfl) ?_
  have g1 := pc_rTargetY ho.lim (canon_ne h.c1)
  have g2 := pc_rTargetY ho.gen.bits (canon_ne h.c2)
  have g3 := pc_canonical ho.lim
  have g4 := pc_canonical ho.gen.bits
  rw [h.c1] at g3
  rw [h.c2] at g4
  have n1 := nd_W256.2 (tgt_lt p.lim)
  have n2 := nd_W256.2 (tgt_lt p.gen.bits)
  have g5 := pc_bLess (na := false) (nb := false) (a := tgt p.lim) (b := tgt p.gen.bits) (by omega) (by omega)
  rw [decide_eq_false (by have := h.le; omega)] at g5
  obtain ⟨q1, q2⟩ := h.per
  obtain ⟨q3, q4⟩ := h.sp
  obtain ⟨q5, q6⟩ := h.fu
  obtain ⟨q7, q8⟩ := h.cap
  refine W.ret [((4 : Nat), Ans.call true [] [] (PV.bool true)), ((10 : Nat), Ans.call true [] [] (PV.bool true)), ((16 : Nat), Ans.call false [] [] (PV.tup [PV.vec false (PV.iarr IntKind.i64 (nd (tgt (Hd.bits (Prm.gen p)))) (dg (tgt (Hd.bits (Prm.gen p))))), PV.bool true])), ((24 : Nat), Ans.call false [] [] (PV.tup [PV.vec false (PV.iarr IntKind.i64 (nd (tgt (Prm.lim p))) (dg (tgt (Prm.lim p)))), PV.bool true])), ((32 : Nat), Ans.call true [] [] (PV.bool false)), ((35 : Nat), Ans.dec true), ((39 : Nat), Ans.dec true), ((44 : Nat), Ans.dec true), ((49 : Nat), Ans.dec true), ((54 : Nat), Ans.dec true), ((59 : Nat), Ans.dec true), ((64 : Nat), Ans.dec true), ((69 : Nat), Ans.dec true)] [] [PC Try.prog G0 (34 : Nat) [] [PV.int IntKind.u32 (↑(Prm.lim p) : Int)] [] (PV.bool true), PC Try.prog G0 (34 : Nat) [] [PV.int IntKind.u32 (↑(Hd.bits (Prm.gen p)) : Int)] [] (PV.bool true), PC Try.prog G0 (35 : Nat) [] [PV.int IntKind.u32 (↑(Hd.bits (Prm.gen p)) : Int)] [] (PV.tup [PV.vec false (PV.iarr IntKind.i64 (nd (tgt (Hd.bits (Prm.gen p)))) (dg (tgt (Hd.bits (Prm.gen p))))), PV.bool true]), PC Try.prog G0 (35 : Nat) [] [PV.int IntKind.u32 (↑(Prm.lim p) : Int)] [] (PV.tup [PV.vec false (PV.iarr IntKind.i64 (nd (tgt (Prm.lim p))) (dg (tgt (Prm.lim p)))), PV.bool true]), PC Try.prog G0 (36 : Nat) [] [PV.vec false (PV.iarr IntKind.i64 (nd (tgt (Prm.lim p))) (dg (tgt (Prm.lim p)))), PV.vec false (PV.iarr IntKind.i64 (nd (tgt (Hd.bits (Prm.gen p)))) (dg (tgt (Hd.bits (Prm.gen p)))))] [] (PV.bool false), decide (Prm.per p ≥ (1 : Int)) = true, decide (Prm.per p ≤ (65536 : Int)) = true, decide (Prm.sp p ≥ (1 : Int)) = true, decide (Prm.sp p ≤ (65536 : Int)) = true, decide (Prm.fu p ≥ (0 : Int)) = true, decide (Prm.fu p ≤ (4294967296 : Int)) = true, decide (Prm.cap p ≥ (1 : Int)) = true, decide (Prm.cap p ≤ (4096 : Int)) = true, PV.bool true = PV.bool true] (by kernel_rfl) (ac (by exact g3) (ac (by exact g4) (ac (by exact g2) (ac (by exact g1) (ac (by exact g5) (ac (by exact decide_eq_true (by omega)) (ac (by exact decide_eq_true (by omega)) (ac (by exact decide_eq_true (by omega)) (ac (by exact decide_eq_true (by omega)) (ac (by exact decide_eq_true (by omega)) (ac (by exact decide_eq_true (by omega)) (ac (by exact decide_eq_true (by omega)) (ac (by exact decide_eq_true (by omega)) (ao (by with_reducible rfl)))))))))))))))
set_option maxHeartbeats 4000000 in
theorem pc_mayN {p : Prm} (ho : p.Ok) (h : ¬ p.May) : PC Try.prog G0 18 [] [p.rpv] [] (.bool false) := by
  refine PC.of (fn := Try.f18) (c := bodyOf Try.f18) Try.func18 (by kernel_rfl) (by kernel_rfl) (by kernel_rfl) (by kernel_rfl) ?_
  have g3 := pc_canonical ho.lim
  have g4 := pc_canonical ho.gen.bits
  have n1 := nd_W256.2 (tgt_lt p.lim)
  have n2 := nd_W256.2 (tgt_lt p.gen.bits)
  have g5 := pc_bLess (na := false) (nb := false) (a := tgt p.lim) (b := tgt p.gen.bits) (by omega) (by omega)
  by_cases c1 : canon p.lim = true
  · rw [c1] at g3
    have g1 := pc_rTargetY ho.lim (canon_ne c1)
    by_cases c2 : canon p.gen.bits = true
    · rw [c2] at g4
      have g2 := pc_rTargetY ho.gen.bits (canon_ne c2)
      by_cases c3 : tgt p.gen.bits ≤ tgt p.lim
      · rw [decide_eq_false (by omega)] at g5
        by_cases c4 : 1 ≤ p.per
        · by_cases c4' : p.per ≤ 65536
          · by_cases c5 : 1 ≤ p.sp
            · by_cases c5' : p.sp ≤ 65536
              · by_cases c6 : 0 ≤ p.fu
                · by_cases c6' : p.fu ≤ 4294967296
                  · by_cases c7 : 1 ≤ p.cap
                    · by_cases c7' : p.cap ≤ 4096
                      · exact absurd ⟨c1, c2, c3, ⟨c4, c4'⟩, ⟨c5, c5'⟩, ⟨c6, c6'⟩, ⟨c7, c7'⟩⟩ h
                      · refine W.ret [((4 : Nat), Ans.call true [] [] (PV.bool true)), ((10 : Nat), Ans.call true [] [] (PV.bool true)), ((16 : Nat), Ans.call false [] [] (PV.tup [PV.vec false (PV.iarr IntKind.i64 (nd (tgt (Hd.bits (Prm.gen p)))) (dg (tgt (Hd.bits (Prm.gen p))))), PV.bool true])), ((24 : Nat), Ans.call false [] [] (PV.tup [PV.vec false (PV.iarr IntKind.i64 (nd (tgt (Prm.lim p))) (dg (tgt (Prm.lim p)))), PV.bool true])), ((32 : Nat), Ans.call true [] [] (PV.bool false)), ((35 : Nat), Ans.dec true), ((39 : Nat), Ans.dec true), ((44 : Nat), Ans.dec true), ((49 : Nat), Ans.dec true), ((54 : Nat), Ans.dec true), ((59 : Nat), Ans.dec true), ((64 : Nat), Ans.dec true), ((69 : Nat), Ans.dec false)] [] [PC Try.prog G0 (34 : Nat) [] [PV.int IntKind.u32 (↑(Prm.lim p) : Int)] [] (PV.bool true), PC Try.prog G0 (34 : Nat) [] [PV.int IntKind.u32 (↑(Hd.bits (Prm.gen p)) : Int)] [] (PV.bool true), PC Try.prog G0 (35 : Nat) [] [PV.int IntKind.u32 (↑(Hd.bits (Prm.gen p)) : Int)] [] (PV.tup [PV.vec false (PV.iarr IntKind.i64 (nd (tgt (Hd.bits (Prm.gen p)))) (dg (tgt (Hd.bits (Prm.gen p))))), PV.bool true]), PC Try.prog G0 (35 : Nat) [] [PV.int IntKind.u32 (↑(Prm.lim p) : Int)] [] (PV.tup [PV.vec false (PV.iarr IntKind.i64 (nd (tgt (Prm.lim p))) (dg (tgt (Prm.lim p)))), PV.bool true]), PC Try.prog G0 (36 : Nat) [] [PV.vec false (PV.iarr IntKind.i64 (nd (tgt (Prm.lim p))) (dg (tgt (Prm.lim p)))), PV.vec false (PV.iarr IntKind.i64 (nd (tgt (Hd.bits (Prm.gen p)))) (dg (tgt (Hd.bits (Prm.gen p)))))] [] (PV.bool false), decide (Prm.per p ≥ (1 : Int)) = true, decide (Prm.per p ≤ (65536 : Int)) = true, decide (Prm.sp p ≥ (1 : Int)) = true, decide (Prm.sp p ≤ (65536 : Int)) = true, decide (Prm.fu p ≥ (0 : Int)) = true, decide (Prm.fu p ≤ (4294967296 : Int)) = true, decide (Prm.cap p ≥ (1 : Int)) = true, decide (Prm.cap p ≤ (4096 : Int)) = false, PV.bool false = PV.bool false] (by kernel_rfl) (ac (by exact g3) (ac (by exact g4) (ac (by exact g2) (ac (by exact g1) (ac (by exact g5) (ac (by exact decide_eq_true (by omega)) (ac (by exact decide_eq_true (by omega)) (ac (by exact decide_eq_true (by omega)) (ac (by exact decide_eq_true (by omega)) (ac (by exact decide_eq_true (by omega)) (ac (by exact decide_eq_true (by omega)) (ac (by exact decide_eq_true (by omega)) (ac (by exact decide_eq_false (by omega)) (ao (by with_reducible rfl)))))))))))))))
                    · refine W.ret [((4 : Nat), Ans.call true [] [] (PV.bool true)), ((10 : Nat), Ans.call true [] [] (PV.bool true)), ((16 : Nat), Ans.call false [] [] (PV.tup [PV.vec false (PV.iarr IntKind.i64 (nd (tgt (Hd.bits (Prm.gen p)))) (dg (tgt (Hd.bits (Prm.gen p))))), PV.bool true])), ((24 : Nat), Ans.call false [] [] (PV.tup [PV.vec false (PV.iarr IntKind.i64 (nd (tgt (Prm.lim p))) (dg (tgt (Prm.lim p)))), PV.bool true])), ((32 : Nat), Ans.call true [] [] (PV.bool false)), ((35 : Nat), Ans.dec true), ((39 : Nat), Ans.dec true), ((44 : Nat), Ans.dec true), ((49 : Nat), Ans.dec true), ((54 : Nat), Ans.dec true), ((59 : Nat), Ans.dec true), ((64 : Nat), Ans.dec false)] [] [PC Try.prog G0 (34 : Nat) [] [PV.int IntKind.u32 (↑(Prm.lim p) : Int)] [] (PV.bool true), PC Try.prog G0 (34 : Nat) [] [PV.int IntKind.u32 (↑(Hd.bits (Prm.gen p)) : Int)] [] (PV.bool true), PC Try.prog G0 (35 : Nat) [] [PV.int IntKind.u32 (↑(Hd.bits (Prm.gen p)) : Int)] [] (PV.tup [PV.vec false (PV.iarr IntKind.i64 (nd (tgt (Hd.bits (Prm.gen p)))) (dg (tgt (Hd.bits (Prm.gen p))))), PV.bool true]), PC Try.prog G0 (35 : Nat) [] [PV.int IntKind.u32 (↑(Prm.lim p) : Int)] [] (PV.tup [PV.vec false (PV.iarr IntKind.i64 (nd (tgt (Prm.lim p))) (dg (tgt (Prm.lim p)))), PV.bool true]), PC Try.prog G0 (36 : Nat) [] [PV.vec false (PV.iarr IntKind.i64 (nd (tgt (Prm.lim p))) (dg (tgt (Prm.lim p)))), PV.vec false (PV.iarr IntKind.i64 (nd (tgt (Hd.bits (Prm.gen p)))) (dg (tgt (Hd.bits (Prm.gen p)))))] [] (PV.bool false), decide (Prm.per p ≥ (1 : Int)) = true, decide (Prm.per p ≤ (65536 : Int)) = true, decide (Prm.sp p ≥ (1 : Int)) = true, decide (Prm.sp p ≤ (65536 : Int)) = true, decide (Prm.fu p ≥ (0 : Int)) = true, decide (Prm.fu p ≤ (4294967296 : Int)) = true, decide (Prm.cap p ≥ (1 : Int)) = false, PV.bool false = PV.bool false] (by kernel_rfl) (ac (by exact g3) (ac (by exact g4) (ac (by exact g2) (ac (by exact g1) (ac (by exact g5) (ac (by exact decide_eq_true (by omega)) (ac (by exact decide_eq_true (by omega)) (ac (by exact decide_eq_true (by omega)) (ac (by exact decide_eq_true (by omega)) (ac (by exact decide_eq_true (by omega)) (ac (by exact decide_eq_true (by omega)) (ac (by exact decide_eq_false (by omega)) (ao (by with_reducible rfl))))))))))))))
                  · refine W.ret [((4 : Nat), Ans.call true [] [] (PV.bool true)), ((10 : Nat), Ans.call true [] [] (PV.bool true)), ((16 : Nat), Ans.call false [] [] (PV.tup [PV.vec false (PV.iarr IntKind.i64 (nd (tgt (Hd.bits (Prm.gen p)))) (dg (tgt (Hd.bits (Prm.gen p))))), PV.bool true])), ((24 : Nat), Ans.call false [] [] (PV.tup [PV.vec false (PV.iarr IntKind.i64 (nd (tgt (Prm.lim p))) (dg (tgt (Prm.lim p)))), PV.bool true])), ((32 : Nat), Ans.call true [] [] (PV.bool false)), ((35 : Nat), Ans.dec true), ((39 : Nat), Ans.dec true), ((44 : Nat), Ans.dec true), ((49 : Nat), Ans.dec true), ((54 : Nat), Ans.dec true), ((59 : Nat), Ans.dec false)] [] [PC Try.prog G0 (34 : Nat) [] [PV.int IntKind.u32 (↑(Prm.lim p) : Int)] [] (PV.bool true), PC Try.prog G0 (34 : Nat) [] [PV.int IntKind.u32 (↑(Hd.bits (Prm.gen p)) : Int)] [] (PV.bool true), PC Try.prog G0 (35 : Nat) [] [PV.int IntKind.u32 (↑(Hd.bits (Prm.gen p)) : Int)] [] (PV.tup [PV.vec false (PV.iarr IntKind.i64 (nd (tgt (Hd.bits (Prm.gen p)))) (dg (tgt (Hd.bits (Prm.gen p))))), PV.bool true]), PC Try.prog G0 (35 : Nat) [] [PV.int IntKind.u32 (↑(Prm.lim p) : Int)] [] (PV.tup [PV.vec false (PV.iarr IntKind.i64 (nd (tgt (Prm.lim p))) (dg (tgt (Prm.lim p)))), PV.bool true]), PC Try.prog G0 (36 : Nat) [] [PV.vec false (PV.iarr IntKind.i64 (nd (tgt (Prm.lim p))) (dg (tgt (Prm.lim p)))), PV.vec false (PV.iarr IntKind.i64 (nd (tgt (Hd.bits (Prm.gen p)))) (dg (tgt (Hd.bits (Prm.gen p)))))] [] (PV.bool false), decide (Prm.per p ≥ (1 : Int)) = true, decide (Prm.per p ≤ (65536 : Int)) = true, decide (Prm.sp p ≥ (1 : Int)) = true, decide (Prm.sp p ≤ (65536 : Int)) = true, decide (Prm.fu p ≥ (0 : Int)) = true, decide (Prm.fu p ≤ (4294967296 : Int)) = false, PV.bool false = PV.bool false] (by kernel_rfl) (ac (by exact g3) (ac (by exact g4) (ac (by exact g2) (ac (by exact g1) (ac (by exact g5) (ac (by exact decide_eq_true (by omega)) (ac (by exact decide_eq_true (by omega)) (ac (by exact decide_eq_true (by omega)) (ac (by exact decide_eq_true (by omega)) (ac (by exact decide_eq_true (by omega)) (ac (by exact decide_eq_false (by omega)) (ao (by with_reducible rfl)))))))))))))
                · refine W.ret [((4 : Nat), Ans.call true [] [] (PV.bool true)), ((10 : Nat), Ans.call true [] [] (PV.bool true)), ((16 : Nat), Ans.call false [] [] (PV.tup [PV.vec false (PV.iarr IntKind.i64 (nd (tgt (Hd.bits (Prm.gen p)))) (dg (tgt (Hd.bits (Prm.gen p))))), PV.bool true])), ((24 : Nat), Ans.call false [] [] (PV.tup [PV.vec false (PV.iarr IntKind.i64 (nd (tgt (Prm.lim p))) (dg (tgt (Prm.lim p)))), PV.bool true])), ((32 : Nat), Ans.call true [] [] (PV.bool false)), ((35 : Nat), Ans.dec true), ((39 : Nat), Ans.dec true), ((44 : Nat), Ans.dec true), ((49 : Nat), Ans.dec true), ((54 : Nat), Ans.dec false)] [] [PC Try.prog G0 (34 : Nat) [] [PV.int IntKind.u32 (↑(Prm.lim p) : Int)] [] (PV.bool true), PC Try.prog G0 (34 : Nat) [] [PV.int IntKind.u32 (↑(Hd.bits (Prm.gen p)) : Int)] [] (PV.bool true), PC Try.prog G0 (35 : Nat) [] [PV.int IntKind.u32 (↑(Hd.bits (Prm.gen p)) : Int)] [] (PV.tup [PV.vec false (PV.iarr IntKind.i64 (nd (tgt (Hd.bits (Prm.gen p)))) (dg (tgt (Hd.bits (Prm.gen p))))), PV.bool true]), PC Try.prog G0 (35 : Nat) [] [PV.int IntKind.u32 (↑(Prm.lim p) : Int)] [] (PV.tup [PV.vec false (PV.iarr IntKind.i64 (nd (tgt (Prm.lim p))) (dg (tgt (Prm.lim p)))), PV.bool true]), PC Try.prog G0 (36 : Nat) [] [PV.vec false (PV.iarr IntKind.i64 (nd (tgt (Prm.lim p))) (dg (tgt (Prm.lim p)))), PV.vec false (PV.iarr IntKind.i64 (nd (tgt (Hd.bits (Prm.gen p)))) (dg (tgt (Hd.bits (Prm.gen p)))))] [] (PV.bool false), decide (Prm.per p ≥ (1 : Int)) = true, decide (Prm.per p ≤ (65536 : Int)) = true, decide (Prm.sp p ≥ (1 : Int)) = true, decide (Prm.sp p ≤ (65536 : Int)) = true, decide (Prm.fu p ≥ (0 : Int)) = false, PV.bool false = PV.bool false] (by kernel_rfl) (ac (by exact g3) (ac (by exact g4) (ac (by exact g2) (ac (by exact g1) (ac (by exact g5) (ac (by exact decide_eq_true (by omega)) (ac (by exact decide_eq_true (by omega)) (ac (by exact decide_eq_true (by omega)) (ac (by exact decide_eq_true (by omega)) (ac (by exact decide_eq_false (by omega)) (ao (by with_reducible rfl))))))))))))
              · refine W.ret [((4 : Nat), Ans.call true [] [] (PV.bool true)), ((10 : Nat), Ans.call true [] [] (PV.bool true)), ((16 : Nat), Ans.call false [] [] (PV.tup [PV.vec false (PV.iarr IntKind.i64 (nd (tgt (Hd.bits (Prm.gen p)))) (dg (tgt (Hd.bits (Prm.gen p))))), PV.bool true])), ((24 : Nat), Ans.call false [] [] (PV.tup [PV.vec false (PV.iarr IntKind.i64 (nd (tgt (Prm.lim p))) (dg (tgt (Prm.lim p)))), PV.bool true])), ((32 : Nat), Ans.call true [] [] (PV.bool false)), ((35 : Nat), Ans.dec true), ((39 : Nat), Ans.dec true), ((44 : Nat), Ans.dec true), ((49 : Nat), Ans.dec false)] [] [PC Try.prog G0 (34 : Nat) [] [PV.int IntKind.u32 (↑(Prm.lim p) : Int)] [] (PV.bool true), PC Try.prog G0 (34 : Nat) [] [PV.int IntKind.u32 (↑(Hd.bits (Prm.gen p)) : Int)] [] (PV.bool true), PC Try.prog G0 (35 : Nat) [] [PV.int IntKind.u32 (↑(Hd.bits (Prm.gen p)) : Int)] [] (PV.tup [PV.vec false (PV.iarr IntKind.i64 (nd (tgt (Hd.bits (Prm.gen p)))) (dg (tgt (Hd.bits (Prm.gen p))))), PV.bool true]), PC Try.prog G0 (35 : Nat) [] [PV.int IntKind.u32 (↑(Prm.lim p) : Int)] [] (PV.tup [PV.vec false (PV.iarr IntKind.i64 (nd (tgt (Prm.lim p))) (dg (tgt (Prm.lim p)))), PV.bool true]), PC Try.prog G0 (36 : Nat) [] [PV.vec false (PV.iarr IntKind.i64 (nd (tgt (Prm.lim p))) (dg (tgt (Prm.lim p)))), PV.vec false (PV.iarr IntKind.i64 (nd (tgt (Hd.bits (Prm.gen p)))) (dg (tgt (Hd.bits (Prm.gen p)))))] [] (PV.bool false), decide (Prm.per p ≥ (1 : Int)) = true, decide (Prm.per p ≤ (65536 : Int)) = true, decide (Prm.sp p ≥ (1 : Int)) = true, decide (Prm.sp p ≤ (65536 : Int)) = false, PV.bool false = PV.bool false] (by kernel_rfl) (ac (by exact g3) (ac (by exact g4) (ac (by exact g2) (ac (by exact g1) (ac (by exact g5) (ac (by exact decide_eq_true (by omega)) (ac (by exact decide_eq_true (by omega)) (ac (by exact decide_eq_true (by omega)) (ac (by exact decide_eq_false (by omega)) (ao (by with_reducible rfl)))))))))))
            · refine W.ret [((4 : Nat), Ans.call true [] [] (PV.bool true)), ((10 : Nat), Ans.call true [] [] (PV.bool true)), ((16 : Nat), Ans.call false [] [] (PV.tup [PV.vec false (PV.iarr IntKind.i64 (nd (tgt (Hd.bits (Prm.gen p)))) (dg (tgt (Hd.bits (Prm.gen p))))), PV.bool true])), ((24 : Nat), Ans.call false [] [] (PV.tup [PV.vec false (PV.iarr IntKind.i64 (nd (tgt (Prm.lim p))) (dg (tgt (Prm.lim p)))), PV.bool true])), ((32 : Nat), Ans.call true [] [] (PV.bool false)), ((35 : Nat), Ans.dec true), ((39 : Nat), Ans.dec true), ((44 : Nat), Ans.dec false)] [] [PC Try.prog G0 (34 : Nat) [] [PV.int IntKind.u32 (↑(Prm.lim p) : Int)] [] (PV.bool true), PC Try.prog G0 (34 : Nat) [] [PV.int IntKind.u32 (↑(Hd.bits (Prm.gen p)) : Int)] [] (PV.bool true), PC Try.prog G0 (35 : Nat) [] [PV.int IntKind.u32 (↑(Hd.bits (Prm.gen p)) : Int)] [] (PV.tup [PV.vec false (PV.iarr IntKind.i64 (nd (tgt (Hd.bits (Prm.gen p)))) (dg (tgt (Hd.bits (Prm.gen p))))), PV.bool true]), PC Try.prog G0 (35 : Nat) [] [PV.int IntKind.u32 (↑(Prm.lim p) : Int)] [] (PV.tup [PV.vec false (PV.iarr IntKind.i64 (nd (tgt (Prm.lim p))) (dg (tgt (Prm.lim p)))), PV.bool true]), PC Try.prog G0 (36 : Nat) [] [PV.vec false (PV.iarr IntKind.i64 (nd (tgt (Prm.lim p))) (dg (tgt (Prm.lim p)))), PV.vec false (PV.iarr IntKind.i64 (nd (tgt (Hd.bits (Prm.gen p)))) (dg (tgt (Hd.bits (Prm.gen p)))))] [] (PV.bool false), decide (Prm.per p ≥ (1 : Int)) = true, decide (Prm.per p ≤ (65536 : Int)) = true, decide (Prm.sp p ≥ (1 : Int)) = false, PV.bool false = PV.bool false] (by kernel_rfl) (ac (by exact g3) (ac (by exact g4) (ac (by exact g2) (ac (by exact g1) (ac (by exact g5) (ac (by exact decide_eq_true (by omega)) (ac (by exact decide_eq_true (by omega)) (ac (by exact decide_eq_false (by omega)) (ao (by with_reducible rfl))))))))))
          · refine W.ret [((4 : Nat), Ans.call true [] [] (PV.bool true)), ((10 : Nat), Ans.call true [] [] (PV.bool true)), ((16 : Nat), Ans.call false [] [] (PV.tup [PV.vec false (PV.iarr IntKind.i64 (nd (tgt (Hd.bits (Prm.gen p)))) (dg (tgt (Hd.bits (Prm.gen p))))), PV.bool true])), ((24 : Nat), Ans.call false [] [] (PV.tup [PV.vec false (PV.iarr IntKind.i64 (nd (tgt (Prm.lim p))) (dg (tgt (Prm.lim p)))), PV.bool true])), ((32 : Nat), Ans.call true [] [] (PV.bool false)), ((35 : Nat), Ans.dec true), ((39 : Nat), Ans.dec false)] [] [PC Try.prog G0 (34 : Nat) [] [PV.int IntKind.u32 (↑(Prm.lim p) : Int)] [] (PV.bool true), PC Try.prog G0 (34 : Nat) [] [PV.int IntKind.u32 (↑(Hd.bits (Prm.gen p)) : Int)] [] (PV.bool true), PC Try.prog G0 (35 : Nat) [] [PV.int IntKind.u32 (↑(Hd.bits (Prm.gen p)) : Int)] [] (PV.tup [PV.vec false (PV.iarr IntKind.i64 (nd (tgt (Hd.bits (Prm.gen p)))) (dg (tgt (Hd.bits (Prm.gen p))))), PV.bool true]), PC Try.prog G0 (35 : Nat) [] [PV.int IntKind.u32 (↑(Prm.lim p) : Int)] [] (PV.tup [PV.vec false (PV.iarr IntKind.i64 (nd (tgt (Prm.lim p))) (dg (tgt (Prm.lim p)))), PV.bool true]), PC Try.prog G0 (36 : Nat) [] [PV.vec false (PV.iarr IntKind.i64 (nd (tgt (Prm.lim p))) (dg (tgt (Prm.lim p)))), PV.vec false (PV.iarr IntKind.i64 (nd (tgt (Hd.bits (Prm.gen p)))) (dg (tgt (Hd.bits (Prm.gen p)))))] [] (PV.bool false), decide (Prm.per p ≥ (1 : Int)) = true, decide (Prm.per p ≤ (65536 : Int)) = false, PV.bool false = PV.bool false] (by kernel_rfl) (ac (by exact g3) (ac (by exact g4) (ac (by exact g2) (ac (by exact g1) (ac (by exact g5) (ac (by exact decide_eq_true (by omega)) (ac (by exact decide_eq_false (by omega)) (ao (by with_reducible rfl)))))))))
        · refine W.ret [((4 : Nat), Ans.call true [] [] (PV.bool true)), ((10 : Nat), Ans.call true [] [] (PV.bool true)), ((16 : Nat), Ans.call false [] [] (PV.tup [PV.vec false (PV.iarr IntKind.i64 (nd (tgt (Hd.bits (Prm.gen p)))) (dg (tgt (Hd.bits (Prm.gen p))))), PV.bool true])), ((24 : Nat), Ans.call false [] [] (PV.tup [PV.vec false (PV.iarr IntKind.i64 (nd (tgt (Prm.lim p))) (dg (tgt (Prm.lim p)))), PV.bool true])), ((32 : Nat), Ans.call true [] [] (PV.bool false)), ((35 : Nat), Ans.dec false)] [] [PC Try.prog G0 (34 : Nat) [] [PV.int IntKind.u32 (↑(Prm.lim p) : Int)] [] (PV.bool true), PC Try.prog G0 (34 : Nat) [] [PV.int IntKind.u32 (↑(Hd.bits (Prm.gen p)) : Int)] [] (PV.bool true), PC Try.prog G0 (35 : Nat) [] [PV.int IntKind.u32 (↑(Hd.bits (Prm.gen p)) : Int)] [] (PV.tup [PV.vec false (PV.iarr IntKind.i64 (nd (tgt (Hd.bits (Prm.gen p)))) (dg (tgt (Hd.bits (Prm.gen p))))), PV.bool true]), PC Try.prog G0 (35 : Nat) [] [PV.int IntKind.u32 (↑(Prm.lim p) : Int)] [] (PV.tup [PV.vec false (PV.iarr IntKind.i64 (nd (tgt (Prm.lim p))) (dg (tgt (Prm.lim p)))), PV.bool true]), PC Try.prog G0 (36 : Nat) [] [PV.vec false (PV.iarr IntKind.i64 (nd (tgt (Prm.lim p))) (dg (tgt (Prm.lim p)))), PV.vec false (PV.iarr IntKind.i64 (nd (tgt (Hd.bits (Prm.gen p)))) (dg (tgt (Hd.bits (Prm.gen p)))))] [] (PV.bool false), decide (Prm.per p ≥ (1 : Int)) = false, PV.bool false = PV.bool false] (by kernel_rfl) (ac (by exact g3) (ac (by exact g4) (ac (by exact g2) (ac (by exact g1) (ac (by exact g5) (ac (by exact decide_eq_false (by omega)) (ao (by with_reducible rfl))))))))
      · rw [decide_eq_true (by omega)] at g5
        refine W.ret [((4 : Nat), Ans.call true [] [] (PV.bool true)), ((10 : Nat), Ans.call true [] [] (PV.bool true)), ((16 : Nat), Ans.call false [] [] (PV.tup [PV.vec false (PV.iarr IntKind.i64 (nd (tgt (Hd.bits (Prm.gen p)))) (dg (tgt (Hd.bits (Prm.gen p))))), PV.bool true])), ((24 : Nat), Ans.call false [] [] (PV.tup [PV.vec false (PV.iarr IntKind.i64 (nd (tgt (Prm.lim p))) (dg (tgt (Prm.lim p)))), PV.bool true])), ((32 : Nat), Ans.call true [] [] (PV.bool true))] [] [PC Try.prog G0 (34 : Nat) [] [PV.int IntKind.u32 (↑(Prm.lim p) : Int)] [] (PV.bool true), PC Try.prog G0 (34 : Nat) [] [PV.int IntKind.u32 (↑(Hd.bits (Prm.gen p)) : Int)] [] (PV.bool true), PC Try.prog G0 (35 : Nat) [] [PV.int IntKind.u32 (↑(Hd.bits (Prm.gen p)) : Int)] [] (PV.tup [PV.vec false (PV.iarr IntKind.i64 (nd (tgt (Hd.bits (Prm.gen p)))) (dg (tgt (Hd.bits (Prm.gen p))))), PV.bool true]), PC Try.prog G0 (35 : Nat) [] [PV.int IntKind.u32 (↑(Prm.lim p) : Int)] [] (PV.tup [PV.vec false (PV.iarr IntKind.i64 (nd (tgt (Prm.lim p))) (dg (tgt (Prm.lim p)))), PV.bool true]), PC Try.prog G0 (36 : Nat) [] [PV.vec false (PV.iarr IntKind.i64 (nd (tgt (Prm.lim p))) (dg (tgt (Prm.lim p)))), PV.vec false (PV.iarr IntKind.i64 (nd (tgt (Hd.bits (Prm.gen p)))) (dg (tgt (Hd.bits (Prm.gen p)))))] [] (PV.bool true), PV.bool false = PV.bool false] (by kernel_rfl) (ac (by exact g3) (ac (by exact g4) (ac (by exact g2) (ac (by exact g1) (ac (by exact g5) (ao (by with_reducible rfl)))))))
    · rw [Bool.not_eq_true] at c2
      rw [c2] at g4
      refine W.ret [((4 : Nat), Ans.call true [] [] (PV.bool true)), ((10 : Nat), Ans.call true [] [] (PV.bool false))] [] [PC Try.prog G0 (34 : Nat) [] [PV.int IntKind.u32 (↑(Prm.lim p) : Int)] [] (PV.bool true), PC Try.prog G0 (34 : Nat) [] [PV.int IntKind.u32 (↑(Hd.bits (Prm.gen p)) : Int)] [] (PV.bool false), PV.bool false = PV.bool false] (by kernel_rfl) (ac (by exact g3) (ac (by exact g4) (ao (by with_reducible rfl))))
  · rw [Bool.not_eq_true] at c1
    rw [c1] at g3
    refine W.ret [((4 : Nat), Ans.call true [] [] (PV.bool false))] [] [PC Try.prog G0 (34 : Nat) [] [PV.int IntKind.u32 (↑(Prm.lim p) : Int)] [] (PV.bool false), PV.bool false = PV.bool false] (by kernel_rfl) (ac (by exact g3) (ao (by with_reducible rfl)))
end Go.Proofs
namespace Go.Proofs
open Go Go.Pe Go.Pm
set_option maxRecDepth 100000
set_option linter.unusedVariables false
def hsh : Sh := .st 68 [.int .u32, .iarr .u8 32, .iarr .u8 32, .int .u32, .int .u32, .int .u32]
instance : Inhabited Hd := ⟨⟨0, [], [], 0, 0, 0⟩⟩
/-- a line of headers -/
def lpv (nl : Bool) (l : List Hd) : PV := .vec nl (.parr 68 l.length hsh (l.map Hd.pv))
theorem map_get {l : List Hd} {i : Nat} (h : i < l.length) : (l.map Hd.pv).getD i .undef = (l.getD i default).pv := by
  simp [List.getD_eq_getElem?_getD, h]
theorem ok_get {l : List Hd} {i : Nat} (ho : ∀ h ∈ l, h.Ok) (hi : i < l.length) : (l.getD i default).Ok := by
  rw [List.getD_eq_getElem?_getD, List.getElem?_eq_getElem hi]
  exact ho _ (List.getElem_mem hi)
set_option maxHeartbeats 4000000 in
theorem pc_ruleBitsK {p : Prm} {nl : Bool} {l : List Hd} {n q : Nat} (hp : p.per = (q : Int)) (hq : 1 ≤ q) (hn : l.length = n) (h0 : 0 < n) (hn1 : n ≤ 1000000) (hm : ¬ n % q = 0) : PC Try.prog G0 21 [] [p.pv, lpv nl l] [] (.tup [.int .u32 (l.getD (n - 1) default).bits, .int .i64 0]) := by
  refine PC.of (fn := Try.f21) (c := bodyOf Try.f21) Try.func21 (by kernel_rfl) (by kernel_rfl) (by kernel_rfl) (by kernel_rfl) ?_
  have g := map_get (l := l) (i := n - 1) (by omega)
  have hi : (n : Int) - 1 = ((n - 1 : Nat) : Int) := by omega
  unfold lpv
  rw [hn]
  generalize n - 1 = k at *
  refine W.ret [((7 : Nat), Ans.dec false), ((10 : Nat), Ans.val (PV.int IntKind.i64 (↑k : Int))), ((12 : Nat), Ans.val (PV.st (68 : Nat) [PV.int IntKind.u32 (↑(Hd.ver (List.getD l k default)) : Int), PV.iarr IntKind.u8 (32 : Nat) (Hd.prev (List.getD l k default)), PV.iarr IntKind.u8 (32 : Nat) (Hd.root (List.getD l k default)), PV.int IntKind.u32 (↑(Hd.time (List.getD l k default)) : Int), PV.int IntKind.u32 (↑(Hd.bits (List.getD l k default)) : Int), PV.int IntKind.u32 (↑(Hd.nonce (List.getD l k default)) : Int)])), ((17 : Nat), Ans.val (PV.int IntKind.i64 (↑q : Int))), ((18 : Nat), Ans.val (PV.int IntKind.i64 (↑(n % q) : Int))), ((19 : Nat), Ans.dec true)] [] [((↑n : Int) == (0 : Int)) = false, PV.int IntKind.i64 (IntKind.wrap IntKind.i64 ((↑n : Int) - (1 : Int))) = PV.int IntKind.i64 (↑k : Int), (0 : Int) ≤ (↑k : Int), (↑k : Int) < (↑n : Int), PV.st (68 : Nat) [PV.int IntKind.u32 (PV.num (List.headD (PV.fs (List.getD (List.map Hd.pv l) k PV.undef)) PV.undef)), PV.iarr IntKind.u8 (32 : Nat) (PV.nums (List.headD (List.tail (PV.fs (List.getD (List.map Hd.pv l) k PV.undef))) PV.undef)), PV.iarr IntKind.u8 (32 : Nat) (PV.nums (List.headD (List.tail (List.tail (PV.fs (List.getD (List.map Hd.pv l) k PV.undef)))) PV.undef)), PV.int IntKind.u32 (PV.num (List.headD (List.tail (List.tail (List.tail (PV.fs (List.getD (List.map Hd.pv l) k PV.undef))))) PV.undef)), PV.int IntKind.u32 (PV.num (List.headD (List.tail (List.tail (List.tail (List.tail (PV.fs (List.getD (List.map Hd.pv l) k PV.undef)))))) PV.undef)), PV.int IntKind.u32 (PV.num (List.headD (List.tail (List.tail (List.tail (List.tail (List.tail (PV.fs (List.getD (List.map Hd.pv l) k PV.undef))))))) PV.undef))] = PV.st (68 : Nat) [PV.int IntKind.u32 (↑(Hd.ver (List.getD l k default)) : Int), PV.iarr IntKind.u8 (32 : Nat) (Hd.prev (List.getD l k default)), PV.iarr IntKind.u8 (32 : Nat) (Hd.root (List.getD l k default)), PV.int IntKind.u32 (↑(Hd.time (List.getD l k default)) : Int), PV.int IntKind.u32 (↑(Hd.bits (List.getD l k default)) : Int), PV.int IntKind.u32 (↑(Hd.nonce (List.getD l k default)) : Int)], k < n, PV.int IntKind.i64 (Prm.per p) = PV.int IntKind.i64 (↑q : Int), PV.int IntKind.i64 (Int.tmod (↑n : Int) (↑q : Int)) = PV.int IntKind.i64 (↑(n % q) : Int), (↑q : Int) ≠ (0 : Int), ((↑(n % q) : Int) != (0 : Int)) = true, PV.tup [PV.int IntKind.u32 (↑(Hd.bits (List.getD l k default)) : Int), PV.int IntKind.i64 (0 : Int)] = PV.tup [PV.int IntKind.u32 (↑(Hd.bits (List.getD l k default)) : Int), PV.int IntKind.i64 (0 : Int)]] (by kernel_rfl) (ac (by exact decide_eq_false (by omega)) (ac (by exact congrArg (PV.int _) (w_i64 hi (by omega) (by omega))) (ac (by omega) (ac (by omega) (ac (by (rw [g]; rfl)) (ac (by omega) (ac (by exact congrArg (PV.int _) (hp)) (ac (by exact congrArg (PV.int _) (tmod_nat rfl rfl)) (ac (by omega) (ac (by exact bne_iff_ne.2 (by omega)) (ao (by with_reducible rfl))))))))))))
/-- a line's sum; an error's number -/
def tot (s : Nat) : List Hd → Nat × Int
  | [] => (s, 0)
  | h :: t => if tgt h.bits = 0 then (0, 5) else if W256 ≤ s + work (tgt h.bits) then (0, 14) else tot (s + work (tgt h.bits)) t
theorem tot_drop {s : Nat} {l : List Hd} {i : Nat} (hi : i < l.length) : tot s (l.drop i) = if tgt (l.getD i default).bits = 0 then (0, 5) else if W256 ≤ s + work (tgt (l.getD i default).bits) then (0, 14) else tot (s + work (tgt (l.getD i default).bits)) (l.drop (i + 1)) := by
  rw [List.drop_eq_getElem_cons hi, tot, List.getD_eq_getElem?_getD, List.getElem?_eq_getElem hi]
  rfl
def dsTot (p : Prm) (nl : Bool) (l : List Hd) (n s i : Nat) : DS := ⟨[(2, .at 2 []), (4, .at 4 []), (6, .at 6 []), (19, .vec nl (.parr 68 n hsh (l.map Hd.pv))), (20, .int .i64 n), (21, .int .i64 i)],
  [(2, ⟨p.pv, false⟩), (4, ⟨.iarr .u64 4 [0, 0, 0, 0], false⟩), (6, ⟨.iarr .u64 4 (uw s), false⟩)]⟩
set_option maxHeartbeats 4000000 in
theorem W_tot {p : Prm} {nl : Bool} {l : List Hd} {n : Nat} (hn : l.length = n) (hn1 : n ≤ 1000000) (ho : ∀ h ∈ l, h.Ok) : ∀ (k i s : Nat), i + k = n → s < W256 →
    W Try.prog G0 Try.f24 [] [] (.tup [.iarr .u64 4 (uw (tot s (l.drop i)).1), .int .i64 (tot s (l.drop i)).2]) (loopAt Try.f24 0) (dsTot p nl l n s i)
  | 0, i, s, hk, hs => by
    rw [List.drop_of_length_le (by omega)]
    unfold tot
    refine W.ret [((0 : Nat), Ans.dec false)] [] [decide ((↑i : Int) < (↑n : Int)) = false, PV.tup [PV.iarr IntKind.u64 (4 : Nat) (uw s), PV.int IntKind.i64 (0 : Int)] = PV.tup [PV.iarr IntKind.u64 (4 : Nat) (uw (Prod.fst (s, (0 : Int)))), PV.int IntKind.i64 (Prod.snd (s, (0 : Int)))]] (by kernel_rfl) (ac (by exact decide_eq_false (by omega)) (ao (by with_reducible rfl)))
  | k + 1, i, s, hk, hs => by
    rw [tot_drop (by omega)]
    have hb := (ok_get (i := i) ho (by omega)).bits
    have g := map_get (l := l) (i := i) (by omega)
    generalize l.getD i default = h at *
    by_cases h0 : tgt h.bits = 0
    · rw [if_pos h0]
      have c1 := pc_targetN hb h0
      refine W.ret [((0 : Nat), Ans.dec true), ((2 : Nat), Ans.val (PV.st (68 : Nat) [PV.int IntKind.u32 (↑(Hd.ver h) : Int), PV.iarr IntKind.u8 (32 : Nat) (Hd.prev h), PV.iarr IntKind.u8 (32 : Nat) (Hd.root h), PV.int IntKind.u32 (↑(Hd.time h) : Int), PV.int IntKind.u32 (↑(Hd.bits h) : Int), PV.int IntKind.u32 (↑(Hd.nonce h) : Int)])), ((7 : Nat), Ans.call true [] [] (PV.tup [PV.iarr IntKind.u64 (4 : Nat) (uw (0 : Nat)), PV.int IntKind.i64 (5 : Int)]))] [] [decide ((↑i : Int) < (↑n : Int)) = true, (0 : Int) ≤ (↑i : Int), (↑i : Int) < (↑n : Int), PV.st (68 : Nat) [PV.int IntKind.u32 (PV.num (List.headD (PV.fs (List.getD (List.map Hd.pv l) i PV.undef)) PV.undef)), PV.iarr IntKind.u8 (32 : Nat) (PV.nums (List.headD (List.tail (PV.fs (List.getD (List.map Hd.pv l) i PV.undef))) PV.undef)), PV.iarr IntKind.u8 (32 : Nat) (PV.nums (List.headD (List.tail (List.tail (PV.fs (List.getD (List.map Hd.pv l) i PV.undef)))) PV.undef)), PV.int IntKind.u32 (PV.num (List.headD (List.tail (List.tail (List.tail (PV.fs (List.getD (List.map Hd.pv l) i PV.undef))))) PV.undef)), PV.int IntKind.u32 (PV.num (List.headD (List.tail (List.tail (List.tail (List.tail (PV.fs (List.getD (List.map Hd.pv l) i PV.undef)))))) PV.undef)), PV.int IntKind.u32 (PV.num (List.headD (List.tail (List.tail (List.tail (List.tail (List.tail (PV.fs (List.getD (List.map Hd.pv l) i PV.undef))))))) PV.undef))] = PV.st (68 : Nat) [PV.int IntKind.u32 (↑(Hd.ver h) : Int), PV.iarr IntKind.u8 (32 : Nat) (Hd.prev h), PV.iarr IntKind.u8 (32 : Nat) (Hd.root h), PV.int IntKind.u32 (↑(Hd.time h) : Int), PV.int IntKind.u32 (↑(Hd.bits h) : Int), PV.int IntKind.u32 (↑(Hd.nonce h) : Int)], i < n, PC Try.prog G0 (30 : Nat) [] [PV.int IntKind.u32 (↑(Hd.bits h) : Int)] [] (PV.tup [PV.iarr IntKind.u64 (4 : Nat) (uw (0 : Nat)), PV.int IntKind.i64 (5 : Int)]), PV.tup [PV.iarr IntKind.u64 (4 : Nat) [(0 : Int), (0 : Int), (0 : Int), (0 : Int)], PV.int IntKind.i64 (5 : Int)] = PV.tup [PV.iarr IntKind.u64 (4 : Nat) (uw (Prod.fst ((0 : Nat), (5 : Int)))), PV.int IntKind.i64 (Prod.snd ((0 : Nat), (5 : Int)))]] (by kernel_rfl) (ac (by exact decide_eq_true (by omega)) (ac (by omega) (ac (by omega) (ac (by (rw [g]; rfl)) (ac (by omega) (ac (by exact c1) (ao (by rfl))))))))
    · rw [if_neg h0]
      have c1 := pc_targetY hb h0
      have c2 := pc_work (tgt_lt h.bits)
      have c3 := pc_wAdd hs (work_lt (t := tgt h.bits))
      by_cases h1 : W256 ≤ s + work (tgt h.bits)
      · rw [if_pos h1]
        rw [decide_eq_true h1] at c3
        refine W.ret [((0 : Nat), Ans.dec true), ((2 : Nat), Ans.val (PV.st (68 : Nat) [PV.int IntKind.u32 (↑(Hd.ver h) : Int), PV.iarr IntKind.u8 (32 : Nat) (Hd.prev h), PV.iarr IntKind.u8 (32 : Nat) (Hd.root h), PV.int IntKind.u32 (↑(Hd.time h) : Int), PV.int IntKind.u32 (↑(Hd.bits h) : Int), PV.int IntKind.u32 (↑(Hd.nonce h) : Int)])), ((7 : Nat), Ans.call true [] [] (PV.tup [PV.iarr IntKind.u64 (4 : Nat) (uw (tgt (Hd.bits h))), PV.int IntKind.i64 (0 : Int)])), ((18 : Nat), Ans.call true [] [] (PV.iarr IntKind.u64 (4 : Nat) (uw (work (tgt (Hd.bits h)))))), ((19 : Nat), Ans.call true [] [] (PV.tup [PV.iarr IntKind.u64 (4 : Nat) (uw ((s + work (tgt (Hd.bits h))) % W256)), PV.bool true]))] [] [decide ((↑i : Int) < (↑n : Int)) = true, (0 : Int) ≤ (↑i : Int), (↑i : Int) < (↑n : Int), PV.st (68 : Nat) [PV.int IntKind.u32 (PV.num (List.headD (PV.fs (List.getD (List.map Hd.pv l) i PV.undef)) PV.undef)), PV.iarr IntKind.u8 (32 : Nat) (PV.nums (List.headD (List.tail (PV.fs (List.getD (List.map Hd.pv l) i PV.undef))) PV.undef)), PV.iarr IntKind.u8 (32 : Nat) (PV.nums (List.headD (List.tail (List.tail (PV.fs (List.getD (List.map Hd.pv l) i PV.undef)))) PV.undef)), PV.int IntKind.u32 (PV.num (List.headD (List.tail (List.tail (List.tail (PV.fs (List.getD (List.map Hd.pv l) i PV.undef))))) PV.undef)), PV.int IntKind.u32 (PV.num (List.headD (List.tail (List.tail (List.tail (List.tail (PV.fs (List.getD (List.map Hd.pv l) i PV.undef)))))) PV.undef)), PV.int IntKind.u32 (PV.num (List.headD (List.tail (List.tail (List.tail (List.tail (List.tail (PV.fs (List.getD (List.map Hd.pv l) i PV.undef))))))) PV.undef))] = PV.st (68 : Nat) [PV.int IntKind.u32 (↑(Hd.ver h) : Int), PV.iarr IntKind.u8 (32 : Nat) (Hd.prev h), PV.iarr IntKind.u8 (32 : Nat) (Hd.root h), PV.int IntKind.u32 (↑(Hd.time h) : Int), PV.int IntKind.u32 (↑(Hd.bits h) : Int), PV.int IntKind.u32 (↑(Hd.nonce h) : Int)], i < n, PC Try.prog G0 (30 : Nat) [] [PV.int IntKind.u32 (↑(Hd.bits h) : Int)] [] (PV.tup [PV.iarr IntKind.u64 (4 : Nat) (uw (tgt (Hd.bits h))), PV.int IntKind.i64 (0 : Int)]), PC Try.prog G0 (42 : Nat) [] [PV.iarr IntKind.u64 (4 : Nat) (uw (tgt (Hd.bits h)))] [] (PV.iarr IntKind.u64 (4 : Nat) (uw (work (tgt (Hd.bits h))))), PC Try.prog G0 (41 : Nat) [] [PV.iarr IntKind.u64 (4 : Nat) (uw s), PV.iarr IntKind.u64 (4 : Nat) (uw (work (tgt (Hd.bits h))))] [] (PV.tup [PV.iarr IntKind.u64 (4 : Nat) (uw ((s + work (tgt (Hd.bits h))) % W256)), PV.bool true]), PV.tup [PV.iarr IntKind.u64 (4 : Nat) [(0 : Int), (0 : Int), (0 : Int), (0 : Int)], PV.int IntKind.i64 (14 : Int)] = PV.tup [PV.iarr IntKind.u64 (4 : Nat) (uw (Prod.fst ((0 : Nat), (14 : Int)))), PV.int IntKind.i64 (Prod.snd ((0 : Nat), (14 : Int)))]] (by kernel_rfl) (ac (by exact decide_eq_true (by omega)) (ac (by omega) (ac (by omega) (ac (by (rw [g]; rfl)) (ac (by omega) (ac (by exact c1) (ac (by exact c2) (ac (by exact c3) (ao (by rfl))))))))))
      · rw [if_neg h1]
        rw [decide_eq_false h1, Nat.mod_eq_of_lt (by omega)] at c3
        have hs2 : s + work (tgt h.bits) < W256 := by omega
        generalize s + work (tgt h.bits) = s2 at *
        refine W.seg [((0 : Nat), Ans.dec true), ((2 : Nat), Ans.val (PV.st (68 : Nat) [PV.int IntKind.u32 (↑(Hd.ver h) : Int), PV.iarr IntKind.u8 (32 : Nat) (Hd.prev h), PV.iarr IntKind.u8 (32 : Nat) (Hd.root h), PV.int IntKind.u32 (↑(Hd.time h) : Int), PV.int IntKind.u32 (↑(Hd.bits h) : Int), PV.int IntKind.u32 (↑(Hd.nonce h) : Int)])), ((7 : Nat), Ans.call true [] [] (PV.tup [PV.iarr IntKind.u64 (4 : Nat) (uw (tgt (Hd.bits h))), PV.int IntKind.i64 (0 : Int)])), ((18 : Nat), Ans.call true [] [] (PV.iarr IntKind.u64 (4 : Nat) (uw (work (tgt (Hd.bits h)))))), ((19 : Nat), Ans.call true [] [] (PV.tup [PV.iarr IntKind.u64 (4 : Nat) (uw s2), PV.bool false])), ((29 : Nat), Ans.val (PV.int IntKind.i64 (↑(i + (1 : Nat)) : Int)))] [((2 : Nat), (2 : Nat)), ((4 : Nat), (4 : Nat)), ((6 : Nat), (6 : Nat))] (dsTot p nl l n s2 (i + (1 : Nat))) (todo' := loopAt Try.f24 (0 : Nat)) [decide ((↑i : Int) < (↑n : Int)) = true, (0 : Int) ≤ (↑i : Int), (↑i : Int) < (↑n : Int), PV.st (68 : Nat) [PV.int IntKind.u32 (PV.num (List.headD (PV.fs (List.getD (List.map Hd.pv l) i PV.undef)) PV.undef)), PV.iarr IntKind.u8 (32 : Nat) (PV.nums (List.headD (List.tail (PV.fs (List.getD (List.map Hd.pv l) i PV.undef))) PV.undef)), PV.iarr IntKind.u8 (32 : Nat) (PV.nums (List.headD (List.tail (List.tail (PV.fs (List.getD (List.map Hd.pv l) i PV.undef)))) PV.undef)), PV.int IntKind.u32 (PV.num (List.headD (List.tail (List.tail (List.tail (PV.fs (List.getD (List.map Hd.pv l) i PV.undef))))) PV.undef)), PV.int IntKind.u32 (PV.num (List.headD (List.tail (List.tail (List.tail (List.tail (PV.fs (List.getD (List.map Hd.pv l) i PV.undef)))))) PV.undef)), PV.int IntKind.u32 (PV.num (List.headD (List.tail (List.tail (List.tail (List.tail (List.tail (PV.fs (List.getD (List.map Hd.pv l) i PV.undef))))))) PV.undef))] = PV.st (68 : Nat) [PV.int IntKind.u32 (↑(Hd.ver h) : Int), PV.iarr IntKind.u8 (32 : Nat) (Hd.prev h), PV.iarr IntKind.u8 (32 : Nat) (Hd.root h), PV.int IntKind.u32 (↑(Hd.time h) : Int), PV.int IntKind.u32 (↑(Hd.bits h) : Int), PV.int IntKind.u32 (↑(Hd.nonce h) : Int)], i < n, PC Try.prog G0 (30 : Nat) [] [PV.int IntKind.u32 (↑(Hd.bits h) : Int)] [] (PV.tup [PV.iarr IntKind.u64 (4 : Nat) (uw (tgt (Hd.bits h))), PV.int IntKind.i64 (0 : Int)]), PC Try.prog G0 (42 : Nat) [] [PV.iarr IntKind.u64 (4 : Nat) (uw (tgt (Hd.bits h)))] [] (PV.iarr IntKind.u64 (4 : Nat) (uw (work (tgt (Hd.bits h))))), PC Try.prog G0 (41 : Nat) [] [PV.iarr IntKind.u64 (4 : Nat) (uw s), PV.iarr IntKind.u64 (4 : Nat) (uw (work (tgt (Hd.bits h))))] [] (PV.tup [PV.iarr IntKind.u64 (4 : Nat) (uw s2), PV.bool false]), PV.int IntKind.i64 (IntKind.wrap IntKind.i64 ((↑i : Int) + (1 : Int))) = PV.int IntKind.i64 (↑(i + (1 : Nat)) : Int), PV.at (2 : Nat) [] = PV.at (2 : Nat) [], PV.at (4 : Nat) [] = PV.at (4 : Nat) [], PV.at (6 : Nat) [] = PV.at (6 : Nat) [], PV.vec nl (PV.parr (68 : Nat) n (Sh.st (68 : Nat) [Sh.int IntKind.u32, Sh.iarr IntKind.u8 (32 : Nat), Sh.iarr IntKind.u8 (32 : Nat), Sh.int IntKind.u32, Sh.int IntKind.u32, Sh.int IntKind.u32]) (List.map Hd.pv l)) = PV.vec nl (PV.parr (68 : Nat) n (Sh.st (68 : Nat) [Sh.int IntKind.u32, Sh.iarr IntKind.u8 (32 : Nat), Sh.iarr IntKind.u8 (32 : Nat), Sh.int IntKind.u32, Sh.int IntKind.u32, Sh.int IntKind.u32]) (List.map Hd.pv l)), PV.int IntKind.i64 (↑n : Int) = PV.int IntKind.i64 (↑n : Int), PV.int IntKind.i64 (↑(i + (1 : Nat)) : Int) = PV.int IntKind.i64 (↑(i + (1 : Nat)) : Int), PV.st (77 : Nat) [PV.int IntKind.u32 (↑(Prm.lim p) : Int), PV.int IntKind.i64 (Prm.per p), PV.int IntKind.i64 (Prm.sp p), PV.int IntKind.i64 (Prm.fu p), PV.int IntKind.i64 (Prm.cap p), PV.st (68 : Nat) [PV.int IntKind.u32 (↑(Hd.ver (Prm.gen p)) : Int), PV.iarr IntKind.u8 (32 : Nat) (Hd.prev (Prm.gen p)), PV.iarr IntKind.u8 (32 : Nat) (Hd.root (Prm.gen p)), PV.int IntKind.u32 (↑(Hd.time (Prm.gen p)) : Int), PV.int IntKind.u32 (↑(Hd.bits (Prm.gen p)) : Int), PV.int IntKind.u32 (↑(Hd.nonce (Prm.gen p)) : Int)], PV.iarr IntKind.u64 (4 : Nat) (uw (Prm.sum p))] = PV.st (77 : Nat) [PV.int IntKind.u32 (↑(Prm.lim p) : Int), PV.int IntKind.i64 (Prm.per p), PV.int IntKind.i64 (Prm.sp p), PV.int IntKind.i64 (Prm.fu p), PV.int IntKind.i64 (Prm.cap p), PV.st (68 : Nat) [PV.int IntKind.u32 (↑(Hd.ver (Prm.gen p)) : Int), PV.iarr IntKind.u8 (32 : Nat) (Hd.prev (Prm.gen p)), PV.iarr IntKind.u8 (32 : Nat) (Hd.root (Prm.gen p)), PV.int IntKind.u32 (↑(Hd.time (Prm.gen p)) : Int), PV.int IntKind.u32 (↑(Hd.bits (Prm.gen p)) : Int), PV.int IntKind.u32 (↑(Hd.nonce (Prm.gen p)) : Int)], PV.iarr IntKind.u64 (4 : Nat) (uw (Prm.sum p))], PV.iarr IntKind.u64 (4 : Nat) [(0 : Int), (0 : Int), (0 : Int), (0 : Int)] = PV.iarr IntKind.u64 (4 : Nat) [(0 : Int), (0 : Int), (0 : Int), (0 : Int)], PV.iarr IntKind.u64 (4 : Nat) (uw s2) = PV.iarr IntKind.u64 (4 : Nat) (uw s2)] (by kernel_rfl) (ac (by exact decide_eq_true (by omega)) (ac (by omega) (ac (by omega) (ac (by (rw [g]; rfl)) (ac (by omega) (ac (by exact c1) (ac (by exact c2) (ac (by exact c3) (ac (by exact congrArg (PV.int _) (w_i64 rfl (by omega) (by omega))) (ac (by with_reducible rfl) (ac (by with_reducible rfl) (ac (by with_reducible rfl) (ac (by with_reducible rfl) (ac (by with_reducible rfl) (ac (by with_reducible rfl) (ac (by with_reducible rfl) (ac (by with_reducible rfl) (ao (by with_reducible rfl))))))))))))))))))) ?_
        exact W_tot hn hn1 ho k (i + 1) _ (by omega) hs2
theorem mn_one (n : Nat) : mn 1 (n : Int) = ((n - (n - 1) : Nat) : Int) := by unfold mn; split <;> omega
set_option maxHeartbeats 4000000 in
theorem pc_total {p : Prm} {nl : Bool} {l : List Hd} (hn1 : l.length ≤ 1000000) (ho : ∀ h ∈ l, h.Ok) (hs : p.sum < W256) :
    PC Try.prog G0 24 [] [p.pv, lpv nl l] [] (.tup [.iarr .u64 4 (uw (tot p.sum (l.drop 1)).1), .int .i64 (tot p.sum (l.drop 1)).2]) := by
  refine PC.of (fn := Try.f24) (c := bodyOf Try.f24) Try.func24 (by kernel_rfl) (by kernel_rfl) (by kernel_rfl) (by kernel_rfl) ?_
  have hm := mn_one l.length
  have hl : (l.drop 1).length = l.length - 1 := by simp
  have hk : l.length - (l.length - 1) ≤ l.length := by omega
  have hd : (l.length : Int) - ((l.length - (l.length - 1) : Nat) : Int) = ((l.length - 1 : Nat) : Int) := by omega
  refine W.seg [((10 : Nat), Ans.val (PV.int IntKind.i64 (↑(List.length l - (List.length l - (1 : Nat))) : Int))), ((11 : Nat), Ans.val (PV.vec nl (PV.parr (68 : Nat) (Int.toNat ((↑(List.length l) : Int) - (↑(List.length l - (List.length l - (1 : Nat))) : Int))) (Sh.st (68 : Nat) [Sh.int IntKind.u32, Sh.iarr IntKind.u8 (32 : Nat), Sh.iarr IntKind.u8 (32 : Nat), Sh.int IntKind.u32, Sh.int IntKind.u32, Sh.int IntKind.u32]) (List.take (Int.toNat ((↑(List.length l) : Int) - (↑(List.length l - (List.length l - (1 : Nat))) : Int))) (drop0 (List.map Hd.pv l) (List.length l - (List.length l - (1 : Nat))))))))] [((64 : Nat), (2 : Nat)), ((80 : Nat), (4 : Nat)), ((144 : Nat), (6 : Nat))] (dsTot p nl (List.drop (1 : Nat) l) (List.length l - (1 : Nat)) (Prm.sum p) (0 : Nat)) (todo' := loopAt Try.f24 (0 : Nat)) [PV.int IntKind.i64 (mn (1 : Int) (↑(List.length l) : Int)) = PV.int IntKind.i64 (↑(List.length l - (List.length l - (1 : Nat))) : Int), PV.vec nl (PV.parr (68 : Nat) (Int.toNat ((↑(List.length l) : Int) - (↑(List.length l - (List.length l - (1 : Nat))) : Int))) (Sh.st (68 : Nat) [Sh.int IntKind.u32, Sh.iarr IntKind.u8 (32 : Nat), Sh.iarr IntKind.u8 (32 : Nat), Sh.int IntKind.u32, Sh.int IntKind.u32, Sh.int IntKind.u32]) (List.take (Int.toNat ((↑(List.length l) : Int) - (↑(List.length l - (List.length l - (1 : Nat))) : Int))) (drop0 (List.map Hd.pv l) (Int.toNat (↑(List.length l - (List.length l - (1 : Nat))) : Int))))) = PV.vec nl (PV.parr (68 : Nat) (Int.toNat ((↑(List.length l) : Int) - (↑(List.length l - (List.length l - (1 : Nat))) : Int))) (Sh.st (68 : Nat) [Sh.int IntKind.u32, Sh.iarr IntKind.u8 (32 : Nat), Sh.iarr IntKind.u8 (32 : Nat), Sh.int IntKind.u32, Sh.int IntKind.u32, Sh.int IntKind.u32]) (List.take (Int.toNat ((↑(List.length l) : Int) - (↑(List.length l - (List.length l - (1 : Nat))) : Int))) (drop0 (List.map Hd.pv l) (List.length l - (List.length l - (1 : Nat)))))), (0 : Int) ≤ (↑(List.length l - (List.length l - (1 : Nat))) : Int), (↑(List.length l - (List.length l - (1 : Nat))) : Int) ≤ (↑(List.length l) : Int), (↑(List.length l) : Int) ≤ (↑(List.length l) : Int), PV.at (2 : Nat) [] = PV.at (2 : Nat) [], PV.at (4 : Nat) [] = PV.at (4 : Nat) [], PV.at (6 : Nat) [] = PV.at (6 : Nat) [], PV.vec nl (PV.parr (68 : Nat) (Int.toNat ((↑(List.length l) : Int) - (↑(List.length l - (List.length l - (1 : Nat))) : Int))) (Sh.st (68 : Nat) [Sh.int IntKind.u32, Sh.iarr IntKind.u8 (32 : Nat), Sh.iarr IntKind.u8 (32 : Nat), Sh.int IntKind.u32, Sh.int IntKind.u32, Sh.int IntKind.u32]) (List.take (Int.toNat ((↑(List.length l) : Int) - (↑(List.length l - (List.length l - (1 : Nat))) : Int))) (drop0 (List.map Hd.pv l) (List.length l - (List.length l - (1 : Nat)))))) = PV.vec nl (PV.parr (68 : Nat) (List.length l - (1 : Nat)) (Sh.st (68 : Nat) [Sh.int IntKind.u32, Sh.iarr IntKind.u8 (32 : Nat), Sh.iarr IntKind.u8 (32 : Nat), Sh.int IntKind.u32, Sh.int IntKind.u32, Sh.int IntKind.u32]) (List.map Hd.pv (List.drop (1 : Nat) l))), PV.int IntKind.i64 (↑(Int.toNat ((↑(List.length l) : Int) - (↑(List.length l - (List.length l - (1 : Nat))) : Int))) : Int) = PV.int IntKind.i64 (↑(List.length l - (1 : Nat)) : Int), PV.int IntKind.i64 (0 : Int) = PV.int IntKind.i64 (↑(0 : Nat) : Int), PV.st (77 : Nat) [PV.int IntKind.u32 (↑(Prm.lim p) : Int), PV.int IntKind.i64 (Prm.per p), PV.int IntKind.i64 (Prm.sp p), PV.int IntKind.i64 (Prm.fu p), PV.int IntKind.i64 (Prm.cap p), PV.st (68 : Nat) [PV.int IntKind.u32 (↑(Hd.ver (Prm.gen p)) : Int), PV.iarr IntKind.u8 (32 : Nat) (Hd.prev (Prm.gen p)), PV.iarr IntKind.u8 (32 : Nat) (Hd.root (Prm.gen p)), PV.int IntKind.u32 (↑(Hd.time (Prm.gen p)) : Int), PV.int IntKind.u32 (↑(Hd.bits (Prm.gen p)) : Int), PV.int IntKind.u32 (↑(Hd.nonce (Prm.gen p)) : Int)], PV.iarr IntKind.u64 (4 : Nat) (uw (Prm.sum p))] = PV.st (77 : Nat) [PV.int IntKind.u32 (↑(Prm.lim p) : Int), PV.int IntKind.i64 (Prm.per p), PV.int IntKind.i64 (Prm.sp p), PV.int IntKind.i64 (Prm.fu p), PV.int IntKind.i64 (Prm.cap p), PV.st (68 : Nat) [PV.int IntKind.u32 (↑(Hd.ver (Prm.gen p)) : Int), PV.iarr IntKind.u8 (32 : Nat) (Hd.prev (Prm.gen p)), PV.iarr IntKind.u8 (32 : Nat) (Hd.root (Prm.gen p)), PV.int IntKind.u32 (↑(Hd.time (Prm.gen p)) : Int), PV.int IntKind.u32 (↑(Hd.bits (Prm.gen p)) : Int), PV.int IntKind.u32 (↑(Hd.nonce (Prm.gen p)) : Int)], PV.iarr IntKind.u64 (4 : Nat) (uw (Prm.sum p))], PV.iarr IntKind.u64 (4 : Nat) [(0 : Int), (0 : Int), (0 : Int), (0 : Int)] = PV.iarr IntKind.u64 (4 : Nat) [(0 : Int), (0 : Int), (0 : Int), (0 : Int)], PV.iarr IntKind.u64 (4 : Nat) (uw (Prm.sum p)) = PV.iarr IntKind.u64 (4 : Nat) (uw (Prm.sum p))] (by kernel_rfl) (ac (by exact congrArg (PV.int _) (hm)) (ac (by simp only [Int.toNat_natCast]) (ac (by omega) (ac (by omega) (ac (by omega) (ac (by with_reducible rfl) (ac (by with_reducible rfl) (ac (by with_reducible rfl) (ac ?_ (ac (by exact congrArg (PV.int _) (by omega)) (ac (by exact congrArg (PV.int _) (by omega)) (ac (by with_reducible rfl) (ac (by with_reducible rfl) (ao (by with_reducible rfl))))))))))))))) ?_
  · have e1 : ((l.length : Int) - ((l.length - (l.length - 1) : Nat) : Int)).toNat = l.length - 1 := by omega
    have e2 : l.drop (l.length - (l.length - 1)) = l.drop 1 := by
      cases l with
      | nil => rfl
      | cons a t => rw [show (a :: t).length - ((a :: t).length - 1) = 1 by simp only [List.length_cons]; omega]
    rw [e1, drop0_eq, ← List.map_drop, e2, List.take_of_length_le (by simp)]
  exact W_tot hl (by omega) (fun h hh => ho h (List.mem_of_mem_drop hh)) _ 0 _ (Nat.zero_add _) hs
end Go.Proofs
namespace Go.Proofs
open Go Go.Pe Go.Pm
set_option maxRecDepth 100000
set_option linter.unusedVariables false
theorem pc_ref7 (h : Hd) : PC Try.prog G0 22 [] [h.pv] [] h.pv := by
  refine PC.of (fn := Try.f22) (c := bodyOf Try.f22) Try.func22 (by kernel_rfl) (by kernel_rfl) (by kernel_rfl) (by kernel_rfl) ?_
  refine W.ret [] [] [PV.st (68 : Nat) [PV.int IntKind.u32 (↑(Hd.ver h) : Int), PV.iarr IntKind.u8 (32 : Nat) (Hd.prev h), PV.iarr IntKind.u8 (32 : Nat) (Hd.root h), PV.int IntKind.u32 (↑(Hd.time h) : Int), PV.int IntKind.u32 (↑(Hd.bits h) : Int), PV.int IntKind.u32 (↑(Hd.nonce h) : Int)] = PV.st (68 : Nat) [PV.int IntKind.u32 (↑(Hd.ver h) : Int), PV.iarr IntKind.u8 (32 : Nat) (Hd.prev h), PV.iarr IntKind.u8 (32 : Nat) (Hd.root h), PV.int IntKind.u32 (↑(Hd.time h) : Int), PV.int IntKind.u32 (↑(Hd.bits h) : Int), PV.int IntKind.u32 (↑(Hd.nonce h) : Int)]] (by kernel_rfl) (ao (by with_reducible rfl))
theorem pc_bOf4 {v : Nat} (hv : v < W256) : PC Try.prog G0 37 [] [.vec false (.iarr .u64 4 (uw v))] [] (bv false v) := by
  have h := pc_bOf (nl := false) (m := 4) (v := v) (ws := uw v) (by omega) (by omega) rfl (nd_le.1 (nd_W256.2 hv))
  exact h
set_option maxHeartbeats 4000000 in
theorem pc_rref {p : Prm} (hs : p.sum < W256) : PC Try.prog G0 19 [] [p.pv] [] p.rpv := by
  refine PC.of (fn := Try.f19) (c := bodyOf Try.f19) Try.func19 (by kernel_rfl) (by kernel_rfl) (by kernel_rfl) (by kernel_rfl) ?_
  have g1 := pc_ref7 p.gen
  have g2 := pc_bOf4 hs
  unfold uw at g2
  refine W.ret [((14 : Nat), Ans.call true [] [] (PV.st (68 : Nat) [PV.int IntKind.u32 (↑(Hd.ver (Prm.gen p)) : Int), PV.iarr IntKind.u8 (32 : Nat) (Hd.prev (Prm.gen p)), PV.iarr IntKind.u8 (32 : Nat) (Hd.root (Prm.gen p)), PV.int IntKind.u32 (↑(Hd.time (Prm.gen p)) : Int), PV.int IntKind.u32 (↑(Hd.bits (Prm.gen p)) : Int), PV.int IntKind.u32 (↑(Hd.nonce (Prm.gen p)) : Int)])), ((17 : Nat), Ans.val (PV.int IntKind.u64 (↑(Prm.sum p % (18446744073709551616 : Nat)) : Int))), ((20 : Nat), Ans.val (PV.int IntKind.u64 (↑(Prm.sum p / (18446744073709551616 : Nat) % (18446744073709551616 : Nat)) : Int))), ((23 : Nat), Ans.val (PV.int IntKind.u64 (↑(Prm.sum p / (18446744073709551616 : Nat) / (18446744073709551616 : Nat) % (18446744073709551616 : Nat)) : Int))), ((26 : Nat), Ans.val (PV.int IntKind.u64 (↑(Prm.sum p / (18446744073709551616 : Nat) / (18446744073709551616 : Nat) / (18446744073709551616 : Nat) % (18446744073709551616 : Nat)) : Int))), ((28 : Nat), Ans.call false [] [] (PV.vec false (PV.iarr IntKind.i64 (nd (Prm.sum p)) (dg (Prm.sum p)))))] [] [PC Try.prog G0 (22 : Nat) [] [PV.st (68 : Nat) [PV.int IntKind.u32 (↑(Hd.ver (Prm.gen p)) : Int), PV.iarr IntKind.u8 (32 : Nat) (Hd.prev (Prm.gen p)), PV.iarr IntKind.u8 (32 : Nat) (Hd.root (Prm.gen p)), PV.int IntKind.u32 (↑(Hd.time (Prm.gen p)) : Int), PV.int IntKind.u32 (↑(Hd.bits (Prm.gen p)) : Int), PV.int IntKind.u32 (↑(Hd.nonce (Prm.gen p)) : Int)]] [] (PV.st (68 : Nat) [PV.int IntKind.u32 (↑(Hd.ver (Prm.gen p)) : Int), PV.iarr IntKind.u8 (32 : Nat) (Hd.prev (Prm.gen p)), PV.iarr IntKind.u8 (32 : Nat) (Hd.root (Prm.gen p)), PV.int IntKind.u32 (↑(Hd.time (Prm.gen p)) : Int), PV.int IntKind.u32 (↑(Hd.bits (Prm.gen p)) : Int), PV.int IntKind.u32 (↑(Hd.nonce (Prm.gen p)) : Int)]), (0 : Int) ≤ (0 : Int), (0 : Int) < (↑(4 : Nat) : Int), PV.int IntKind.u64 (List.getD (uw (Prm.sum p)) (0 : Nat) (0 : Int)) = PV.int IntKind.u64 (↑(Prm.sum p % (18446744073709551616 : Nat)) : Int), (0 : Nat) < (4 : Nat), (0 : Int) ≤ (1 : Int), (1 : Int) < (↑(4 : Nat) : Int), PV.int IntKind.u64 (List.getD (uw (Prm.sum p)) (1 : Nat) (0 : Int)) = PV.int IntKind.u64 (↑(Prm.sum p / (18446744073709551616 : Nat) % (18446744073709551616 : Nat)) : Int), (1 : Nat) < (4 : Nat), (0 : Int) ≤ (2 : Int), (2 : Int) < (↑(4 : Nat) : Int), PV.int IntKind.u64 (List.getD (uw (Prm.sum p)) (2 : Nat) (0 : Int)) = PV.int IntKind.u64 (↑(Prm.sum p / (18446744073709551616 : Nat) / (18446744073709551616 : Nat) % (18446744073709551616 : Nat)) : Int), (2 : Nat) < (4 : Nat), (0 : Int) ≤ (3 : Int), (3 : Int) < (↑(4 : Nat) : Int), PV.int IntKind.u64 (List.getD (uw (Prm.sum p)) (3 : Nat) (0 : Int)) = PV.int IntKind.u64 (↑(Prm.sum p / (18446744073709551616 : Nat) / (18446744073709551616 : Nat) / (18446744073709551616 : Nat) % (18446744073709551616 : Nat)) : Int), (3 : Nat) < (4 : Nat), (4 : Nat) ≤ (4 : Nat), PC Try.prog G0 (37 : Nat) [] [PV.vec false (PV.iarr IntKind.u64 (4 : Nat) [(↑(Prm.sum p % (18446744073709551616 : Nat)) : Int), (↑(Prm.sum p / (18446744073709551616 : Nat) % (18446744073709551616 : Nat)) : Int), (↑(Prm.sum p / (18446744073709551616 : Nat) / (18446744073709551616 : Nat) % (18446744073709551616 : Nat)) : Int), (↑(Prm.sum p / (18446744073709551616 : Nat) / (18446744073709551616 : Nat) / (18446744073709551616 : Nat) % (18446744073709551616 : Nat)) : Int)])] [] (PV.vec false (PV.iarr IntKind.i64 (nd (Prm.sum p)) (dg (Prm.sum p)))), PV.st (74 : Nat) [PV.int IntKind.u32 (↑(Prm.lim p) : Int), PV.int IntKind.i64 (Prm.per p), PV.int IntKind.i64 (Prm.sp p), PV.int IntKind.i64 (Prm.fu p), PV.int IntKind.i64 (Prm.cap p), PV.st (68 : Nat) [PV.int IntKind.u32 (↑(Hd.ver (Prm.gen p)) : Int), PV.iarr IntKind.u8 (32 : Nat) (Hd.prev (Prm.gen p)), PV.iarr IntKind.u8 (32 : Nat) (Hd.root (Prm.gen p)), PV.int IntKind.u32 (↑(Hd.time (Prm.gen p)) : Int), PV.int IntKind.u32 (↑(Hd.bits (Prm.gen p)) : Int), PV.int IntKind.u32 (↑(Hd.nonce (Prm.gen p)) : Int)], PV.vec false (PV.iarr IntKind.i64 (nd (Prm.sum p)) (dg (Prm.sum p)))] = PV.st (74 : Nat) [PV.int IntKind.u32 (↑(Prm.lim p) : Int), PV.int IntKind.i64 (Prm.per p), PV.int IntKind.i64 (Prm.sp p), PV.int IntKind.i64 (Prm.fu p), PV.int IntKind.i64 (Prm.cap p), PV.st (68 : Nat) [PV.int IntKind.u32 (↑(Hd.ver (Prm.gen p)) : Int), PV.iarr IntKind.u8 (32 : Nat) (Hd.prev (Prm.gen p)), PV.iarr IntKind.u8 (32 : Nat) (Hd.root (Prm.gen p)), PV.int IntKind.u32 (↑(Hd.time (Prm.gen p)) : Int), PV.int IntKind.u32 (↑(Hd.bits (Prm.gen p)) : Int), PV.int IntKind.u32 (↑(Hd.nonce (Prm.gen p)) : Int)], PV.vec false (PV.iarr IntKind.i64 (nd (Prm.sum p)) (dg (Prm.sum p)))]] (by kernel_rfl) (ac (by exact g1) (ac (by omega) (ac (by omega) (ac (by exact congrArg (PV.int _) (by rfl)) (ac (by omega) (ac (by omega) (ac (by omega) (ac (by exact congrArg (PV.int _) (by rfl)) (ac (by omega) (ac (by omega) (ac (by omega) (ac (by exact congrArg (PV.int _) (by rfl)) (ac (by omega) (ac (by omega) (ac (by omega) (ac (by exact congrArg (PV.int _) (by rfl)) (ac (by omega) (ac (by omega) (ac (by exact g2) (ao (by with_reducible rfl)))))))))))))))))))))
def z32 : List Int := [0, 0, 0, 0, 0, 0, 0, 0, 0, 0, 0, 0, 0, 0, 0, 0, 0, 0, 0, 0, 0, 0, 0, 0, 0, 0, 0, 0, 0, 0, 0, 0]
def plainP : Prm := ⟨545259519, 4, 10, 100, 50, ⟨0, z32, z32, 1000, 545259519, 0⟩, 0⟩
def zeroP : Prm := ⟨0, 0, 0, 0, 0, ⟨0, z32, z32, 0, 0, 0⟩, 0⟩
theorem plain_ok : plainP.Ok := ⟨by decide, ⟨by decide, by decide, by decide, by decide, rfl, rfl, by decide, by decide⟩, by decide⟩
theorem zero_ok : zeroP.Ok := ⟨by decide, ⟨by decide, by decide, by decide, by decide, rfl, rfl, by decide, by decide⟩, by decide⟩
theorem plain_may : plainP.May := ⟨by decide +kernel, by decide +kernel, by decide +kernel, by decide, by decide, by decide, by decide⟩
theorem zero_may : ¬ zeroP.May := fun h => by have := h.per; revert this; decide
theorem pc_plain : PC Try.prog G0 38 [] [] [] plainP.pv := by
  refine PC.of (fn := Try.f38) (c := bodyOf Try.f38) Try.func38 (by kernel_rfl) (by kernel_rfl) (by kernel_rfl) (by kernel_rfl) ?_
  refine W.ret [] [] [PV.st (77 : Nat) [PV.int IntKind.u32 (545259519 : Int), PV.int IntKind.i64 (4 : Int), PV.int IntKind.i64 (10 : Int), PV.int IntKind.i64 (100 : Int), PV.int IntKind.i64 (50 : Int), PV.st (68 : Nat) [PV.int IntKind.u32 (0 : Int), PV.iarr IntKind.u8 (32 : Nat) [(0 : Int), (0 : Int), (0 : Int), (0 : Int), (0 : Int), (0 : Int), (0 : Int), (0 : Int), (0 : Int), (0 : Int), (0 : Int), (0 : Int), (0 : Int), (0 : Int), (0 : Int), (0 : Int), (0 : Int), (0 : Int), (0 : Int), (0 : Int), (0 : Int), (0 : Int), (0 : Int), (0 : Int), (0 : Int), (0 : Int), (0 : Int), (0 : Int), (0 : Int), (0 : Int), (0 : Int), (0 : Int)], PV.iarr IntKind.u8 (32 : Nat) [(0 : Int), (0 : Int), (0 : Int), (0 : Int), (0 : Int), (0 : Int), (0 : Int), (0 : Int), (0 : Int), (0 : Int), (0 : Int), (0 : Int), (0 : Int), (0 : Int), (0 : Int), (0 : Int), (0 : Int), (0 : Int), (0 : Int), (0 : Int), (0 : Int), (0 : Int), (0 : Int), (0 : Int), (0 : Int), (0 : Int), (0 : Int), (0 : Int), (0 : Int), (0 : Int), (0 : Int), (0 : Int)], PV.int IntKind.u32 (1000 : Int), PV.int IntKind.u32 (545259519 : Int), PV.int IntKind.u32 (0 : Int)], PV.iarr IntKind.u64 (4 : Nat) [(0 : Int), (0 : Int), (0 : Int), (0 : Int)]] = PV.st (77 : Nat) [PV.int IntKind.u32 (↑(545259519 : Nat) : Int), PV.int IntKind.i64 (Prm.per plainP), PV.int IntKind.i64 (Prm.sp plainP), PV.int IntKind.i64 (Prm.fu plainP), PV.int IntKind.i64 (Prm.cap plainP), PV.st (68 : Nat) [PV.int IntKind.u32 (↑(0 : Nat) : Int), PV.iarr IntKind.u8 (32 : Nat) [(0 : Int), (0 : Int), (0 : Int), (0 : Int), (0 : Int), (0 : Int), (0 : Int), (0 : Int), (0 : Int), (0 : Int), (0 : Int), (0 : Int), (0 : Int), (0 : Int), (0 : Int), (0 : Int), (0 : Int), (0 : Int), (0 : Int), (0 : Int), (0 : Int), (0 : Int), (0 : Int), (0 : Int), (0 : Int), (0 : Int), (0 : Int), (0 : Int), (0 : Int), (0 : Int), (0 : Int), (0 : Int)], PV.iarr IntKind.u8 (32 : Nat) [(0 : Int), (0 : Int), (0 : Int), (0 : Int), (0 : Int), (0 : Int), (0 : Int), (0 : Int), (0 : Int), (0 : Int), (0 : Int), (0 : Int), (0 : Int), (0 : Int), (0 : Int), (0 : Int), (0 : Int), (0 : Int), (0 : Int), (0 : Int), (0 : Int), (0 : Int), (0 : Int), (0 : Int), (0 : Int), (0 : Int), (0 : Int), (0 : Int), (0 : Int), (0 : Int), (0 : Int), (0 : Int)], PV.int IntKind.u32 (↑(1000 : Nat) : Int), PV.int IntKind.u32 (↑(545259519 : Nat) : Int), PV.int IntKind.u32 (↑(0 : Nat) : Int)], PV.iarr IntKind.u64 (4 : Nat) (uw (Prm.sum plainP))]] (by kernel_rfl) (ao (by rfl))
set_option maxHeartbeats 4000000 in
theorem pc_awake19 : PC Try.prog G0 20 [] [] [] (.bool true) := by
  refine PC.of (fn := Try.f20) (c := bodyOf Try.f20) Try.func20 (by kernel_rfl) (by kernel_rfl) (by kernel_rfl) (by kernel_rfl) ?_
  have g1 := pc_checkY plain_ok plain_may
  have g2 := pc_checkN zero_ok zero_may
  have g3 := pc_ruleBitsK (p := plainP) (nl := false) (l := [plainP.gen]) (n := 1) (q := 4) rfl (by omega) rfl (by omega) (by omega) (by omega)
  have g4 := pc_plain
  refine W.ret [((1 : Nat), Ans.call true [] [] (PV.st (77 : Nat) [PV.int IntKind.u32 (↑(545259519 : Nat) : Int), PV.int IntKind.i64 (Prm.per plainP), PV.int IntKind.i64 (Prm.sp plainP), PV.int IntKind.i64 (Prm.fu plainP), PV.int IntKind.i64 (Prm.cap plainP), PV.st (68 : Nat) [PV.int IntKind.u32 (↑(0 : Nat) : Int), PV.iarr IntKind.u8 (32 : Nat) [(0 : Int), (0 : Int), (0 : Int), (0 : Int), (0 : Int), (0 : Int), (0 : Int), (0 : Int), (0 : Int), (0 : Int), (0 : Int), (0 : Int), (0 : Int), (0 : Int), (0 : Int), (0 : Int), (0 : Int), (0 : Int), (0 : Int), (0 : Int), (0 : Int), (0 : Int), (0 : Int), (0 : Int), (0 : Int), (0 : Int), (0 : Int), (0 : Int), (0 : Int), (0 : Int), (0 : Int), (0 : Int)], PV.iarr IntKind.u8 (32 : Nat) [(0 : Int), (0 : Int), (0 : Int), (0 : Int), (0 : Int), (0 : Int), (0 : Int), (0 : Int), (0 : Int), (0 : Int), (0 : Int), (0 : Int), (0 : Int), (0 : Int), (0 : Int), (0 : Int), (0 : Int), (0 : Int), (0 : Int), (0 : Int), (0 : Int), (0 : Int), (0 : Int), (0 : Int), (0 : Int), (0 : Int), (0 : Int), (0 : Int), (0 : Int), (0 : Int), (0 : Int), (0 : Int)], PV.int IntKind.u32 (↑(1000 : Nat) : Int), PV.int IntKind.u32 (↑(545259519 : Nat) : Int), PV.int IntKind.u32 (↑(0 : Nat) : Int)], PV.iarr IntKind.u64 (4 : Nat) (uw (Prm.sum plainP))])), ((8 : Nat), Ans.call true [] [] (PV.tup [PV.int IntKind.u32 (↑(545259519 : Nat) : Int), PV.int IntKind.i64 (0 : Int)])), ((10 : Nat), Ans.val (PV.int IntKind.u32 (545259519 : Int))), ((15 : Nat), Ans.call true [] [] (PV.int IntKind.i64 (0 : Int))), ((19 : Nat), Ans.call true [] [] (PV.int IntKind.i64 (1 : Int)))] [] [PC Try.prog G0 (38 : Nat) [] [] [] (PV.st (77 : Nat) [PV.int IntKind.u32 (↑(545259519 : Nat) : Int), PV.int IntKind.i64 (Prm.per plainP), PV.int IntKind.i64 (Prm.sp plainP), PV.int IntKind.i64 (Prm.fu plainP), PV.int IntKind.i64 (Prm.cap plainP), PV.st (68 : Nat) [PV.int IntKind.u32 (↑(0 : Nat) : Int), PV.iarr IntKind.u8 (32 : Nat) [(0 : Int), (0 : Int), (0 : Int), (0 : Int), (0 : Int), (0 : Int), (0 : Int), (0 : Int), (0 : Int), (0 : Int), (0 : Int), (0 : Int), (0 : Int), (0 : Int), (0 : Int), (0 : Int), (0 : Int), (0 : Int), (0 : Int), (0 : Int), (0 : Int), (0 : Int), (0 : Int), (0 : Int), (0 : Int), (0 : Int), (0 : Int), (0 : Int), (0 : Int), (0 : Int), (0 : Int), (0 : Int)], PV.iarr IntKind.u8 (32 : Nat) [(0 : Int), (0 : Int), (0 : Int), (0 : Int), (0 : Int), (0 : Int), (0 : Int), (0 : Int), (0 : Int), (0 : Int), (0 : Int), (0 : Int), (0 : Int), (0 : Int), (0 : Int), (0 : Int), (0 : Int), (0 : Int), (0 : Int), (0 : Int), (0 : Int), (0 : Int), (0 : Int), (0 : Int), (0 : Int), (0 : Int), (0 : Int), (0 : Int), (0 : Int), (0 : Int), (0 : Int), (0 : Int)], PV.int IntKind.u32 (↑(1000 : Nat) : Int), PV.int IntKind.u32 (↑(545259519 : Nat) : Int), PV.int IntKind.u32 (↑(0 : Nat) : Int)], PV.iarr IntKind.u64 (4 : Nat) (uw (Prm.sum plainP))]), (1 : Nat) ≤ (1 : Nat), PC Try.prog G0 (21 : Nat) [] [PV.st (77 : Nat) [PV.int IntKind.u32 (↑(545259519 : Nat) : Int), PV.int IntKind.i64 (Prm.per plainP), PV.int IntKind.i64 (Prm.sp plainP), PV.int IntKind.i64 (Prm.fu plainP), PV.int IntKind.i64 (Prm.cap plainP), PV.st (68 : Nat) [PV.int IntKind.u32 (↑(0 : Nat) : Int), PV.iarr IntKind.u8 (32 : Nat) [(0 : Int), (0 : Int), (0 : Int), (0 : Int), (0 : Int), (0 : Int), (0 : Int), (0 : Int), (0 : Int), (0 : Int), (0 : Int), (0 : Int), (0 : Int), (0 : Int), (0 : Int), (0 : Int), (0 : Int), (0 : Int), (0 : Int), (0 : Int), (0 : Int), (0 : Int), (0 : Int), (0 : Int), (0 : Int), (0 : Int), (0 : Int), (0 : Int), (0 : Int), (0 : Int), (0 : Int), (0 : Int)], PV.iarr IntKind.u8 (32 : Nat) [(0 : Int), (0 : Int), (0 : Int), (0 : Int), (0 : Int), (0 : Int), (0 : Int), (0 : Int), (0 : Int), (0 : Int), (0 : Int), (0 : Int), (0 : Int), (0 : Int), (0 : Int), (0 : Int), (0 : Int), (0 : Int), (0 : Int), (0 : Int), (0 : Int), (0 : Int), (0 : Int), (0 : Int), (0 : Int), (0 : Int), (0 : Int), (0 : Int), (0 : Int), (0 : Int), (0 : Int), (0 : Int)], PV.int IntKind.u32 (↑(1000 : Nat) : Int), PV.int IntKind.u32 (↑(545259519 : Nat) : Int), PV.int IntKind.u32 (↑(0 : Nat) : Int)], PV.iarr IntKind.u64 (4 : Nat) (uw (Prm.sum plainP))], PV.vec false (PV.parr (68 : Nat) (1 : Nat) (Sh.st (68 : Nat) [Sh.int IntKind.u32, Sh.iarr IntKind.u8 (32 : Nat), Sh.iarr IntKind.u8 (32 : Nat), Sh.int IntKind.u32, Sh.int IntKind.u32, Sh.int IntKind.u32]) [PV.st (68 : Nat) [PV.int IntKind.u32 (↑(0 : Nat) : Int), PV.iarr IntKind.u8 (32 : Nat) [(0 : Int), (0 : Int), (0 : Int), (0 : Int), (0 : Int), (0 : Int), (0 : Int), (0 : Int), (0 : Int), (0 : Int), (0 : Int), (0 : Int), (0 : Int), (0 : Int), (0 : Int), (0 : Int), (0 : Int), (0 : Int), (0 : Int), (0 : Int), (0 : Int), (0 : Int), (0 : Int), (0 : Int), (0 : Int), (0 : Int), (0 : Int), (0 : Int), (0 : Int), (0 : Int), (0 : Int), (0 : Int)], PV.iarr IntKind.u8 (32 : Nat) [(0 : Int), (0 : Int), (0 : Int), (0 : Int), (0 : Int), (0 : Int), (0 : Int), (0 : Int), (0 : Int), (0 : Int), (0 : Int), (0 : Int), (0 : Int), (0 : Int), (0 : Int), (0 : Int), (0 : Int), (0 : Int), (0 : Int), (0 : Int), (0 : Int), (0 : Int), (0 : Int), (0 : Int), (0 : Int), (0 : Int), (0 : Int), (0 : Int), (0 : Int), (0 : Int), (0 : Int), (0 : Int)], PV.int IntKind.u32 (↑(1000 : Nat) : Int), PV.int IntKind.u32 (↑(545259519 : Nat) : Int), PV.int IntKind.u32 (↑(0 : Nat) : Int)]])] [] (PV.tup [PV.int IntKind.u32 (↑(545259519 : Nat) : Int), PV.int IntKind.i64 (0 : Int)]), PV.int IntKind.u32 (↑(545259519 : Nat) : Int) = PV.int IntKind.u32 (545259519 : Int), PC Try.prog G0 (17 : Nat) [] [PV.st (77 : Nat) [PV.int IntKind.u32 (↑(545259519 : Nat) : Int), PV.int IntKind.i64 (Prm.per plainP), PV.int IntKind.i64 (Prm.sp plainP), PV.int IntKind.i64 (Prm.fu plainP), PV.int IntKind.i64 (Prm.cap plainP), PV.st (68 : Nat) [PV.int IntKind.u32 (↑(0 : Nat) : Int), PV.iarr IntKind.u8 (32 : Nat) [(0 : Int), (0 : Int), (0 : Int), (0 : Int), (0 : Int), (0 : Int), (0 : Int), (0 : Int), (0 : Int), (0 : Int), (0 : Int), (0 : Int), (0 : Int), (0 : Int), (0 : Int), (0 : Int), (0 : Int), (0 : Int), (0 : Int), (0 : Int), (0 : Int), (0 : Int), (0 : Int), (0 : Int), (0 : Int), (0 : Int), (0 : Int), (0 : Int), (0 : Int), (0 : Int), (0 : Int), (0 : Int)], PV.iarr IntKind.u8 (32 : Nat) [(0 : Int), (0 : Int), (0 : Int), (0 : Int), (0 : Int), (0 : Int), (0 : Int), (0 : Int), (0 : Int), (0 : Int), (0 : Int), (0 : Int), (0 : Int), (0 : Int), (0 : Int), (0 : Int), (0 : Int), (0 : Int), (0 : Int), (0 : Int), (0 : Int), (0 : Int), (0 : Int), (0 : Int), (0 : Int), (0 : Int), (0 : Int), (0 : Int), (0 : Int), (0 : Int), (0 : Int), (0 : Int)], PV.int IntKind.u32 (↑(1000 : Nat) : Int), PV.int IntKind.u32 (↑(545259519 : Nat) : Int), PV.int IntKind.u32 (↑(0 : Nat) : Int)], PV.iarr IntKind.u64 (4 : Nat) (uw (Prm.sum plainP))]] [] (PV.int IntKind.i64 (0 : Int)), PC Try.prog G0 (17 : Nat) [] [PV.st (77 : Nat) [PV.int IntKind.u32 (0 : Int), PV.int IntKind.i64 (0 : Int), PV.int IntKind.i64 (0 : Int), PV.int IntKind.i64 (0 : Int), PV.int IntKind.i64 (0 : Int), PV.st (68 : Nat) [PV.int IntKind.u32 (0 : Int), PV.iarr IntKind.u8 (32 : Nat) [(0 : Int), (0 : Int), (0 : Int), (0 : Int), (0 : Int), (0 : Int), (0 : Int), (0 : Int), (0 : Int), (0 : Int), (0 : Int), (0 : Int), (0 : Int), (0 : Int), (0 : Int), (0 : Int), (0 : Int), (0 : Int), (0 : Int), (0 : Int), (0 : Int), (0 : Int), (0 : Int), (0 : Int), (0 : Int), (0 : Int), (0 : Int), (0 : Int), (0 : Int), (0 : Int), (0 : Int), (0 : Int)], PV.iarr IntKind.u8 (32 : Nat) [(0 : Int), (0 : Int), (0 : Int), (0 : Int), (0 : Int), (0 : Int), (0 : Int), (0 : Int), (0 : Int), (0 : Int), (0 : Int), (0 : Int), (0 : Int), (0 : Int), (0 : Int), (0 : Int), (0 : Int), (0 : Int), (0 : Int), (0 : Int), (0 : Int), (0 : Int), (0 : Int), (0 : Int), (0 : Int), (0 : Int), (0 : Int), (0 : Int), (0 : Int), (0 : Int), (0 : Int), (0 : Int)], PV.int IntKind.u32 (0 : Int), PV.int IntKind.u32 (0 : Int), PV.int IntKind.u32 (0 : Int)], PV.iarr IntKind.u64 (4 : Nat) [(0 : Int), (0 : Int), (0 : Int), (0 : Int)]]] [] (PV.int IntKind.i64 (1 : Int)), PV.bool true = PV.bool true] (by kernel_rfl) (ac (by exact g4) (ac (by omega) (ac (by exact g3) (ac (by exact congrArg (PV.int _) (by omega)) (ac (by exact g1) (ac (by exact g2) (ao (by with_reducible rfl))))))))
theorem u32_nat {n : Int} (h : IntKind.u32.wrap n = n) : ∃ m : Nat, n = m ∧ m < 4294967296 := by
  rw [wrap_bounds] at h
  obtain ⟨h1, h2⟩ := h
  have e1 : IntKind.u32.min = 0 := rfl
  have e2 : IntKind.u32.max = 4294967295 := rfl
  exact ⟨n.toNat, by omega, by omega⟩
theorem u8_bytes {l : List Int} (h : ∀ x ∈ l, IntKind.u8.wrap x = x) : ∀ x ∈ l, 0 ≤ x ∧ x ≤ 255 := fun x hx => by
  have := h x hx
  rw [wrap_bounds] at this
  exact this
theorem u64_words {l : List Int} (h : ∀ x ∈ l, IntKind.u64.wrap x = x) : ∀ x ∈ l, 0 ≤ x ∧ x ≤ 18446744073709551615 := fun x hx => by
  have := h x hx
  rw [wrap_bounds] at this
  exact this
theorem hd_of {p : PV} (hc : conf hsh p = true) (hw : WF p) : ∃ h : Hd, p = h.pv ∧ h.Ok := by
  have e := expose_conf hsh p hc
  obtain ⟨a, b, c, d, x, y, rfl⟩ : ∃ a b c d x y, p = .st 68 [.int .u32 a, .iarr .u8 32 b, .iarr .u8 32 c, .int .u32 d, .int .u32 x, .int .u32 y] := ⟨_, _, _, _, _, _, e.symm⟩
  simp only [WF, WFL] at hw
  obtain ⟨_, ha, ⟨hb1, hb2⟩, ⟨hc1, hc2⟩, hd, hx, hy, _⟩ := hw
  obtain ⟨a, rfl, ka⟩ := u32_nat ha
  obtain ⟨d, rfl, kd⟩ := u32_nat hd
  obtain ⟨x, rfl, kx⟩ := u32_nat hx
  obtain ⟨y, rfl, ky⟩ := u32_nat hy
  exact ⟨⟨a, b, c, d, x, y⟩, rfl, ⟨ka, kd, kx, ky, hb1, hc1, u8_bytes hb2, u8_bytes hc2⟩⟩
theorem line_of : ∀ {l : List PV}, WFL l → (∀ q ∈ l, size q = 68 ∧ conf hsh q = true ∧ noref q = true) → ∃ m : List Hd, l = m.map Hd.pv ∧ ∀ h ∈ m, h.Ok
  | [], _, _ => ⟨[], rfl, fun h hh => by cases hh⟩
  | p :: l, hw, hq => by
    simp only [WFL] at hw
    obtain ⟨h, rfl, ho⟩ := hd_of (hq p (by simp)).2.1 hw.1
    obtain ⟨m, rfl, hm⟩ := line_of hw.2 fun q hh => hq q (by simp [hh])
    refine ⟨h :: m, rfl, fun x hx => ?_⟩
    rcases List.mem_cons.1 hx with rfl | hx
    · exact ho
    · exact hm x hx
def psh : Sh := .st 77 [.int .u32, .int .i64, .int .i64, .int .i64, .int .i64, hsh, .iarr .u64 4]
theorem prm_of {p : PV} (hc : conf psh p = true) (hw : WF p) : ∃ q : Prm, p = q.pv ∧ q.Ok := by
  have e := expose_conf psh p hc
  obtain ⟨a, b, c, d, x, g, s, rfl⟩ : ∃ a b c d x g s, p = .st 77 [.int .u32 a, .int .i64 b, .int .i64 c, .int .i64 d, .int .i64 x, expose hsh g, .iarr .u64 4 s] := ⟨_, _, _, _, _, _, _, e.symm⟩
  have hg : conf hsh (expose hsh g) = true := by
    simp only [psh, conf, confL, Bool.and_eq_true] at hc
    exact hc.2.2.2.2.2.2.1
  simp only [WF, WFL] at hw
  obtain ⟨_, ha, _, _, _, _, hwg, ⟨hs1, hs2⟩, _⟩ := hw
  obtain ⟨h, eh, ho⟩ := hd_of hg hwg
  obtain ⟨a, rfl, ka⟩ := u32_nat ha
  obtain ⟨v, hv, rfl⟩ := uw_of hs1 (u64_words hs2)
  refine ⟨⟨a, b, c, d, x, h, v⟩, ?_, ⟨ka, ho, hv⟩⟩
  rw [eh]
  rfl
end Go.Proofs
namespace Go.Proofs
open Go Go.Pe Go.Pm
set_option maxRecDepth 100000
set_option linter.unusedVariables false
theorem work_quo {t : Nat} (h0 : 0 < t) (ht : t < W256) : W256 / (t + 1) = work t := by
  unfold work
  split
  · rename_i h; subst h
    rw [Nat.sub_add_cancel W256_pos, Nat.div_self W256_pos]
  · rw [if_neg (by omega)]
    have e : W256 = (W256 - 1 - t) + (t + 1) := by omega
    conv => lhs; rw [e]
    rw [Nat.add_div_right _ (by omega)]
theorem work_pos {t : Nat} (h0 : 0 < t) (ht : t < W256) : 0 < work t := by
  rw [← work_quo h0 ht]
  exact Nat.div_pos (by omega) (by omega)
theorem pc_rWorkN {h : Hd} (ho : h.Ok) (h0 : tgt h.bits = 0) : PC Try.prog G0 43 [] [h.pv] [] (.tup [bv true 0, .bool false]) := by
  refine PC.of (fn := Try.f43) (c := bodyOf Try.f43) Try.func43 (by kernel_rfl) (by kernel_rfl) (by kernel_rfl) (by kernel_rfl) ?_
  have c1 := pc_rTargetN ho.bits h0
  refine W.ret [((5 : Nat), Ans.call true [] [] (PV.tup [PV.vec true (PV.iarr IntKind.i64 (0 : Nat) (dg (0 : Nat))), PV.bool false]))] [] [PC Try.prog G0 (35 : Nat) [] [PV.int IntKind.u32 (↑(Hd.bits h) : Int)] [] (PV.tup [PV.vec true (PV.iarr IntKind.i64 (0 : Nat) (dg (0 : Nat))), PV.bool false]), PV.tup [PV.vec true (PV.iarr IntKind.i64 (0 : Nat) []), PV.bool false] = PV.tup [PV.vec true (PV.iarr IntKind.i64 (0 : Nat) (dg (0 : Nat))), PV.bool false]] (by kernel_rfl) (ac (by exact c1) (ao (by rfl)))
theorem pc_rWorkY {h : Hd} (ho : h.Ok) (h0 : ¬ tgt h.bits = 0) : PC Try.prog G0 43 [] [h.pv] [] (.tup [bv false (work (tgt h.bits)), .bool true]) := by
  refine PC.of (fn := Try.f43) (c := bodyOf Try.f43) Try.func43 (by kernel_rfl) (by kernel_rfl) (by kernel_rfl) (by kernel_rfl) ?_
  have c1 := pc_rTargetY ho.bits h0
  have hlt := tgt_lt h.bits
  have hp := work_pos (by omega) hlt
  have hq := work_quo (by omega) hlt
  have n1 := nd_W256.2 hlt
  have n2 : nd (tgt h.bits + 1) ≤ 1000 := by have := nd_add (tgt h.bits) 1; have : nd 1 = 1 := rfl; omega
  have c2 := pc_bInc (na := false) (a := tgt h.bits) (by omega)
  have c3 := pc_bPow (k := 256) (by omega)
  have c4 := pc_bQuo (na := false) (nb := false) (a := 2 ^ 256) (b := tgt h.bits + 1) (by rw [nd_pow]; omega) n2 (by omega)
  have e : 2 ^ 256 / (tgt h.bits + 1) = work (tgt h.bits) := hq
  rw [e, decide_eq_false (by omega)] at c4
  generalize hX : 2 ^ 256 = X at *
  generalize work (tgt h.bits) = w at *
  generalize tgt h.bits = t at *
  refine W.ret [((5 : Nat), Ans.call false [] [] (PV.tup [PV.vec false (PV.iarr IntKind.i64 (nd t) (dg t)), PV.bool true])), ((13 : Nat), Ans.call false [] [] (PV.vec false (PV.iarr IntKind.i64 (nd X) (dg X)))), ((16 : Nat), Ans.call false [] [] (PV.vec false (PV.iarr IntKind.i64 (nd (t + (1 : Nat))) (dg (t + (1 : Nat)))))), ((17 : Nat), Ans.call false [] [] (PV.tup [PV.vec false (PV.iarr IntKind.i64 (nd w) (dg w)), PV.vec (qf X (t + (1 : Nat)) (0 : Nat)) (PV.iarr IntKind.i64 (nd (X % (t + (1 : Nat)))) (dg (X % (t + (1 : Nat)))))]))] [] [PC Try.prog G0 (35 : Nat) [] [PV.int IntKind.u32 (↑(Hd.bits h) : Int)] [] (PV.tup [PV.vec false (PV.iarr IntKind.i64 (nd t) (dg t)), PV.bool true]), PC Try.prog G0 (63 : Nat) [] [PV.int IntKind.i64 (256 : Int)] [] (PV.vec false (PV.iarr IntKind.i64 (nd X) (dg X))), (1 : Nat) ≤ (1 : Nat), PC Try.prog G0 (44 : Nat) [] [PV.vec false (PV.iarr IntKind.i64 (nd t) (dg t)), PV.vec false (PV.iarr IntKind.i64 (1 : Nat) [(1 : Int)])] [] (PV.vec false (PV.iarr IntKind.i64 (nd (t + (1 : Nat))) (dg (t + (1 : Nat))))), PC Try.prog G0 (62 : Nat) [] [PV.vec false (PV.iarr IntKind.i64 (nd X) (dg X)), PV.vec false (PV.iarr IntKind.i64 (nd (t + (1 : Nat))) (dg (t + (1 : Nat))))] [] (PV.tup [PV.vec false (PV.iarr IntKind.i64 (nd w) (dg w)), PV.vec (qf X (t + (1 : Nat)) (0 : Nat)) (PV.iarr IntKind.i64 (nd (X % (t + (1 : Nat)))) (dg (X % (t + (1 : Nat)))))]), PV.tup [PV.vec false (PV.iarr IntKind.i64 (nd w) (dg w)), PV.bool true] = PV.tup [PV.vec false (PV.iarr IntKind.i64 (nd w) (dg w)), PV.bool true]] (by kernel_rfl) (ac (by exact c1) (ac (by exact c3) (ac (by omega) (ac (by exact c2) (ac (by exact c4) (ao (by with_reducible rfl)))))))
def dsRtot (p : Prm) (nl : Bool) (l : List Hd) (n s i : Nat) : DS := ⟨[(1, .vec nl (.parr 68 n hsh (l.map Hd.pv))), (6, bv false s), (7, .int .i64 i)], []⟩
/-- the reference's result of a sum -/
def rsum (x : Nat × Int) : PV := .tup [bv (decide (x.2 ≠ 0)) x.1, .int .i64 x.2]
set_option maxHeartbeats 4000000 in
theorem W_rtot {p : Prm} {nl : Bool} {l : List Hd} {n : Nat} (hn : l.length = n) (hn1 : n ≤ 1000000) (ho : ∀ h ∈ l, h.Ok) : ∀ (k i s : Nat), i + k = n → s < W256 →
    W Try.prog G0 Try.f25 [] [] (rsum (tot s (l.drop i))) (loopAt Try.f25 0) (dsRtot p nl l n s i)
  | 0, i, s, hk, hs => by
    rw [List.drop_of_length_le (by omega)]
    unfold tot
    have e : rsum (s, 0) = .tup [bv false s, .int .i64 0] := rfl
    rw [e]
    refine W.ret [((3 : Nat), Ans.dec false)] [] [decide ((↑i : Int) < (↑n : Int)) = false, PV.tup [PV.vec false (PV.iarr IntKind.i64 (nd s) (dg s)), PV.int IntKind.i64 (0 : Int)] = PV.tup [PV.vec false (PV.iarr IntKind.i64 (nd s) (dg s)), PV.int IntKind.i64 (0 : Int)]] (by kernel_rfl) (ac (by exact decide_eq_false (by omega)) (ao (by with_reducible rfl)))
  | k + 1, i, s, hk, hs => by
    rw [tot_drop (by omega)]
    have hh := ok_get (i := i) ho (by omega)
    have g := map_get (l := l) (i := i) (by omega)
    generalize l.getD i default = h at *
    by_cases h0 : tgt h.bits = 0
    · rw [if_pos h0]
      have c1 := pc_rWorkN hh h0
      have e : rsum (0, 5) = .tup [bv true 0, .int .i64 5] := rfl
      rw [e]
      refine W.ret [((3 : Nat), Ans.dec true), ((7 : Nat), Ans.val (PV.st (68 : Nat) [PV.int IntKind.u32 (↑(Hd.ver h) : Int), PV.iarr IntKind.u8 (32 : Nat) (Hd.prev h), PV.iarr IntKind.u8 (32 : Nat) (Hd.root h), PV.int IntKind.u32 (↑(Hd.time h) : Int), PV.int IntKind.u32 (↑(Hd.bits h) : Int), PV.int IntKind.u32 (↑(Hd.nonce h) : Int)])), ((8 : Nat), Ans.call true [] [] (PV.tup [PV.vec true (PV.iarr IntKind.i64 (0 : Nat) (dg (0 : Nat))), PV.bool false]))] [] [decide ((↑i : Int) < (↑n : Int)) = true, (0 : Int) ≤ (↑i : Int), (↑i : Int) < (↑n : Int), PV.st (68 : Nat) [PV.int IntKind.u32 (PV.num (List.headD (PV.fs (List.getD (List.map Hd.pv l) i PV.undef)) PV.undef)), PV.iarr IntKind.u8 (32 : Nat) (PV.nums (List.headD (List.tail (PV.fs (List.getD (List.map Hd.pv l) i PV.undef))) PV.undef)), PV.iarr IntKind.u8 (32 : Nat) (PV.nums (List.headD (List.tail (List.tail (PV.fs (List.getD (List.map Hd.pv l) i PV.undef)))) PV.undef)), PV.int IntKind.u32 (PV.num (List.headD (List.tail (List.tail (List.tail (PV.fs (List.getD (List.map Hd.pv l) i PV.undef))))) PV.undef)), PV.int IntKind.u32 (PV.num (List.headD (List.tail (List.tail (List.tail (List.tail (PV.fs (List.getD (List.map Hd.pv l) i PV.undef)))))) PV.undef)), PV.int IntKind.u32 (PV.num (List.headD (List.tail (List.tail (List.tail (List.tail (List.tail (PV.fs (List.getD (List.map Hd.pv l) i PV.undef))))))) PV.undef))] = PV.st (68 : Nat) [PV.int IntKind.u32 (↑(Hd.ver h) : Int), PV.iarr IntKind.u8 (32 : Nat) (Hd.prev h), PV.iarr IntKind.u8 (32 : Nat) (Hd.root h), PV.int IntKind.u32 (↑(Hd.time h) : Int), PV.int IntKind.u32 (↑(Hd.bits h) : Int), PV.int IntKind.u32 (↑(Hd.nonce h) : Int)], i < n, PC Try.prog G0 (43 : Nat) [] [PV.st (68 : Nat) [PV.int IntKind.u32 (↑(Hd.ver h) : Int), PV.iarr IntKind.u8 (32 : Nat) (Hd.prev h), PV.iarr IntKind.u8 (32 : Nat) (Hd.root h), PV.int IntKind.u32 (↑(Hd.time h) : Int), PV.int IntKind.u32 (↑(Hd.bits h) : Int), PV.int IntKind.u32 (↑(Hd.nonce h) : Int)]] [] (PV.tup [PV.vec true (PV.iarr IntKind.i64 (0 : Nat) (dg (0 : Nat))), PV.bool false]), PV.tup [PV.vec true (PV.iarr IntKind.i64 (0 : Nat) []), PV.int IntKind.i64 (5 : Int)] = PV.tup [PV.vec true (PV.iarr IntKind.i64 (0 : Nat) (dg (0 : Nat))), PV.int IntKind.i64 (5 : Int)]] (by kernel_rfl) (ac (by exact decide_eq_true (by omega)) (ac (by omega) (ac (by omega) (ac (by (rw [g]; rfl)) (ac (by omega) (ac (by exact c1) (ao (by assumption))))))))
    · rw [if_neg h0]
      have c1 := pc_rWorkY hh h0
      have hw := work_lt (t := tgt h.bits)
      have hp := work_pos (by omega) (tgt_lt h.bits)
      have n1 := nd_W256.2 hs
      have n2 := nd_W256.2 hw
      have n3 := nd_W256 (v := s + work (tgt h.bits))
      have c2 := pc_bAdd (na := false) (nb := false) (a := s) (b := work (tgt h.bits)) (by omega) (by omega)
      rw [decide_eq_false (by omega)] at c2
      generalize work (tgt h.bits) = w at *
      by_cases h1 : W256 ≤ s + w
      · rw [if_pos h1]
        have e : rsum (0, 14) = .tup [bv true 0, .int .i64 14] := rfl
        rw [e]
        have h16 : 16 < nd (s + w) := by omega
        refine W.ret [((3 : Nat), Ans.dec true), ((7 : Nat), Ans.val (PV.st (68 : Nat) [PV.int IntKind.u32 (↑(Hd.ver h) : Int), PV.iarr IntKind.u8 (32 : Nat) (Hd.prev h), PV.iarr IntKind.u8 (32 : Nat) (Hd.root h), PV.int IntKind.u32 (↑(Hd.time h) : Int), PV.int IntKind.u32 (↑(Hd.bits h) : Int), PV.int IntKind.u32 (↑(Hd.nonce h) : Int)])), ((8 : Nat), Ans.call false [] [] (PV.tup [PV.vec false (PV.iarr IntKind.i64 (nd w) (dg w)), PV.bool true])), ((18 : Nat), Ans.call false [] [] (PV.vec false (PV.iarr IntKind.i64 (nd (s + w)) (dg (s + w))))), ((22 : Nat), Ans.dec true)] [] [decide ((↑i : Int) < (↑n : Int)) = true, (0 : Int) ≤ (↑i : Int), (↑i : Int) < (↑n : Int), PV.st (68 : Nat) [PV.int IntKind.u32 (PV.num (List.headD (PV.fs (List.getD (List.map Hd.pv l) i PV.undef)) PV.undef)), PV.iarr IntKind.u8 (32 : Nat) (PV.nums (List.headD (List.tail (PV.fs (List.getD (List.map Hd.pv l) i PV.undef))) PV.undef)), PV.iarr IntKind.u8 (32 : Nat) (PV.nums (List.headD (List.tail (List.tail (PV.fs (List.getD (List.map Hd.pv l) i PV.undef)))) PV.undef)), PV.int IntKind.u32 (PV.num (List.headD (List.tail (List.tail (List.tail (PV.fs (List.getD (List.map Hd.pv l) i PV.undef))))) PV.undef)), PV.int IntKind.u32 (PV.num (List.headD (List.tail (List.tail (List.tail (List.tail (PV.fs (List.getD (List.map Hd.pv l) i PV.undef)))))) PV.undef)), PV.int IntKind.u32 (PV.num (List.headD (List.tail (List.tail (List.tail (List.tail (List.tail (PV.fs (List.getD (List.map Hd.pv l) i PV.undef))))))) PV.undef))] = PV.st (68 : Nat) [PV.int IntKind.u32 (↑(Hd.ver h) : Int), PV.iarr IntKind.u8 (32 : Nat) (Hd.prev h), PV.iarr IntKind.u8 (32 : Nat) (Hd.root h), PV.int IntKind.u32 (↑(Hd.time h) : Int), PV.int IntKind.u32 (↑(Hd.bits h) : Int), PV.int IntKind.u32 (↑(Hd.nonce h) : Int)], i < n, PC Try.prog G0 (43 : Nat) [] [PV.st (68 : Nat) [PV.int IntKind.u32 (↑(Hd.ver h) : Int), PV.iarr IntKind.u8 (32 : Nat) (Hd.prev h), PV.iarr IntKind.u8 (32 : Nat) (Hd.root h), PV.int IntKind.u32 (↑(Hd.time h) : Int), PV.int IntKind.u32 (↑(Hd.bits h) : Int), PV.int IntKind.u32 (↑(Hd.nonce h) : Int)]] [] (PV.tup [PV.vec false (PV.iarr IntKind.i64 (nd w) (dg w)), PV.bool true]), PC Try.prog G0 (44 : Nat) [] [PV.vec false (PV.iarr IntKind.i64 (nd s) (dg s)), PV.vec false (PV.iarr IntKind.i64 (nd w) (dg w))] [] (PV.vec false (PV.iarr IntKind.i64 (nd (s + w)) (dg (s + w)))), decide ((↑(nd (s + w)) : Int) > (16 : Int)) = true, PV.tup [PV.vec true (PV.iarr IntKind.i64 (0 : Nat) []), PV.int IntKind.i64 (14 : Int)] = PV.tup [PV.vec true (PV.iarr IntKind.i64 (0 : Nat) (dg (0 : Nat))), PV.int IntKind.i64 (14 : Int)]] (by kernel_rfl) (ac (by exact decide_eq_true (by omega)) (ac (by omega) (ac (by omega) (ac (by (rw [g]; rfl)) (ac (by omega) (ac (by exact c1) (ac (by exact c2) (ac (by exact decide_eq_true (by omega)) (ao (by assumption))))))))))
      · rw [if_neg h1]
        have h16 : nd (s + w) ≤ 16 := n3.2 (by omega)
        refine W.seg [((3 : Nat), Ans.dec true), ((7 : Nat), Ans.val (PV.st (68 : Nat) [PV.int IntKind.u32 (↑(Hd.ver h) : Int), PV.iarr IntKind.u8 (32 : Nat) (Hd.prev h), PV.iarr IntKind.u8 (32 : Nat) (Hd.root h), PV.int IntKind.u32 (↑(Hd.time h) : Int), PV.int IntKind.u32 (↑(Hd.bits h) : Int), PV.int IntKind.u32 (↑(Hd.nonce h) : Int)])), ((8 : Nat), Ans.call false [] [] (PV.tup [PV.vec false (PV.iarr IntKind.i64 (nd w) (dg w)), PV.bool true])), ((18 : Nat), Ans.call false [] [] (PV.vec false (PV.iarr IntKind.i64 (nd (s + w)) (dg (s + w))))), ((22 : Nat), Ans.dec false), ((24 : Nat), Ans.val (PV.int IntKind.i64 (↑(i + (1 : Nat)) : Int)))] [] (dsRtot p nl l n (s + w) (i + (1 : Nat))) (todo' := loopAt Try.f25 (0 : Nat)) [decide ((↑i : Int) < (↑n : Int)) = true, (0 : Int) ≤ (↑i : Int), (↑i : Int) < (↑n : Int), PV.st (68 : Nat) [PV.int IntKind.u32 (PV.num (List.headD (PV.fs (List.getD (List.map Hd.pv l) i PV.undef)) PV.undef)), PV.iarr IntKind.u8 (32 : Nat) (PV.nums (List.headD (List.tail (PV.fs (List.getD (List.map Hd.pv l) i PV.undef))) PV.undef)), PV.iarr IntKind.u8 (32 : Nat) (PV.nums (List.headD (List.tail (List.tail (PV.fs (List.getD (List.map Hd.pv l) i PV.undef)))) PV.undef)), PV.int IntKind.u32 (PV.num (List.headD (List.tail (List.tail (List.tail (PV.fs (List.getD (List.map Hd.pv l) i PV.undef))))) PV.undef)), PV.int IntKind.u32 (PV.num (List.headD (List.tail (List.tail (List.tail (List.tail (PV.fs (List.getD (List.map Hd.pv l) i PV.undef)))))) PV.undef)), PV.int IntKind.u32 (PV.num (List.headD (List.tail (List.tail (List.tail (List.tail (List.tail (PV.fs (List.getD (List.map Hd.pv l) i PV.undef))))))) PV.undef))] = PV.st (68 : Nat) [PV.int IntKind.u32 (↑(Hd.ver h) : Int), PV.iarr IntKind.u8 (32 : Nat) (Hd.prev h), PV.iarr IntKind.u8 (32 : Nat) (Hd.root h), PV.int IntKind.u32 (↑(Hd.time h) : Int), PV.int IntKind.u32 (↑(Hd.bits h) : Int), PV.int IntKind.u32 (↑(Hd.nonce h) : Int)], i < n, PC Try.prog G0 (43 : Nat) [] [PV.st (68 : Nat) [PV.int IntKind.u32 (↑(Hd.ver h) : Int), PV.iarr IntKind.u8 (32 : Nat) (Hd.prev h), PV.iarr IntKind.u8 (32 : Nat) (Hd.root h), PV.int IntKind.u32 (↑(Hd.time h) : Int), PV.int IntKind.u32 (↑(Hd.bits h) : Int), PV.int IntKind.u32 (↑(Hd.nonce h) : Int)]] [] (PV.tup [PV.vec false (PV.iarr IntKind.i64 (nd w) (dg w)), PV.bool true]), PC Try.prog G0 (44 : Nat) [] [PV.vec false (PV.iarr IntKind.i64 (nd s) (dg s)), PV.vec false (PV.iarr IntKind.i64 (nd w) (dg w))] [] (PV.vec false (PV.iarr IntKind.i64 (nd (s + w)) (dg (s + w)))), decide ((↑(nd (s + w)) : Int) > (16 : Int)) = false, PV.int IntKind.i64 (IntKind.wrap IntKind.i64 ((↑i : Int) + (1 : Int))) = PV.int IntKind.i64 (↑(i + (1 : Nat)) : Int), PV.vec nl (PV.parr (68 : Nat) n (Sh.st (68 : Nat) [Sh.int IntKind.u32, Sh.iarr IntKind.u8 (32 : Nat), Sh.iarr IntKind.u8 (32 : Nat), Sh.int IntKind.u32, Sh.int IntKind.u32, Sh.int IntKind.u32]) (List.map Hd.pv l)) = PV.vec nl (PV.parr (68 : Nat) n (Sh.st (68 : Nat) [Sh.int IntKind.u32, Sh.iarr IntKind.u8 (32 : Nat), Sh.iarr IntKind.u8 (32 : Nat), Sh.int IntKind.u32, Sh.int IntKind.u32, Sh.int IntKind.u32]) (List.map Hd.pv l)), PV.vec false (PV.iarr IntKind.i64 (nd (s + w)) (dg (s + w))) = PV.vec false (PV.iarr IntKind.i64 (nd (s + w)) (dg (s + w))), PV.int IntKind.i64 (↑(i + (1 : Nat)) : Int) = PV.int IntKind.i64 (↑(i + (1 : Nat)) : Int)] (by kernel_rfl) (ac (by exact decide_eq_true (by omega)) (ac (by omega) (ac (by omega) (ac (by (rw [g]; rfl)) (ac (by omega) (ac (by exact c1) (ac (by exact c2) (ac (by exact decide_eq_false (by omega)) (ac (by exact congrArg (PV.int _) (w_i64 rfl (by omega) (by omega))) (ac (by with_reducible rfl) (ac (by with_reducible rfl) (ao (by with_reducible rfl))))))))))))) ?_
        exact W_rtot hn hn1 ho k (i + 1) _ (by omega) (by omega)
theorem tot_nil_drop (s : Nat) (l : List Hd) (h : l.length ≤ 1) : tot s (l.drop 1) = (s, 0) := by rw [List.drop_of_length_le h]; rfl
set_option maxHeartbeats 4000000 in
theorem pc_rTotal {p : Prm} {nl : Bool} {l : List Hd} (hn1 : l.length ≤ 1000000) (ho : ∀ h ∈ l, h.Ok) (hs : p.sum < W256) :
    PC Try.prog G0 25 [] [p.rpv, lpv nl l] [] (rsum (tot p.sum (l.drop 1))) := by
  refine PC.of (fn := Try.f25) (c := bodyOf Try.f25) Try.func25 (by kernel_rfl) (by kernel_rfl) (by kernel_rfl) (by kernel_rfl) ?_
  refine W.seg [] [] (dsRtot p nl l (List.length l) (Prm.sum p) (1 : Nat)) (todo' := loopAt Try.f25 (0 : Nat)) [PV.vec nl (PV.parr (68 : Nat) (List.length l) (Sh.st (68 : Nat) [Sh.int IntKind.u32, Sh.iarr IntKind.u8 (32 : Nat), Sh.iarr IntKind.u8 (32 : Nat), Sh.int IntKind.u32, Sh.int IntKind.u32, Sh.int IntKind.u32]) (List.map Hd.pv l)) = PV.vec nl (PV.parr (68 : Nat) (List.length l) (Sh.st (68 : Nat) [Sh.int IntKind.u32, Sh.iarr IntKind.u8 (32 : Nat), Sh.iarr IntKind.u8 (32 : Nat), Sh.int IntKind.u32, Sh.int IntKind.u32, Sh.int IntKind.u32]) (List.map Hd.pv l)), PV.vec false (PV.iarr IntKind.i64 (nd (Prm.sum p)) (dg (Prm.sum p))) = PV.vec false (PV.iarr IntKind.i64 (nd (Prm.sum p)) (dg (Prm.sum p))), PV.int IntKind.i64 (1 : Int) = PV.int IntKind.i64 (↑(1 : Nat) : Int)] (by kernel_rfl) (ac (by with_reducible rfl) (ac (by with_reducible rfl) (ao (by exact congrArg (PV.int _) (by omega))))) ?_
  by_cases h : l.length ≤ 1
  · rw [tot_nil_drop _ _ h]
    have e : rsum (p.sum, 0) = .tup [bv false p.sum, .int .i64 0] := rfl
    rw [e]
    refine W.ret [((0 : Nat), Ans.val (PV.int IntKind.i64 (1 : Int))), ((3 : Nat), Ans.dec false)] [] [PV.int IntKind.i64 (↑(1 : Nat) : Int) = PV.int IntKind.i64 (1 : Int), decide ((1 : Int) < (↑(List.length l) : Int)) = false, PV.tup [PV.vec false (PV.iarr IntKind.i64 (nd (Prm.sum p)) (dg (Prm.sum p))), PV.int IntKind.i64 (0 : Int)] = PV.tup [PV.vec false (PV.iarr IntKind.i64 (nd (Prm.sum p)) (dg (Prm.sum p))), PV.int IntKind.i64 (0 : Int)]] (by kernel_rfl) (ac (by exact congrArg (PV.int _) (by omega)) (ac (by exact decide_eq_false (by omega)) (ao (by with_reducible rfl))))
  · exact W_rtot rfl hn1 ho (l.length - 1) 1 _ (by omega) hs
end Go.Proofs
namespace Go.Proofs
open Go Go.Pe Go.Pm
set_option maxRecDepth 100000
set_option linter.unusedVariables false
def rowL (n : Nat) (l : List PV) : Row := ⟨.parr 68 n hsh l, false⟩
def dsT0 (p : Prm) (nl : Bool) (l : List Hd) (n : Nat) : DS := ⟨[(1, .vec nl (.parr 68 n hsh (l.map Hd.pv))), (2, .at 2 []), (5, .vec true (.parr 68 0 hsh [])), (22, .vec nl (.parr 68 n hsh (l.map Hd.pv))), (23, .int .i64 n), (24, .int .i64 0)], [(2, ⟨p.pv, false⟩)]⟩
def dsT (p : Prm) (nl : Bool) (l : List Hd) (n : Nat) (L : List PV) (i : Nat) : DS := ⟨[(1, .vec nl (.parr 68 n hsh (l.map Hd.pv))), (2, .at 2 []), (5, .ref 1 [] 68 0 i), (22, .vec nl (.parr 68 n hsh (l.map Hd.pv))), (23, .int .i64 n), (24, .int .i64 i)], [(2, ⟨p.pv, false⟩), (1, rowL i L)]⟩
theorem take_snoc {l : List Hd} {i : Nat} (h : i < l.length) : (l.take i).map Hd.pv ++ [(l.getD i default).pv] = (l.take (i + 1)).map Hd.pv := by
  rw [List.take_add_one, List.map_append, List.getElem?_eq_getElem h, List.getD_eq_getElem?_getD, List.getElem?_eq_getElem h]
  rfl
theorem tot_lt : ∀ {s : Nat} {l : List Hd}, s < W256 → (tot s l).1 < W256
  | s, [], h => h
  | s, x :: l, h => by
    unfold tot
    split
    · exact W256_pos
    · split
      · exact W256_pos
      · exact tot_lt (by omega)
set_option maxHeartbeats 4000000 in
theorem W_lawT {p : Prm} {nl : Bool} {l : List Hd} {n : Nat} (hn : l.length = n) (hn1 : n ≤ 30) (ho : ∀ h ∈ l, h.Ok) (hp : p.Ok) : ∀ (k i : Nat) (L : List PV), i + k = n → 0 < i → L = (l.take i).map Hd.pv →
    W Try.prog G0 Try.f9 [] [] (.bool true) (loopAt Try.f9 0) (dsT p nl l n L i)
  | 0, i, L, hk, h0, hL => by
    have hi : i = n := by omega
    subst hi
    rw [← hn, List.take_length] at hL
    subst hL
    have hll : (l.map Hd.pv).length = i := by simp [hn]
    have c1 := pc_total (p := p) (nl := nl) (by omega) ho hp.sum
    have c2 := pc_rTotal (p := p) (nl := false) (by omega) ho hp.sum
    have c3 := pc_rref hp.sum
    have c4 := pc_awake19
    unfold lpv at c1 c2
    rw [hn] at c1 c2
    have hlt : (tot p.sum (l.drop 1)).1 < W256 := tot_lt hp.sum
    generalize tot p.sum (l.drop 1) = te at *
    obtain ⟨v, e⟩ := te
    unfold rsum at c2
    dsimp only at c1 c2 hlt
    have c5 := pc_bWords (na := decide (e ≠ 0)) (a := v) (nd_W256.2 hlt)
    refine W.ret [((0 : Nat), Ans.dec false), ((3 : Nat), Ans.call true [] [] (PV.tup [PV.iarr IntKind.u64 (4 : Nat) (uw v), PV.int IntKind.i64 e])), ((11 : Nat), Ans.call false [] [] (PV.st (74 : Nat) [PV.int IntKind.u32 (↑(Prm.lim p) : Int), PV.int IntKind.i64 (Prm.per p), PV.int IntKind.i64 (Prm.sp p), PV.int IntKind.i64 (Prm.fu p), PV.int IntKind.i64 (Prm.cap p), PV.st (68 : Nat) [PV.int IntKind.u32 (↑(Hd.ver (Prm.gen p)) : Int), PV.iarr IntKind.u8 (32 : Nat) (Hd.prev (Prm.gen p)), PV.iarr IntKind.u8 (32 : Nat) (Hd.root (Prm.gen p)), PV.int IntKind.u32 (↑(Hd.time (Prm.gen p)) : Int), PV.int IntKind.u32 (↑(Hd.bits (Prm.gen p)) : Int), PV.int IntKind.u32 (↑(Hd.nonce (Prm.gen p)) : Int)], PV.vec false (PV.iarr IntKind.i64 (nd (Prm.sum p)) (dg (Prm.sum p)))])), ((13 : Nat), Ans.calla false [] [] [Prm.rpv p, PV.vec false (PV.parr (68 : Nat) i hsh (List.map Hd.pv l))] [] (PV.tup [PV.vec (decide (e ≠ (0 : Int))) (PV.iarr IntKind.i64 (nd v) (dg v)), PV.int IntKind.i64 e])), ((21 : Nat), Ans.dec true), ((25 : Nat), Ans.call true [] [] (PV.iarr IntKind.u64 (4 : Nat) (uw v))), ((26 : Nat), Ans.dec true), ((29 : Nat), Ans.call true [] [] (PV.bool true))] [] [decide ((↑i : Int) < (↑i : Int)) = false, PC Try.prog G0 (24 : Nat) [] [PV.st (77 : Nat) [PV.int IntKind.u32 (↑(Prm.lim p) : Int), PV.int IntKind.i64 (Prm.per p), PV.int IntKind.i64 (Prm.sp p), PV.int IntKind.i64 (Prm.fu p), PV.int IntKind.i64 (Prm.cap p), PV.st (68 : Nat) [PV.int IntKind.u32 (↑(Hd.ver (Prm.gen p)) : Int), PV.iarr IntKind.u8 (32 : Nat) (Hd.prev (Prm.gen p)), PV.iarr IntKind.u8 (32 : Nat) (Hd.root (Prm.gen p)), PV.int IntKind.u32 (↑(Hd.time (Prm.gen p)) : Int), PV.int IntKind.u32 (↑(Hd.bits (Prm.gen p)) : Int), PV.int IntKind.u32 (↑(Hd.nonce (Prm.gen p)) : Int)], PV.iarr IntKind.u64 (4 : Nat) (uw (Prm.sum p))], PV.vec nl (PV.parr (68 : Nat) i (Sh.st (68 : Nat) [Sh.int IntKind.u32, Sh.iarr IntKind.u8 (32 : Nat), Sh.iarr IntKind.u8 (32 : Nat), Sh.int IntKind.u32, Sh.int IntKind.u32, Sh.int IntKind.u32]) (List.map Hd.pv l))] [] (PV.tup [PV.iarr IntKind.u64 (4 : Nat) (uw v), PV.int IntKind.i64 e]), PC Try.prog G0 (19 : Nat) [] [PV.st (77 : Nat) [PV.int IntKind.u32 (↑(Prm.lim p) : Int), PV.int IntKind.i64 (Prm.per p), PV.int IntKind.i64 (Prm.sp p), PV.int IntKind.i64 (Prm.fu p), PV.int IntKind.i64 (Prm.cap p), PV.st (68 : Nat) [PV.int IntKind.u32 (↑(Hd.ver (Prm.gen p)) : Int), PV.iarr IntKind.u8 (32 : Nat) (Hd.prev (Prm.gen p)), PV.iarr IntKind.u8 (32 : Nat) (Hd.root (Prm.gen p)), PV.int IntKind.u32 (↑(Hd.time (Prm.gen p)) : Int), PV.int IntKind.u32 (↑(Hd.bits (Prm.gen p)) : Int), PV.int IntKind.u32 (↑(Hd.nonce (Prm.gen p)) : Int)], PV.iarr IntKind.u64 (4 : Nat) (uw (Prm.sum p))]] [] (PV.st (74 : Nat) [PV.int IntKind.u32 (↑(Prm.lim p) : Int), PV.int IntKind.i64 (Prm.per p), PV.int IntKind.i64 (Prm.sp p), PV.int IntKind.i64 (Prm.fu p), PV.int IntKind.i64 (Prm.cap p), PV.st (68 : Nat) [PV.int IntKind.u32 (↑(Hd.ver (Prm.gen p)) : Int), PV.iarr IntKind.u8 (32 : Nat) (Hd.prev (Prm.gen p)), PV.iarr IntKind.u8 (32 : Nat) (Hd.root (Prm.gen p)), PV.int IntKind.u32 (↑(Hd.time (Prm.gen p)) : Int), PV.int IntKind.u32 (↑(Hd.bits (Prm.gen p)) : Int), PV.int IntKind.u32 (↑(Hd.nonce (Prm.gen p)) : Int)], PV.vec false (PV.iarr IntKind.i64 (nd (Prm.sum p)) (dg (Prm.sum p)))]), (0 : Nat) + i ≤ i, ([] : List (Nat × Row)) = [], ([PV.st (74 : Nat) [PV.int IntKind.u32 (↑(Prm.lim p) : Int), PV.int IntKind.i64 (Prm.per p), PV.int IntKind.i64 (Prm.sp p), PV.int IntKind.i64 (Prm.fu p), PV.int IntKind.i64 (Prm.cap p), PV.st (68 : Nat) [PV.int IntKind.u32 (↑(Hd.ver (Prm.gen p)) : Int), PV.iarr IntKind.u8 (32 : Nat) (Hd.prev (Prm.gen p)), PV.iarr IntKind.u8 (32 : Nat) (Hd.root (Prm.gen p)), PV.int IntKind.u32 (↑(Hd.time (Prm.gen p)) : Int), PV.int IntKind.u32 (↑(Hd.bits (Prm.gen p)) : Int), PV.int IntKind.u32 (↑(Hd.nonce (Prm.gen p)) : Int)], PV.vec false (PV.iarr IntKind.i64 (nd (Prm.sum p)) (dg (Prm.sum p)))], PV.vec false (PV.parr (68 : Nat) i (Sh.st (68 : Nat) [Sh.int IntKind.u32, Sh.iarr IntKind.u8 (32 : Nat), Sh.iarr IntKind.u8 (32 : Nat), Sh.int IntKind.u32, Sh.int IntKind.u32, Sh.int IntKind.u32]) (List.take i (List.map Hd.pv l)))] : List PV) = [PV.st (74 : Nat) [PV.int IntKind.u32 (↑(Prm.lim p) : Int), PV.int IntKind.i64 (Prm.per p), PV.int IntKind.i64 (Prm.sp p), PV.int IntKind.i64 (Prm.fu p), PV.int IntKind.i64 (Prm.cap p), PV.st (68 : Nat) [PV.int IntKind.u32 (↑(Hd.ver (Prm.gen p)) : Int), PV.iarr IntKind.u8 (32 : Nat) (Hd.prev (Prm.gen p)), PV.iarr IntKind.u8 (32 : Nat) (Hd.root (Prm.gen p)), PV.int IntKind.u32 (↑(Hd.time (Prm.gen p)) : Int), PV.int IntKind.u32 (↑(Hd.bits (Prm.gen p)) : Int), PV.int IntKind.u32 (↑(Hd.nonce (Prm.gen p)) : Int)], PV.vec false (PV.iarr IntKind.i64 (nd (Prm.sum p)) (dg (Prm.sum p)))], PV.vec false (PV.parr (68 : Nat) i (Sh.st (68 : Nat) [Sh.int IntKind.u32, Sh.iarr IntKind.u8 (32 : Nat), Sh.iarr IntKind.u8 (32 : Nat), Sh.int IntKind.u32, Sh.int IntKind.u32, Sh.int IntKind.u32]) (List.map Hd.pv l))], PC Try.prog G0 (25 : Nat) [] [PV.st (74 : Nat) [PV.int IntKind.u32 (↑(Prm.lim p) : Int), PV.int IntKind.i64 (Prm.per p), PV.int IntKind.i64 (Prm.sp p), PV.int IntKind.i64 (Prm.fu p), PV.int IntKind.i64 (Prm.cap p), PV.st (68 : Nat) [PV.int IntKind.u32 (↑(Hd.ver (Prm.gen p)) : Int), PV.iarr IntKind.u8 (32 : Nat) (Hd.prev (Prm.gen p)), PV.iarr IntKind.u8 (32 : Nat) (Hd.root (Prm.gen p)), PV.int IntKind.u32 (↑(Hd.time (Prm.gen p)) : Int), PV.int IntKind.u32 (↑(Hd.bits (Prm.gen p)) : Int), PV.int IntKind.u32 (↑(Hd.nonce (Prm.gen p)) : Int)], PV.vec false (PV.iarr IntKind.i64 (nd (Prm.sum p)) (dg (Prm.sum p)))], PV.vec false (PV.parr (68 : Nat) i (Sh.st (68 : Nat) [Sh.int IntKind.u32, Sh.iarr IntKind.u8 (32 : Nat), Sh.iarr IntKind.u8 (32 : Nat), Sh.int IntKind.u32, Sh.int IntKind.u32, Sh.int IntKind.u32]) (List.map Hd.pv l))] [] (PV.tup [PV.vec (decide (e ≠ (0 : Int))) (PV.iarr IntKind.i64 (nd v) (dg v)), PV.int IntKind.i64 e]), (e == e) = true, PC Try.prog G0 (26 : Nat) [] [PV.vec (decide (e ≠ (0 : Int))) (PV.iarr IntKind.i64 (nd v) (dg v))] [] (PV.iarr IntKind.u64 (4 : Nat) (uw v)), decide (uw v = uw v) = true, PC Try.prog G0 (20 : Nat) [] [] [] (PV.bool true), PV.bool true = PV.bool true] (by kernel_rfl) (ac (by exact decide_eq_false (by omega)) (ac (by exact c1) (ac (by exact c3) (ac (by omega) (ac (by with_reducible rfl) (ac (by rw [List.take_of_length_le (show List.length (List.map Hd.pv l) ≤ i by omega)]) (ac (by exact c2) (ac (by exact decide_eq_true (by omega)) (ac (by exact c5) (ac (by (simp [*]; done)) (ac (by exact c4) (ao (by with_reducible rfl)))))))))))))
  | k + 1, i, L, hk, h0, hL => by
    have hll : L.length = i := by rw [hL]; simp; omega
    have hh := take_snoc (l := l) (i := i) (by omega)
    have g := map_get (l := l) (i := i) (by omega)
    have c1 := pc_ref7 (l.getD i default)
    rw [← hL] at hh
    generalize l.getD i default = h at *
    refine W.seg [((0 : Nat), Ans.dec true), ((2 : Nat), Ans.val (PV.st (68 : Nat) [PV.int IntKind.u32 (↑(Hd.ver h) : Int), PV.iarr IntKind.u8 (32 : Nat) (Hd.prev h), PV.iarr IntKind.u8 (32 : Nat) (Hd.root h), PV.int IntKind.u32 (↑(Hd.time h) : Int), PV.int IntKind.u32 (↑(Hd.bits h) : Int), PV.int IntKind.u32 (↑(Hd.nonce h) : Int)])), ((7 : Nat), Ans.call true [] [] (PV.st (68 : Nat) [PV.int IntKind.u32 (↑(Hd.ver h) : Int), PV.iarr IntKind.u8 (32 : Nat) (Hd.prev h), PV.iarr IntKind.u8 (32 : Nat) (Hd.root h), PV.int IntKind.u32 (↑(Hd.time h) : Int), PV.int IntKind.u32 (↑(Hd.bits h) : Int), PV.int IntKind.u32 (↑(Hd.nonce h) : Int)])), ((9 : Nat), Ans.ups [((1 : Nat), none), ((208 : Nat), some (Row.mk (PV.parr (68 : Nat) (i + (1 : Nat)) (Sh.st (68 : Nat) [Sh.int IntKind.u32, Sh.iarr IntKind.u8 (32 : Nat), Sh.iarr IntKind.u8 (32 : Nat), Sh.int IntKind.u32, Sh.int IntKind.u32, Sh.int IntKind.u32]) (L ++ [PV.st (68 : Nat) [PV.int IntKind.u32 (↑(Hd.ver h) : Int), PV.iarr IntKind.u8 (32 : Nat) (Hd.prev h), PV.iarr IntKind.u8 (32 : Nat) (Hd.root h), PV.int IntKind.u32 (↑(Hd.time h) : Int), PV.int IntKind.u32 (↑(Hd.bits h) : Int), PV.int IntKind.u32 (↑(Hd.nonce h) : Int)]])) false))]), ((11 : Nat), Ans.val (PV.int IntKind.i64 (↑(i + (1 : Nat)) : Int)))] [((2 : Nat), (2 : Nat)), ((208 : Nat), (1 : Nat))] (dsT p nl l n (L ++ [Hd.pv h]) (i + (1 : Nat))) (todo' := loopAt Try.f9 (0 : Nat)) [decide ((↑i : Int) < (↑n : Int)) = true, (0 : Int) ≤ (↑i : Int), (↑i : Int) < (↑n : Int), PV.st (68 : Nat) [PV.int IntKind.u32 (PV.num (List.headD (PV.fs (List.getD (List.map Hd.pv l) i PV.undef)) PV.undef)), PV.iarr IntKind.u8 (32 : Nat) (PV.nums (List.headD (List.tail (PV.fs (List.getD (List.map Hd.pv l) i PV.undef))) PV.undef)), PV.iarr IntKind.u8 (32 : Nat) (PV.nums (List.headD (List.tail (List.tail (PV.fs (List.getD (List.map Hd.pv l) i PV.undef)))) PV.undef)), PV.int IntKind.u32 (PV.num (List.headD (List.tail (List.tail (List.tail (PV.fs (List.getD (List.map Hd.pv l) i PV.undef))))) PV.undef)), PV.int IntKind.u32 (PV.num (List.headD (List.tail (List.tail (List.tail (List.tail (PV.fs (List.getD (List.map Hd.pv l) i PV.undef)))))) PV.undef)), PV.int IntKind.u32 (PV.num (List.headD (List.tail (List.tail (List.tail (List.tail (List.tail (PV.fs (List.getD (List.map Hd.pv l) i PV.undef))))))) PV.undef))] = PV.st (68 : Nat) [PV.int IntKind.u32 (↑(Hd.ver h) : Int), PV.iarr IntKind.u8 (32 : Nat) (Hd.prev h), PV.iarr IntKind.u8 (32 : Nat) (Hd.root h), PV.int IntKind.u32 (↑(Hd.time h) : Int), PV.int IntKind.u32 (↑(Hd.bits h) : Int), PV.int IntKind.u32 (↑(Hd.nonce h) : Int)], i < n, PC Try.prog G0 (22 : Nat) [] [PV.st (68 : Nat) [PV.int IntKind.u32 (↑(Hd.ver h) : Int), PV.iarr IntKind.u8 (32 : Nat) (Hd.prev h), PV.iarr IntKind.u8 (32 : Nat) (Hd.root h), PV.int IntKind.u32 (↑(Hd.time h) : Int), PV.int IntKind.u32 (↑(Hd.bits h) : Int), PV.int IntKind.u32 (↑(Hd.nonce h) : Int)]] [] (PV.st (68 : Nat) [PV.int IntKind.u32 (↑(Hd.ver h) : Int), PV.iarr IntKind.u8 (32 : Nat) (Hd.prev h), PV.iarr IntKind.u8 (32 : Nat) (Hd.root h), PV.int IntKind.u32 (↑(Hd.time h) : Int), PV.int IntKind.u32 (↑(Hd.bits h) : Int), PV.int IntKind.u32 (↑(Hd.nonce h) : Int)]), ([((1 : Nat), none), ((208 : Nat), some (Row.mk (PV.parr (68 : Nat) (i + (1 : Nat)) (Sh.st (68 : Nat) [Sh.int IntKind.u32, Sh.iarr IntKind.u8 (32 : Nat), Sh.iarr IntKind.u8 (32 : Nat), Sh.int IntKind.u32, Sh.int IntKind.u32, Sh.int IntKind.u32]) (List.take i L ++ [PV.st (68 : Nat) [PV.int IntKind.u32 (↑(Hd.ver h) : Int), PV.iarr IntKind.u8 (32 : Nat) (Hd.prev h), PV.iarr IntKind.u8 (32 : Nat) (Hd.root h), PV.int IntKind.u32 (↑(Hd.time h) : Int), PV.int IntKind.u32 (↑(Hd.bits h) : Int), PV.int IntKind.u32 (↑(Hd.nonce h) : Int)]])) false))] : List (Nat × Option Row)) = [((1 : Nat), none), ((208 : Nat), some (Row.mk (PV.parr (68 : Nat) (i + (1 : Nat)) (Sh.st (68 : Nat) [Sh.int IntKind.u32, Sh.iarr IntKind.u8 (32 : Nat), Sh.iarr IntKind.u8 (32 : Nat), Sh.int IntKind.u32, Sh.int IntKind.u32, Sh.int IntKind.u32]) (L ++ [PV.st (68 : Nat) [PV.int IntKind.u32 (↑(Hd.ver h) : Int), PV.iarr IntKind.u8 (32 : Nat) (Hd.prev h), PV.iarr IntKind.u8 (32 : Nat) (Hd.root h), PV.int IntKind.u32 (↑(Hd.time h) : Int), PV.int IntKind.u32 (↑(Hd.bits h) : Int), PV.int IntKind.u32 (↑(Hd.nonce h) : Int)]])) false))], (1 : Nat) ≤ (1 : Nat), (0 : Nat) + i = i, (i + (1 : Nat)) * (80 : Nat) ≤ (140737488355328 : Nat), i + (1 : Nat) ≤ (9223372036854775807 : Nat), PV.int IntKind.i64 (IntKind.wrap IntKind.i64 ((↑i : Int) + (1 : Int))) = PV.int IntKind.i64 (↑(i + (1 : Nat)) : Int), PV.vec nl (PV.parr (68 : Nat) n (Sh.st (68 : Nat) [Sh.int IntKind.u32, Sh.iarr IntKind.u8 (32 : Nat), Sh.iarr IntKind.u8 (32 : Nat), Sh.int IntKind.u32, Sh.int IntKind.u32, Sh.int IntKind.u32]) (List.map Hd.pv l)) = PV.vec nl (PV.parr (68 : Nat) n (Sh.st (68 : Nat) [Sh.int IntKind.u32, Sh.iarr IntKind.u8 (32 : Nat), Sh.iarr IntKind.u8 (32 : Nat), Sh.int IntKind.u32, Sh.int IntKind.u32, Sh.int IntKind.u32]) (List.map Hd.pv l)), PV.at (2 : Nat) [] = PV.at (2 : Nat) [], PV.ref (1 : Nat) [] (68 : Nat) (0 : Nat) (i + (1 : Nat)) = PV.ref (1 : Nat) [] (68 : Nat) (0 : Nat) (i + (1 : Nat)), PV.vec nl (PV.parr (68 : Nat) n (Sh.st (68 : Nat) [Sh.int IntKind.u32, Sh.iarr IntKind.u8 (32 : Nat), Sh.iarr IntKind.u8 (32 : Nat), Sh.int IntKind.u32, Sh.int IntKind.u32, Sh.int IntKind.u32]) (List.map Hd.pv l)) = PV.vec nl (PV.parr (68 : Nat) n (Sh.st (68 : Nat) [Sh.int IntKind.u32, Sh.iarr IntKind.u8 (32 : Nat), Sh.iarr IntKind.u8 (32 : Nat), Sh.int IntKind.u32, Sh.int IntKind.u32, Sh.int IntKind.u32]) (List.map Hd.pv l)), PV.int IntKind.i64 (↑n : Int) = PV.int IntKind.i64 (↑n : Int), PV.int IntKind.i64 (↑(i + (1 : Nat)) : Int) = PV.int IntKind.i64 (↑(i + (1 : Nat)) : Int), PV.st (77 : Nat) [PV.int IntKind.u32 (↑(Prm.lim p) : Int), PV.int IntKind.i64 (Prm.per p), PV.int IntKind.i64 (Prm.sp p), PV.int IntKind.i64 (Prm.fu p), PV.int IntKind.i64 (Prm.cap p), PV.st (68 : Nat) [PV.int IntKind.u32 (↑(Hd.ver (Prm.gen p)) : Int), PV.iarr IntKind.u8 (32 : Nat) (Hd.prev (Prm.gen p)), PV.iarr IntKind.u8 (32 : Nat) (Hd.root (Prm.gen p)), PV.int IntKind.u32 (↑(Hd.time (Prm.gen p)) : Int), PV.int IntKind.u32 (↑(Hd.bits (Prm.gen p)) : Int), PV.int IntKind.u32 (↑(Hd.nonce (Prm.gen p)) : Int)], PV.iarr IntKind.u64 (4 : Nat) (uw (Prm.sum p))] = PV.st (77 : Nat) [PV.int IntKind.u32 (↑(Prm.lim p) : Int), PV.int IntKind.i64 (Prm.per p), PV.int IntKind.i64 (Prm.sp p), PV.int IntKind.i64 (Prm.fu p), PV.int IntKind.i64 (Prm.cap p), PV.st (68 : Nat) [PV.int IntKind.u32 (↑(Hd.ver (Prm.gen p)) : Int), PV.iarr IntKind.u8 (32 : Nat) (Hd.prev (Prm.gen p)), PV.iarr IntKind.u8 (32 : Nat) (Hd.root (Prm.gen p)), PV.int IntKind.u32 (↑(Hd.time (Prm.gen p)) : Int), PV.int IntKind.u32 (↑(Hd.bits (Prm.gen p)) : Int), PV.int IntKind.u32 (↑(Hd.nonce (Prm.gen p)) : Int)], PV.iarr IntKind.u64 (4 : Nat) (uw (Prm.sum p))], PV.parr (68 : Nat) (i + (1 : Nat)) (Sh.st (68 : Nat) [Sh.int IntKind.u32, Sh.iarr IntKind.u8 (32 : Nat), Sh.iarr IntKind.u8 (32 : Nat), Sh.int IntKind.u32, Sh.int IntKind.u32, Sh.int IntKind.u32]) (L ++ [PV.st (68 : Nat) [PV.int IntKind.u32 (↑(Hd.ver h) : Int), PV.iarr IntKind.u8 (32 : Nat) (Hd.prev h), PV.iarr IntKind.u8 (32 : Nat) (Hd.root h), PV.int IntKind.u32 (↑(Hd.time h) : Int), PV.int IntKind.u32 (↑(Hd.bits h) : Int), PV.int IntKind.u32 (↑(Hd.nonce h) : Int)]]) = PV.parr (68 : Nat) (i + (1 : Nat)) (Sh.st (68 : Nat) [Sh.int IntKind.u32, Sh.iarr IntKind.u8 (32 : Nat), Sh.iarr IntKind.u8 (32 : Nat), Sh.int IntKind.u32, Sh.int IntKind.u32, Sh.int IntKind.u32]) (L ++ [PV.st (68 : Nat) [PV.int IntKind.u32 (↑(Hd.ver h) : Int), PV.iarr IntKind.u8 (32 : Nat) (Hd.prev h), PV.iarr IntKind.u8 (32 : Nat) (Hd.root h), PV.int IntKind.u32 (↑(Hd.time h) : Int), PV.int IntKind.u32 (↑(Hd.bits h) : Int), PV.int IntKind.u32 (↑(Hd.nonce h) : Int)]])] (by kernel_rfl) (ac (by exact decide_eq_true (by omega)) (ac (by omega) (ac (by omega) (ac (by (rw [g]; rfl)) (ac (by omega) (ac (by exact c1) (ac (by rw [List.take_of_length_le (show List.length L ≤ i by omega)]) (ac (by omega) (ac (by omega) (ac (by omega) (ac (by omega) (ac (by exact congrArg (PV.int _) (w_i64 rfl (by omega) (by omega))) (ac (by with_reducible rfl) (ac (by with_reducible rfl) (ac (by with_reducible rfl) (ac (by with_reducible rfl) (ac (by with_reducible rfl) (ac (by with_reducible rfl) (ac (by with_reducible rfl) (ao (by with_reducible rfl))))))))))))))))))))) ?_
    exact W_lawT hn hn1 ho hp k (i + 1) _ (by omega) (by omega) hh
set_option maxHeartbeats 4000000 in
theorem pc_ruleTotals {p : Prm} {nl : Bool} {l : List Hd} (hp : p.Ok) (ho : ∀ h ∈ l, h.Ok) : PC Try.prog G0 9 [] [p.pv, lpv nl l] [] (.bool true) := by
  refine PC.of (fn := Try.f9) (c := bodyOf Try.f9) Try.func9 (by kernel_rfl) (by kernel_rfl) (by kernel_rfl) (by kernel_rfl) ?_
  have c3 := pc_rref hp.sum
  have c4 := pc_awake19
  unfold lpv
  generalize hn : l.length = n
  by_cases hb : n > 30
  · refine W.ret [((4 : Nat), Ans.dec true), ((11 : Nat), Ans.call true [] [] (PV.bool true))] [] [decide ((↑n : Int) > (30 : Int)) = true, PC Try.prog G0 (20 : Nat) [] [] [] (PV.bool true), PV.bool true = PV.bool true] (by kernel_rfl) (ac (by exact decide_eq_true (by omega)) (ac (by exact c4) (ao (by with_reducible rfl))))
  · by_cases hm : p.May
    · have c5 := pc_mayY hp hm
      refine W.seg [((4 : Nat), Ans.dec false), ((7 : Nat), Ans.call false [] [] (PV.st (74 : Nat) [PV.int IntKind.u32 (↑(Prm.lim p) : Int), PV.int IntKind.i64 (Prm.per p), PV.int IntKind.i64 (Prm.sp p), PV.int IntKind.i64 (Prm.fu p), PV.int IntKind.i64 (Prm.cap p), PV.st (68 : Nat) [PV.int IntKind.u32 (↑(Hd.ver (Prm.gen p)) : Int), PV.iarr IntKind.u8 (32 : Nat) (Hd.prev (Prm.gen p)), PV.iarr IntKind.u8 (32 : Nat) (Hd.root (Prm.gen p)), PV.int IntKind.u32 (↑(Hd.time (Prm.gen p)) : Int), PV.int IntKind.u32 (↑(Hd.bits (Prm.gen p)) : Int), PV.int IntKind.u32 (↑(Hd.nonce (Prm.gen p)) : Int)], PV.vec false (PV.iarr IntKind.i64 (nd (Prm.sum p)) (dg (Prm.sum p)))])), ((8 : Nat), Ans.call true [] [] (PV.bool true))] [((64 : Nat), (2 : Nat))] (dsT0 p nl l n) (todo' := loopAt Try.f9 (0 : Nat)) [decide ((↑n : Int) > (30 : Int)) = false, PC Try.prog G0 (19 : Nat) [] [PV.st (77 : Nat) [PV.int IntKind.u32 (↑(Prm.lim p) : Int), PV.int IntKind.i64 (Prm.per p), PV.int IntKind.i64 (Prm.sp p), PV.int IntKind.i64 (Prm.fu p), PV.int IntKind.i64 (Prm.cap p), PV.st (68 : Nat) [PV.int IntKind.u32 (↑(Hd.ver (Prm.gen p)) : Int), PV.iarr IntKind.u8 (32 : Nat) (Hd.prev (Prm.gen p)), PV.iarr IntKind.u8 (32 : Nat) (Hd.root (Prm.gen p)), PV.int IntKind.u32 (↑(Hd.time (Prm.gen p)) : Int), PV.int IntKind.u32 (↑(Hd.bits (Prm.gen p)) : Int), PV.int IntKind.u32 (↑(Hd.nonce (Prm.gen p)) : Int)], PV.iarr IntKind.u64 (4 : Nat) (uw (Prm.sum p))]] [] (PV.st (74 : Nat) [PV.int IntKind.u32 (↑(Prm.lim p) : Int), PV.int IntKind.i64 (Prm.per p), PV.int IntKind.i64 (Prm.sp p), PV.int IntKind.i64 (Prm.fu p), PV.int IntKind.i64 (Prm.cap p), PV.st (68 : Nat) [PV.int IntKind.u32 (↑(Hd.ver (Prm.gen p)) : Int), PV.iarr IntKind.u8 (32 : Nat) (Hd.prev (Prm.gen p)), PV.iarr IntKind.u8 (32 : Nat) (Hd.root (Prm.gen p)), PV.int IntKind.u32 (↑(Hd.time (Prm.gen p)) : Int), PV.int IntKind.u32 (↑(Hd.bits (Prm.gen p)) : Int), PV.int IntKind.u32 (↑(Hd.nonce (Prm.gen p)) : Int)], PV.vec false (PV.iarr IntKind.i64 (nd (Prm.sum p)) (dg (Prm.sum p)))]), PC Try.prog G0 (18 : Nat) [] [PV.st (74 : Nat) [PV.int IntKind.u32 (↑(Prm.lim p) : Int), PV.int IntKind.i64 (Prm.per p), PV.int IntKind.i64 (Prm.sp p), PV.int IntKind.i64 (Prm.fu p), PV.int IntKind.i64 (Prm.cap p), PV.st (68 : Nat) [PV.int IntKind.u32 (↑(Hd.ver (Prm.gen p)) : Int), PV.iarr IntKind.u8 (32 : Nat) (Hd.prev (Prm.gen p)), PV.iarr IntKind.u8 (32 : Nat) (Hd.root (Prm.gen p)), PV.int IntKind.u32 (↑(Hd.time (Prm.gen p)) : Int), PV.int IntKind.u32 (↑(Hd.bits (Prm.gen p)) : Int), PV.int IntKind.u32 (↑(Hd.nonce (Prm.gen p)) : Int)], PV.vec false (PV.iarr IntKind.i64 (nd (Prm.sum p)) (dg (Prm.sum p)))]] [] (PV.bool true), PV.vec nl (PV.parr (68 : Nat) n (Sh.st (68 : Nat) [Sh.int IntKind.u32, Sh.iarr IntKind.u8 (32 : Nat), Sh.iarr IntKind.u8 (32 : Nat), Sh.int IntKind.u32, Sh.int IntKind.u32, Sh.int IntKind.u32]) (List.map Hd.pv l)) = PV.vec nl (PV.parr (68 : Nat) n (Sh.st (68 : Nat) [Sh.int IntKind.u32, Sh.iarr IntKind.u8 (32 : Nat), Sh.iarr IntKind.u8 (32 : Nat), Sh.int IntKind.u32, Sh.int IntKind.u32, Sh.int IntKind.u32]) (List.map Hd.pv l)), PV.at (2 : Nat) [] = PV.at (2 : Nat) [], PV.vec true (PV.parr (68 : Nat) (0 : Nat) (Sh.st (68 : Nat) [Sh.int IntKind.u32, Sh.iarr IntKind.u8 (32 : Nat), Sh.iarr IntKind.u8 (32 : Nat), Sh.int IntKind.u32, Sh.int IntKind.u32, Sh.int IntKind.u32]) []) = PV.vec true (PV.parr (68 : Nat) (0 : Nat) (Sh.st (68 : Nat) [Sh.int IntKind.u32, Sh.iarr IntKind.u8 (32 : Nat), Sh.iarr IntKind.u8 (32 : Nat), Sh.int IntKind.u32, Sh.int IntKind.u32, Sh.int IntKind.u32]) []), PV.vec nl (PV.parr (68 : Nat) n (Sh.st (68 : Nat) [Sh.int IntKind.u32, Sh.iarr IntKind.u8 (32 : Nat), Sh.iarr IntKind.u8 (32 : Nat), Sh.int IntKind.u32, Sh.int IntKind.u32, Sh.int IntKind.u32]) (List.map Hd.pv l)) = PV.vec nl (PV.parr (68 : Nat) n (Sh.st (68 : Nat) [Sh.int IntKind.u32, Sh.iarr IntKind.u8 (32 : Nat), Sh.iarr IntKind.u8 (32 : Nat), Sh.int IntKind.u32, Sh.int IntKind.u32, Sh.int IntKind.u32]) (List.map Hd.pv l)), PV.int IntKind.i64 (↑n : Int) = PV.int IntKind.i64 (↑n : Int), PV.int IntKind.i64 (0 : Int) = PV.int IntKind.i64 (0 : Int), PV.st (77 : Nat) [PV.int IntKind.u32 (↑(Prm.lim p) : Int), PV.int IntKind.i64 (Prm.per p), PV.int IntKind.i64 (Prm.sp p), PV.int IntKind.i64 (Prm.fu p), PV.int IntKind.i64 (Prm.cap p), PV.st (68 : Nat) [PV.int IntKind.u32 (↑(Hd.ver (Prm.gen p)) : Int), PV.iarr IntKind.u8 (32 : Nat) (Hd.prev (Prm.gen p)), PV.iarr IntKind.u8 (32 : Nat) (Hd.root (Prm.gen p)), PV.int IntKind.u32 (↑(Hd.time (Prm.gen p)) : Int), PV.int IntKind.u32 (↑(Hd.bits (Prm.gen p)) : Int), PV.int IntKind.u32 (↑(Hd.nonce (Prm.gen p)) : Int)], PV.iarr IntKind.u64 (4 : Nat) (uw (Prm.sum p))] = PV.st (77 : Nat) [PV.int IntKind.u32 (↑(Prm.lim p) : Int), PV.int IntKind.i64 (Prm.per p), PV.int IntKind.i64 (Prm.sp p), PV.int IntKind.i64 (Prm.fu p), PV.int IntKind.i64 (Prm.cap p), PV.st (68 : Nat) [PV.int IntKind.u32 (↑(Hd.ver (Prm.gen p)) : Int), PV.iarr IntKind.u8 (32 : Nat) (Hd.prev (Prm.gen p)), PV.iarr IntKind.u8 (32 : Nat) (Hd.root (Prm.gen p)), PV.int IntKind.u32 (↑(Hd.time (Prm.gen p)) : Int), PV.int IntKind.u32 (↑(Hd.bits (Prm.gen p)) : Int), PV.int IntKind.u32 (↑(Hd.nonce (Prm.gen p)) : Int)], PV.iarr IntKind.u64 (4 : Nat) (uw (Prm.sum p))]] (by kernel_rfl) (ac (by exact decide_eq_false (by omega)) (ac (by exact c3) (ac (by exact c5) (ac (by with_reducible rfl) (ac (by with_reducible rfl) (ac (by with_reducible rfl) (ac (by with_reducible rfl) (ac (by with_reducible rfl) (ac (by with_reducible rfl) (ao (by with_reducible rfl))))))))))) ?_
      by_cases h0 : n = 0
      · have hl : l = [] := List.eq_nil_of_length_eq_zero (by omega)
        subst hl
        subst h0
        have c1 := pc_total (p := p) (nl := nl) (l := []) (by simp) (by simp) hp.sum
        have c2 := pc_rTotal (p := p) (nl := true) (l := []) (by simp) (by simp) hp.sum
        have e : rsum (tot p.sum (List.drop 1 [])) = .tup [bv false p.sum, .int .i64 0] := rfl
        rw [e] at c2
        have c6 := pc_bWords (na := false) (a := p.sum) (nd_W256.2 hp.sum)
        unfold lpv at c1 c2
        rw [show tot p.sum (List.drop 1 []) = (p.sum, 0) from rfl] at c1
        dsimp only at c1
        refine W.ret [((3 : Nat), Ans.call true [] [] (PV.tup [PV.iarr IntKind.u64 (4 : Nat) (uw (Prm.sum p)), PV.int IntKind.i64 (0 : Int)])), ((11 : Nat), Ans.call false [] [] (PV.st (74 : Nat) [PV.int IntKind.u32 (↑(Prm.lim p) : Int), PV.int IntKind.i64 (Prm.per p), PV.int IntKind.i64 (Prm.sp p), PV.int IntKind.i64 (Prm.fu p), PV.int IntKind.i64 (Prm.cap p), PV.st (68 : Nat) [PV.int IntKind.u32 (↑(Hd.ver (Prm.gen p)) : Int), PV.iarr IntKind.u8 (32 : Nat) (Hd.prev (Prm.gen p)), PV.iarr IntKind.u8 (32 : Nat) (Hd.root (Prm.gen p)), PV.int IntKind.u32 (↑(Hd.time (Prm.gen p)) : Int), PV.int IntKind.u32 (↑(Hd.bits (Prm.gen p)) : Int), PV.int IntKind.u32 (↑(Hd.nonce (Prm.gen p)) : Int)], PV.vec false (PV.iarr IntKind.i64 (nd (Prm.sum p)) (dg (Prm.sum p)))])), ((13 : Nat), Ans.call false [] [] (PV.tup [PV.vec false (PV.iarr IntKind.i64 (nd (Prm.sum p)) (dg (Prm.sum p))), PV.int IntKind.i64 (0 : Int)])), ((25 : Nat), Ans.call true [] [] (PV.iarr IntKind.u64 (4 : Nat) (uw (Prm.sum p)))), ((26 : Nat), Ans.dec true), ((29 : Nat), Ans.call true [] [] (PV.bool true))] [] [PC Try.prog G0 (24 : Nat) [] [PV.st (77 : Nat) [PV.int IntKind.u32 (↑(Prm.lim p) : Int), PV.int IntKind.i64 (Prm.per p), PV.int IntKind.i64 (Prm.sp p), PV.int IntKind.i64 (Prm.fu p), PV.int IntKind.i64 (Prm.cap p), PV.st (68 : Nat) [PV.int IntKind.u32 (↑(Hd.ver (Prm.gen p)) : Int), PV.iarr IntKind.u8 (32 : Nat) (Hd.prev (Prm.gen p)), PV.iarr IntKind.u8 (32 : Nat) (Hd.root (Prm.gen p)), PV.int IntKind.u32 (↑(Hd.time (Prm.gen p)) : Int), PV.int IntKind.u32 (↑(Hd.bits (Prm.gen p)) : Int), PV.int IntKind.u32 (↑(Hd.nonce (Prm.gen p)) : Int)], PV.iarr IntKind.u64 (4 : Nat) (uw (Prm.sum p))], PV.vec nl (PV.parr (68 : Nat) (0 : Nat) (Sh.st (68 : Nat) [Sh.int IntKind.u32, Sh.iarr IntKind.u8 (32 : Nat), Sh.iarr IntKind.u8 (32 : Nat), Sh.int IntKind.u32, Sh.int IntKind.u32, Sh.int IntKind.u32]) [])] [] (PV.tup [PV.iarr IntKind.u64 (4 : Nat) (uw (Prm.sum p)), PV.int IntKind.i64 (0 : Int)]), PC Try.prog G0 (19 : Nat) [] [PV.st (77 : Nat) [PV.int IntKind.u32 (↑(Prm.lim p) : Int), PV.int IntKind.i64 (Prm.per p), PV.int IntKind.i64 (Prm.sp p), PV.int IntKind.i64 (Prm.fu p), PV.int IntKind.i64 (Prm.cap p), PV.st (68 : Nat) [PV.int IntKind.u32 (↑(Hd.ver (Prm.gen p)) : Int), PV.iarr IntKind.u8 (32 : Nat) (Hd.prev (Prm.gen p)), PV.iarr IntKind.u8 (32 : Nat) (Hd.root (Prm.gen p)), PV.int IntKind.u32 (↑(Hd.time (Prm.gen p)) : Int), PV.int IntKind.u32 (↑(Hd.bits (Prm.gen p)) : Int), PV.int IntKind.u32 (↑(Hd.nonce (Prm.gen p)) : Int)], PV.iarr IntKind.u64 (4 : Nat) (uw (Prm.sum p))]] [] (PV.st (74 : Nat) [PV.int IntKind.u32 (↑(Prm.lim p) : Int), PV.int IntKind.i64 (Prm.per p), PV.int IntKind.i64 (Prm.sp p), PV.int IntKind.i64 (Prm.fu p), PV.int IntKind.i64 (Prm.cap p), PV.st (68 : Nat) [PV.int IntKind.u32 (↑(Hd.ver (Prm.gen p)) : Int), PV.iarr IntKind.u8 (32 : Nat) (Hd.prev (Prm.gen p)), PV.iarr IntKind.u8 (32 : Nat) (Hd.root (Prm.gen p)), PV.int IntKind.u32 (↑(Hd.time (Prm.gen p)) : Int), PV.int IntKind.u32 (↑(Hd.bits (Prm.gen p)) : Int), PV.int IntKind.u32 (↑(Hd.nonce (Prm.gen p)) : Int)], PV.vec false (PV.iarr IntKind.i64 (nd (Prm.sum p)) (dg (Prm.sum p)))]), PC Try.prog G0 (25 : Nat) [] [PV.st (74 : Nat) [PV.int IntKind.u32 (↑(Prm.lim p) : Int), PV.int IntKind.i64 (Prm.per p), PV.int IntKind.i64 (Prm.sp p), PV.int IntKind.i64 (Prm.fu p), PV.int IntKind.i64 (Prm.cap p), PV.st (68 : Nat) [PV.int IntKind.u32 (↑(Hd.ver (Prm.gen p)) : Int), PV.iarr IntKind.u8 (32 : Nat) (Hd.prev (Prm.gen p)), PV.iarr IntKind.u8 (32 : Nat) (Hd.root (Prm.gen p)), PV.int IntKind.u32 (↑(Hd.time (Prm.gen p)) : Int), PV.int IntKind.u32 (↑(Hd.bits (Prm.gen p)) : Int), PV.int IntKind.u32 (↑(Hd.nonce (Prm.gen p)) : Int)], PV.vec false (PV.iarr IntKind.i64 (nd (Prm.sum p)) (dg (Prm.sum p)))], PV.vec true (PV.parr (68 : Nat) (0 : Nat) (Sh.st (68 : Nat) [Sh.int IntKind.u32, Sh.iarr IntKind.u8 (32 : Nat), Sh.iarr IntKind.u8 (32 : Nat), Sh.int IntKind.u32, Sh.int IntKind.u32, Sh.int IntKind.u32]) [])] [] (PV.tup [PV.vec false (PV.iarr IntKind.i64 (nd (Prm.sum p)) (dg (Prm.sum p))), PV.int IntKind.i64 (0 : Int)]), PC Try.prog G0 (26 : Nat) [] [PV.vec false (PV.iarr IntKind.i64 (nd (Prm.sum p)) (dg (Prm.sum p)))] [] (PV.iarr IntKind.u64 (4 : Nat) (uw (Prm.sum p))), decide (uw (Prm.sum p) = uw (Prm.sum p)) = true, PC Try.prog G0 (20 : Nat) [] [] [] (PV.bool true), PV.bool true = PV.bool true] (by kernel_rfl) (ac (by exact c1) (ac (by exact c3) (ac (by exact c2) (ac (by exact c6) (ac (by (simp [*]; done)) (ac (by exact c4) (ao (by with_reducible rfl))))))))
      · have hh := take_snoc (l := l) (i := 0) (by omega)
        have g := map_get (l := l) (i := 0) (by omega)
        have c1 := pc_ref7 (l.getD 0 default)
        rw [List.take_zero, List.map_nil, List.nil_append] at hh
        generalize l.getD 0 default = h at *
        refine W.seg [((0 : Nat), Ans.dec true), ((2 : Nat), Ans.val (PV.st (68 : Nat) [PV.int IntKind.u32 (↑(Hd.ver h) : Int), PV.iarr IntKind.u8 (32 : Nat) (Hd.prev h), PV.iarr IntKind.u8 (32 : Nat) (Hd.root h), PV.int IntKind.u32 (↑(Hd.time h) : Int), PV.int IntKind.u32 (↑(Hd.bits h) : Int), PV.int IntKind.u32 (↑(Hd.nonce h) : Int)])), ((7 : Nat), Ans.call true [] [] (PV.st (68 : Nat) [PV.int IntKind.u32 (↑(Hd.ver h) : Int), PV.iarr IntKind.u8 (32 : Nat) (Hd.prev h), PV.iarr IntKind.u8 (32 : Nat) (Hd.root h), PV.int IntKind.u32 (↑(Hd.time h) : Int), PV.int IntKind.u32 (↑(Hd.bits h) : Int), PV.int IntKind.u32 (↑(Hd.nonce h) : Int)])), ((11 : Nat), Ans.val (PV.int IntKind.i64 (1 : Int)))] [((2 : Nat), (2 : Nat)), ((208 : Nat), (1 : Nat))] (dsT p nl l n [Hd.pv h] (1 : Nat)) (todo' := loopAt Try.f9 (0 : Nat)) [decide ((0 : Int) < (↑n : Int)) = true, (0 : Int) ≤ (0 : Int), (0 : Int) < (↑n : Int), PV.st (68 : Nat) [PV.int IntKind.u32 (PV.num (List.headD (PV.fs (List.getD (List.map Hd.pv l) (0 : Nat) PV.undef)) PV.undef)), PV.iarr IntKind.u8 (32 : Nat) (PV.nums (List.headD (List.tail (PV.fs (List.getD (List.map Hd.pv l) (0 : Nat) PV.undef))) PV.undef)), PV.iarr IntKind.u8 (32 : Nat) (PV.nums (List.headD (List.tail (List.tail (PV.fs (List.getD (List.map Hd.pv l) (0 : Nat) PV.undef)))) PV.undef)), PV.int IntKind.u32 (PV.num (List.headD (List.tail (List.tail (List.tail (PV.fs (List.getD (List.map Hd.pv l) (0 : Nat) PV.undef))))) PV.undef)), PV.int IntKind.u32 (PV.num (List.headD (List.tail (List.tail (List.tail (List.tail (PV.fs (List.getD (List.map Hd.pv l) (0 : Nat) PV.undef)))))) PV.undef)), PV.int IntKind.u32 (PV.num (List.headD (List.tail (List.tail (List.tail (List.tail (List.tail (PV.fs (List.getD (List.map Hd.pv l) (0 : Nat) PV.undef))))))) PV.undef))] = PV.st (68 : Nat) [PV.int IntKind.u32 (↑(Hd.ver h) : Int), PV.iarr IntKind.u8 (32 : Nat) (Hd.prev h), PV.iarr IntKind.u8 (32 : Nat) (Hd.root h), PV.int IntKind.u32 (↑(Hd.time h) : Int), PV.int IntKind.u32 (↑(Hd.bits h) : Int), PV.int IntKind.u32 (↑(Hd.nonce h) : Int)], (0 : Nat) < n, PC Try.prog G0 (22 : Nat) [] [PV.st (68 : Nat) [PV.int IntKind.u32 (↑(Hd.ver h) : Int), PV.iarr IntKind.u8 (32 : Nat) (Hd.prev h), PV.iarr IntKind.u8 (32 : Nat) (Hd.root h), PV.int IntKind.u32 (↑(Hd.time h) : Int), PV.int IntKind.u32 (↑(Hd.bits h) : Int), PV.int IntKind.u32 (↑(Hd.nonce h) : Int)]] [] (PV.st (68 : Nat) [PV.int IntKind.u32 (↑(Hd.ver h) : Int), PV.iarr IntKind.u8 (32 : Nat) (Hd.prev h), PV.iarr IntKind.u8 (32 : Nat) (Hd.root h), PV.int IntKind.u32 (↑(Hd.time h) : Int), PV.int IntKind.u32 (↑(Hd.bits h) : Int), PV.int IntKind.u32 (↑(Hd.nonce h) : Int)]), (1 : Nat) ≤ (1 : Nat), (0 : Nat) < (1 : Nat), (80 : Nat) ≤ (140737488355328 : Nat), (1 : Nat) ≤ (9223372036854775807 : Nat), PV.int IntKind.i64 (IntKind.wrap IntKind.i64 ((0 : Int) + (1 : Int))) = PV.int IntKind.i64 (1 : Int), PV.vec nl (PV.parr (68 : Nat) n (Sh.st (68 : Nat) [Sh.int IntKind.u32, Sh.iarr IntKind.u8 (32 : Nat), Sh.iarr IntKind.u8 (32 : Nat), Sh.int IntKind.u32, Sh.int IntKind.u32, Sh.int IntKind.u32]) (List.map Hd.pv l)) = PV.vec nl (PV.parr (68 : Nat) n (Sh.st (68 : Nat) [Sh.int IntKind.u32, Sh.iarr IntKind.u8 (32 : Nat), Sh.iarr IntKind.u8 (32 : Nat), Sh.int IntKind.u32, Sh.int IntKind.u32, Sh.int IntKind.u32]) (List.map Hd.pv l)), PV.at (2 : Nat) [] = PV.at (2 : Nat) [], PV.ref (1 : Nat) [] (68 : Nat) (0 : Nat) (1 : Nat) = PV.ref (1 : Nat) [] (68 : Nat) (0 : Nat) (1 : Nat), PV.vec nl (PV.parr (68 : Nat) n (Sh.st (68 : Nat) [Sh.int IntKind.u32, Sh.iarr IntKind.u8 (32 : Nat), Sh.iarr IntKind.u8 (32 : Nat), Sh.int IntKind.u32, Sh.int IntKind.u32, Sh.int IntKind.u32]) (List.map Hd.pv l)) = PV.vec nl (PV.parr (68 : Nat) n (Sh.st (68 : Nat) [Sh.int IntKind.u32, Sh.iarr IntKind.u8 (32 : Nat), Sh.iarr IntKind.u8 (32 : Nat), Sh.int IntKind.u32, Sh.int IntKind.u32, Sh.int IntKind.u32]) (List.map Hd.pv l)), PV.int IntKind.i64 (↑n : Int) = PV.int IntKind.i64 (↑n : Int), PV.int IntKind.i64 (1 : Int) = PV.int IntKind.i64 (↑(1 : Nat) : Int), PV.st (77 : Nat) [PV.int IntKind.u32 (↑(Prm.lim p) : Int), PV.int IntKind.i64 (Prm.per p), PV.int IntKind.i64 (Prm.sp p), PV.int IntKind.i64 (Prm.fu p), PV.int IntKind.i64 (Prm.cap p), PV.st (68 : Nat) [PV.int IntKind.u32 (↑(Hd.ver (Prm.gen p)) : Int), PV.iarr IntKind.u8 (32 : Nat) (Hd.prev (Prm.gen p)), PV.iarr IntKind.u8 (32 : Nat) (Hd.root (Prm.gen p)), PV.int IntKind.u32 (↑(Hd.time (Prm.gen p)) : Int), PV.int IntKind.u32 (↑(Hd.bits (Prm.gen p)) : Int), PV.int IntKind.u32 (↑(Hd.nonce (Prm.gen p)) : Int)], PV.iarr IntKind.u64 (4 : Nat) (uw (Prm.sum p))] = PV.st (77 : Nat) [PV.int IntKind.u32 (↑(Prm.lim p) : Int), PV.int IntKind.i64 (Prm.per p), PV.int IntKind.i64 (Prm.sp p), PV.int IntKind.i64 (Prm.fu p), PV.int IntKind.i64 (Prm.cap p), PV.st (68 : Nat) [PV.int IntKind.u32 (↑(Hd.ver (Prm.gen p)) : Int), PV.iarr IntKind.u8 (32 : Nat) (Hd.prev (Prm.gen p)), PV.iarr IntKind.u8 (32 : Nat) (Hd.root (Prm.gen p)), PV.int IntKind.u32 (↑(Hd.time (Prm.gen p)) : Int), PV.int IntKind.u32 (↑(Hd.bits (Prm.gen p)) : Int), PV.int IntKind.u32 (↑(Hd.nonce (Prm.gen p)) : Int)], PV.iarr IntKind.u64 (4 : Nat) (uw (Prm.sum p))], PV.parr (68 : Nat) (1 : Nat) (Sh.st (68 : Nat) [Sh.int IntKind.u32, Sh.iarr IntKind.u8 (32 : Nat), Sh.iarr IntKind.u8 (32 : Nat), Sh.int IntKind.u32, Sh.int IntKind.u32, Sh.int IntKind.u32]) [PV.st (68 : Nat) [PV.int IntKind.u32 (↑(Hd.ver h) : Int), PV.iarr IntKind.u8 (32 : Nat) (Hd.prev h), PV.iarr IntKind.u8 (32 : Nat) (Hd.root h), PV.int IntKind.u32 (↑(Hd.time h) : Int), PV.int IntKind.u32 (↑(Hd.bits h) : Int), PV.int IntKind.u32 (↑(Hd.nonce h) : Int)]] = PV.parr (68 : Nat) (1 : Nat) (Sh.st (68 : Nat) [Sh.int IntKind.u32, Sh.iarr IntKind.u8 (32 : Nat), Sh.iarr IntKind.u8 (32 : Nat), Sh.int IntKind.u32, Sh.int IntKind.u32, Sh.int IntKind.u32]) [PV.st (68 : Nat) [PV.int IntKind.u32 (↑(Hd.ver h) : Int), PV.iarr IntKind.u8 (32 : Nat) (Hd.prev h), PV.iarr IntKind.u8 (32 : Nat) (Hd.root h), PV.int IntKind.u32 (↑(Hd.time h) : Int), PV.int IntKind.u32 (↑(Hd.bits h) : Int), PV.int IntKind.u32 (↑(Hd.nonce h) : Int)]]] (by kernel_rfl) (ac (by exact decide_eq_true (by omega)) (ac (by omega) (ac (by omega) (ac (by (rw [g]; rfl)) (ac (by omega) (ac (by exact c1) (ac (by omega) (ac (by omega) (ac (by omega) (ac (by omega) (ac (by exact congrArg (PV.int _) (w_i64 rfl (by omega) (by omega))) (ac (by with_reducible rfl) (ac (by with_reducible rfl) (ac (by with_reducible rfl) (ac (by with_reducible rfl) (ac (by with_reducible rfl) (ac (by exact congrArg (PV.int _) (by omega)) (ac (by with_reducible rfl) (ao (by with_reducible rfl)))))))))))))))))))) ?_
        exact W_lawT hn (by omega) ho hp (n - 1) 1 _ (by omega) (by omega) hh
    · have c5 := pc_mayN hp hm
      refine W.ret [((4 : Nat), Ans.dec false), ((7 : Nat), Ans.call false [] [] (PV.st (74 : Nat) [PV.int IntKind.u32 (↑(Prm.lim p) : Int), PV.int IntKind.i64 (Prm.per p), PV.int IntKind.i64 (Prm.sp p), PV.int IntKind.i64 (Prm.fu p), PV.int IntKind.i64 (Prm.cap p), PV.st (68 : Nat) [PV.int IntKind.u32 (↑(Hd.ver (Prm.gen p)) : Int), PV.iarr IntKind.u8 (32 : Nat) (Hd.prev (Prm.gen p)), PV.iarr IntKind.u8 (32 : Nat) (Hd.root (Prm.gen p)), PV.int IntKind.u32 (↑(Hd.time (Prm.gen p)) : Int), PV.int IntKind.u32 (↑(Hd.bits (Prm.gen p)) : Int), PV.int IntKind.u32 (↑(Hd.nonce (Prm.gen p)) : Int)], PV.vec false (PV.iarr IntKind.i64 (nd (Prm.sum p)) (dg (Prm.sum p)))])), ((8 : Nat), Ans.call true [] [] (PV.bool false)), ((11 : Nat), Ans.call true [] [] (PV.bool true))] [] [decide ((↑n : Int) > (30 : Int)) = false, PC Try.prog G0 (19 : Nat) [] [PV.st (77 : Nat) [PV.int IntKind.u32 (↑(Prm.lim p) : Int), PV.int IntKind.i64 (Prm.per p), PV.int IntKind.i64 (Prm.sp p), PV.int IntKind.i64 (Prm.fu p), PV.int IntKind.i64 (Prm.cap p), PV.st (68 : Nat) [PV.int IntKind.u32 (↑(Hd.ver (Prm.gen p)) : Int), PV.iarr IntKind.u8 (32 : Nat) (Hd.prev (Prm.gen p)), PV.iarr IntKind.u8 (32 : Nat) (Hd.root (Prm.gen p)), PV.int IntKind.u32 (↑(Hd.time (Prm.gen p)) : Int), PV.int IntKind.u32 (↑(Hd.bits (Prm.gen p)) : Int), PV.int IntKind.u32 (↑(Hd.nonce (Prm.gen p)) : Int)], PV.iarr IntKind.u64 (4 : Nat) (uw (Prm.sum p))]] [] (PV.st (74 : Nat) [PV.int IntKind.u32 (↑(Prm.lim p) : Int), PV.int IntKind.i64 (Prm.per p), PV.int IntKind.i64 (Prm.sp p), PV.int IntKind.i64 (Prm.fu p), PV.int IntKind.i64 (Prm.cap p), PV.st (68 : Nat) [PV.int IntKind.u32 (↑(Hd.ver (Prm.gen p)) : Int), PV.iarr IntKind.u8 (32 : Nat) (Hd.prev (Prm.gen p)), PV.iarr IntKind.u8 (32 : Nat) (Hd.root (Prm.gen p)), PV.int IntKind.u32 (↑(Hd.time (Prm.gen p)) : Int), PV.int IntKind.u32 (↑(Hd.bits (Prm.gen p)) : Int), PV.int IntKind.u32 (↑(Hd.nonce (Prm.gen p)) : Int)], PV.vec false (PV.iarr IntKind.i64 (nd (Prm.sum p)) (dg (Prm.sum p)))]), PC Try.prog G0 (18 : Nat) [] [PV.st (74 : Nat) [PV.int IntKind.u32 (↑(Prm.lim p) : Int), PV.int IntKind.i64 (Prm.per p), PV.int IntKind.i64 (Prm.sp p), PV.int IntKind.i64 (Prm.fu p), PV.int IntKind.i64 (Prm.cap p), PV.st (68 : Nat) [PV.int IntKind.u32 (↑(Hd.ver (Prm.gen p)) : Int), PV.iarr IntKind.u8 (32 : Nat) (Hd.prev (Prm.gen p)), PV.iarr IntKind.u8 (32 : Nat) (Hd.root (Prm.gen p)), PV.int IntKind.u32 (↑(Hd.time (Prm.gen p)) : Int), PV.int IntKind.u32 (↑(Hd.bits (Prm.gen p)) : Int), PV.int IntKind.u32 (↑(Hd.nonce (Prm.gen p)) : Int)], PV.vec false (PV.iarr IntKind.i64 (nd (Prm.sum p)) (dg (Prm.sum p)))]] [] (PV.bool false), PC Try.prog G0 (20 : Nat) [] [] [] (PV.bool true), PV.bool true = PV.bool true] (by kernel_rfl) (ac (by exact decide_eq_false (by omega)) (ac (by exact c3) (ac (by exact c5) (ac (by exact c4) (ao (by with_reducible rfl))))))
/-- what the law compares -/
structure Same (x e : Int) (y : Int) (b : Bool) : Prop where
  yes : b = true → e = 0 ∧ x = y
  no : b = false → e = 5 ∧ x = 0
end Go.Proofs
namespace Go.Pe
def laysB (P : Program) (tot : Nat) : Nat → List Field → Bool
  | o, [] => Nat.beq o tot
  | o, f :: l => Nat.beq f.offset o && laysB P tot (o + P.cellsOf f.type) l
def okT (P : Program) : Nat → TypeId → Bool
  | 0, _ => false
  | d + 1, t => match P.underlying t with
    | some .bool | some (.int _) | some .string => Nat.beq (P.cellsOf t) 1
    | some (.struct fs) => laysB P (P.cellsOf t) 0 fs.toList && fs.toList.all fun f => okT P d f.type
    | some (.array n e) => Nat.beq (P.cellsOf t) (n * P.cellsOf e) && szOk P e && okT P d e
    | some (.slice e) => Nat.beq (P.cellsOf t) 1 && szOk P e && okT P d e
    | _ => false
theorem same_refl (k : IntKind) : IntKind.same k k = true := by cases k <;> rfl
theorem beq_refl (s : Sh) : Sh.beq s s = true :=
  Sh.rec (motive_1 := fun s => Sh.beq s s = true) (motive_2 := fun l => Sh.beqL l l = true) rfl same_refl rfl rfl (fun _ _ ih => by simp only [Sh.beq, Bool.and_eq_true]; exact ⟨Nat.beq_refl _, ih⟩)
    (fun k _ => by simp only [Sh.beq, Bool.and_eq_true]; exact ⟨same_refl k, Nat.beq_refl _⟩) (fun _ _ _ ih => by simp only [Sh.beq, Bool.and_eq_true]; exact ⟨⟨Nat.beq_refl _, Nat.beq_refl _⟩, ih⟩)
    (fun _ _ ih => by simp only [Sh.beq, Bool.and_eq_true]; exact ⟨Nat.beq_refl _, ih⟩) rfl (fun _ _ h1 h2 => by simp only [Sh.beqL, Bool.and_eq_true]; exact ⟨h1, h2⟩) s
structure Opens (P : Program) (w : World) (T : T2) (d : Nat) (t : TypeId) (cs : List Value) (p : PV) : Prop where
  conf : conf (shOf P d t) p = true
  wf : WF p
  noref : noref p = true
  untup : untup p = true
  size : size p = P.cellsOf t
  len : cs.length = P.cellsOf t
  agg : Pe.isAgg p = isAggT P t
  rel : ∀ (j : Nat) (q : PV) (u : Value), (flat p)[j]? = some q → cs[j]? = some u → RC w T u q
theorem mapM_get {α β : Type} {g : α → Option β} : ∀ {l : List α} {xs : List β}, l.mapM g = some xs → ∀ i ∈ l, ∃ y, g i = some y
  | [], _, _, i, hi => by cases hi
  | a :: l, xs, h, i, hi => by
    rw [List.mapM_cons] at h
    simp only [Option.bind_eq_bind, Option.bind_eq_some_iff] at h
    obtain ⟨y, hy, ys, hys, _⟩ := h
    rcases List.mem_cons.1 hi with rfl | hi
    · exact ⟨y, hy⟩
    · exact mapM_get hys i hi
theorem flatL_nth {s : Nat} (hs : 0 < s) : ∀ {l : List PV}, WFL l → (∀ q ∈ l, Pe.size q = s) → ∀ {j : Nat} {q : PV}, (flatL l)[j]? = some q → ∃ p, l[j / s]? = some p ∧ (flat p)[j % s]? = some q
  | [], _, _, j, q, h => by simp [flatL] at h
  | p :: l, hw, hz, j, q, h => by
    simp only [WFL] at hw
    have hl : (flat p).length = s := by rw [flat_length p hw.1, hz p (by simp)]
    simp only [flatL] at h
    by_cases hj : j < s
    · rw [List.getElem?_append_left (by omega)] at h
      refine ⟨p, by rw [Nat.div_eq_of_lt hj]; rfl, by rw [Nat.mod_eq_of_lt hj]; exact h⟩
    · rw [List.getElem?_append_right (by omega), hl] at h
      obtain ⟨p', h1, h2⟩ := flatL_nth hs hw.2 (fun q hq => hz q (by simp [hq])) h
      have e : j = (j - s) + s := by omega
      refine ⟨p', ?_, ?_⟩
      · rw [e, Nat.add_div_right _ hs]
        simpa using h1
      · rw [e, Nat.add_mod_right]; exact h2
/-- The row of n elements. -/
def arrOf (P : Program) (d : Nat) (e : TypeId) (l : List PV) : PV := match P.underlying e with
  | some (.int k) => .iarr k l.length (l.map PV.num)
  | _ => .parr (P.cellsOf e) l.length (shOf P d e) l
section
variable {P : Program} {w : World} {T : T2}
theorem shOf_int {d : Nat} {e : TypeId} {k : IntKind} (h : P.underlying e = some (.int k)) : shOf P (d + 1) e = .int k := by simp only [shOf, h]
theorem shOf_slice {d : Nat} {t e : TypeId} (h : P.underlying t = some (.slice e)) : shOf P (d + 1) t = .vec (P.cellsOf e) (shOf P d e) := by simp only [shOf, h]
theorem arrOf_spec {d : Nat} {e : TypeId} {l : List PV} (hok : okT P d e = true) (hl : ∀ q ∈ l, Pe.conf (shOf P d e) q = true ∧ WF q ∧ Pe.noref q = true ∧ Pe.untup q = true ∧ Pe.size q = P.cellsOf e) :
    WF (arrOf P d e l) ∧ isArr (arrOf P d e l) = true ∧ arrLen (arrOf P d e l) = l.length ∧ elSize (arrOf P d e l) = P.cellsOf e ∧ Pe.untup (arrOf P d e l) = true ∧ flat (arrOf P d e l) = flatL l ∧ Pe.size (arrOf P d e l) = l.length * P.cellsOf e := by
  have hut : untupL l = true := by
    clear hok
    induction l with
    | nil => rfl
    | cons p l ih =>
      simp only [untupL, Bool.and_eq_true]
      exact ⟨(hl p (by simp)).2.2.2.1, ih fun q hq => hl q (by simp [hq])⟩
  unfold arrOf
  split
  · rename_i k hu
    obtain ⟨d', rfl⟩ : ∃ d', d = d' + 1 := by cases d with
      | zero => simp [okT] at hok
      | succ d => exact ⟨d, rfl⟩
    have h1 : P.cellsOf e = 1 := by
      simp only [okT, hu] at hok
      exact Nat.eq_of_beq_eq_true hok
    have hq : ∀ q ∈ l, ∃ x, q = .int k x ∧ k.wrap x = x := by
      intro q hq
      have := hl q hq
      rw [shOf_int hu] at this
      cases q <;> simp only [Pe.conf, reduceCtorEq, false_and] at this
      rename_i k' x
      have hk := IntKind.same_eq this.1
      subst hk
      exact ⟨x, rfl, by simpa only [WF] using this.2.1⟩
    have hf : (l.map PV.num).map (PV.int k) = l := by
      rw [List.map_map]
      conv => rhs; rw [← List.map_id l]
      refine List.map_congr_left fun q hql => ?_
      obtain ⟨x, rfl, _⟩ := hq q hql
      rfl
    have hfl : flatL l = l := by
      clear hok hf
      induction l with
      | nil => rfl
      | cons p l ih =>
        obtain ⟨x, rfl, _⟩ := hq p (by simp)
        simp only [flatL, flat]
        rw [ih (by simp only [untupL, Bool.and_eq_true] at hut; exact hut.2) (fun q hq' => hl q (by simp [hq'])) (fun q hq' => hq q (by simp [hq']))]
        rfl
    refine ⟨?_, rfl, rfl, by simp only [elSize]; omega, rfl, by simp only [flat]; rw [hf, hfl], by simp only [Pe.size]; rw [h1, Nat.mul_one]⟩
    simp only [WF, List.length_map, List.mem_map, true_and]
    rintro x ⟨q, hql, rfl⟩
    obtain ⟨x, rfl, hx⟩ := hq q hql
    exact hx
  · refine ⟨?_, rfl, rfl, rfl, by simpa only [Pe.untup] using hut, rfl, rfl⟩
    simp only [WF]
    exact ⟨trivial, WFL_of fun q hq => (hl q hq).2.1, fun q hq => ⟨(hl q hq).2.2.2.2, (hl q hq).1, (hl q hq).2.2.1⟩⟩
theorem opens_array {d n : Nat} {t e : TypeId} {cs : List Value} (hu : P.underlying t = some (.array n e)) (hc : P.cellsOf t = n * P.cellsOf e) (hok : okT P d e = true) (hs : 0 < P.cellsOf e) (hl : cs.length = P.cellsOf t)
    (h : ∀ i, i < n → ∃ p, Opens P w T d e ((cs.drop (i * P.cellsOf e)).take (P.cellsOf e)) p) : ∃ p, Opens P w T (d + 1) t cs p := by
  have hex : ∀ i, ∃ p, i < n → Opens P w T d e ((cs.drop (i * P.cellsOf e)).take (P.cellsOf e)) p := fun i => by
    by_cases hi : i < n
    · obtain ⟨p, hp⟩ := h i hi; exact ⟨p, fun _ => hp⟩
    · exact ⟨.undef, fun h => absurd h hi⟩
  obtain ⟨f, hf⟩ := Classical.axiomOfChoice hex
  have hmem : ∀ q ∈ (List.range n).map f, Pe.conf (shOf P d e) q = true ∧ WF q ∧ Pe.noref q = true ∧ Pe.untup q = true ∧ Pe.size q = P.cellsOf e := by
    intro q hq
    obtain ⟨i, hi, rfl⟩ := List.mem_map.1 hq
    have := hf i (by simpa using hi)
    exact ⟨this.conf, this.wf, this.noref, this.untup, this.size⟩
  obtain ⟨a1, a2, a3, a4, a5, a6, a7⟩ := arrOf_spec hok hmem
  have hlen : ((List.range n).map f).length = n := by simp
  refine ⟨arrOf P d e ((List.range n).map f), ?_, a1, arr_noref a2, a5, by rw [a7, hlen, hc], hl, ?_, fun j q u hq hu' => ?_⟩
  · unfold arrOf
    simp only [shOf, hu]
    cases hk : P.underlying e with
    | none =>
      simp only [Pe.conf, Bool.and_eq_true, hlen]
      exact ⟨⟨Nat.beq_refl _, Nat.beq_refl _⟩, beq_refl _⟩
    | some dsc => cases dsc with
    | int k =>
      simp only [Pe.conf, Bool.and_eq_true, hlen]
      exact ⟨same_refl k, Nat.beq_refl _⟩
    | _ =>
      simp only [Pe.conf, Bool.and_eq_true, hlen]
      exact ⟨⟨Nat.beq_refl _, Nat.beq_refl _⟩, beq_refl _⟩
  · have : Pe.isAgg (arrOf P d e ((List.range n).map f)) = true := by unfold arrOf; split <;> rfl
    rw [this]
    simp only [isAggT, hu]
  · rw [a6] at hq
    have hwl : WFL ((List.range n).map f) := WFL_of fun q hq => (hmem q hq).2.1
    obtain ⟨p, h1, h2⟩ := flatL_nth hs hwl (fun q hq => (hmem q hq).2.2.2.2) hq
    have hjn : j / P.cellsOf e < n := by have := (List.getElem?_eq_some_iff.1 h1).1; simpa using this
    have hp : p = f (j / P.cellsOf e) := by simp [hjn] at h1; exact h1.symm
    subst hp
    refine (hf _ hjn).rel (j % P.cellsOf e) q u h2 ?_
    rw [List.getElem?_take, if_pos (Nat.mod_lt _ hs), List.getElem?_drop, ← hu']
    congr 1
    rw [Nat.mul_comm]
    exact Nat.div_add_mod j (P.cellsOf e)
theorem opens_fields {d tot : Nat} {cs : List Value} (hl : cs.length = tot) : ∀ {fs : List Field} {o : Nat}, laysB P tot o fs = true → (∀ f ∈ fs, okT P d f.type = true ∧ ∃ p, Opens P w T d f.type ((cs.drop f.offset).take (P.cellsOf f.type)) p) →
    ∃ ps, confL (fs.map fun f => shOf P d f.type) ps = true ∧ WFL ps ∧ norefL ps = true ∧ untupL ps = true ∧ o + sizeL ps = tot ∧ ∀ (j : Nat) (q : PV) (u : Value), (flatL ps)[j]? = some q → cs[o + j]? = some u → RC w T u q
  | [], o, h, _ => by
    simp only [laysB] at h
    exact ⟨[], rfl, by simp [WFL], rfl, rfl, by simp only [sizeL]; exact Nat.eq_of_beq_eq_true h, fun j q u hq => by simp [flatL] at hq⟩
  | f :: fs, o, h, hf => by
    simp only [laysB, Bool.and_eq_true] at h
    obtain ⟨h1, h2⟩ := h
    have ho := Nat.eq_of_beq_eq_true h1
    obtain ⟨_, p, hp⟩ := hf f (by simp)
    obtain ⟨ps, g1, g2, g3, g4, g5, g6⟩ := opens_fields hl h2 fun x hx => hf x (by simp [hx])
    refine ⟨p :: ps, by simp only [List.map_cons, confL, Bool.and_eq_true]; exact ⟨hp.conf, g1⟩, by simp only [WFL]; exact ⟨hp.wf, g2⟩, by simp only [norefL, Bool.and_eq_true]; exact ⟨hp.noref, g3⟩, by simp only [untupL, Bool.and_eq_true]; exact ⟨hp.untup, g4⟩, by simp only [sizeL, hp.size]; omega, fun j q u hq hu => ?_⟩
    simp only [flatL] at hq
    have hlp : (flat p).length = P.cellsOf f.type := by rw [flat_length p hp.wf, hp.size]
    by_cases hj : j < P.cellsOf f.type
    · rw [List.getElem?_append_left (by omega)] at hq
      refine hp.rel j q u hq ?_
      rw [List.getElem?_take, if_pos hj, List.getElem?_drop, ho]
      exact hu
    · rw [List.getElem?_append_right (by omega), hlp] at hq
      refine g6 _ q u hq ?_
      rw [← hu]
      congr 1
      omega
end
section
variable {H : Type} {enc : TypeId × Value → H} {P : Program} {w : World} {base : Nat} {spare : Nat → Bool} {held : Bool}
theorem cells?_spec {a : Addr} {n : Nat} {cs : List Value} (h : w.cells? base a n = some cs) : cs.length = n ∧ ∀ j u, cs[j]? = some u → w.cell? (a.add j) = some u := by
  unfold World.cells? at h
  split at h
  · have : ∀ {l : List Nat} {xs : List Value}, l.mapM (fun i => w.cell? (a.add i)) = some xs → xs.length = l.length ∧ ∀ (j : Nat) (i : Nat) (u : Value), l[j]? = some i → xs[j]? = some u → w.cell? (a.add i) = some u := by
      intro l
      induction l with
      | nil => intro xs h; simp at h; subst h; exact ⟨rfl, fun j i u hi => by simp at hi⟩
      | cons b l ih =>
        intro xs h
        rw [List.mapM_cons] at h
        simp only [Option.bind_eq_bind, Option.bind_eq_some_iff, Option.pure_def, Option.some.injEq] at h
        obtain ⟨y, hy, ys, hys, rfl⟩ := h
        obtain ⟨e1, e2⟩ := ih hys
        refine ⟨by simp [e1], fun j i u hi hu => ?_⟩
        cases j with
        | zero => simp at hi hu; subst hi; subst hu; exact hy
        | succ j => simp at hi hu; exact e2 j i u hi hu
    obtain ⟨e1, e2⟩ := this h
    refine ⟨by simpa using e1, fun j u hu => ?_⟩
    have hj : j < n := by have := (List.getElem?_eq_some_iff.1 hu).1; simp at e1; omega
    exact e2 j j u (by simp [hj]) hu
  · cases h
theorem trod_opens : ∀ (d : Nat) (t : TypeId) (fuel : Nat) (cs : List Value) (x : DataW H × List MemPlace), okT P d t = true → DataW.trod enc P w base spare held fuel t cs = some x → ∃ p, Opens P w (fun b _ => b < w.heap.size) d t cs p
  | 0, _, _, _, _, h, _ => by simp [okT] at h
  | d + 1, t, 0, cs, x, _, h => by simp [DataW.trod] at h
  | d + 1, t, fuel + 1, cs, x, hok, h => by
    have hsz : ∀ e, szOk P e = true → 0 < P.cellsOf e := fun e he => Nat.pos_of_ne_zero (szOk_ne he)
    simp only [okT] at hok
    split at hok
    · rename_i hu
      have hc := Nat.eq_of_beq_eq_true hok
      obtain ⟨b, rfl, _⟩ := DataW.trod_bool hu h
      refine ⟨.bool b, by simp only [shOf, hu]; rfl, trivial, rfl, rfl, hc.symm, by rw [hc]; rfl, by simp only [isAggT, hu]; rfl, fun j q u hq hu' => ?_⟩
      cases j with
      | zero => simp [flat] at hq hu'; subst hq; subst hu'; exact .bool b
      | succ j => simp [flat] at hq
    · rename_i k hu
      have hc := Nat.eq_of_beq_eq_true hok
      obtain ⟨n, rfl, _, hwf⟩ := DataW.trod_int hu h
      have hw : k.wrap n = n := by
        rw [wrap_bounds]
        simpa [Lit.wf, IntKind.has] using hwf
      refine ⟨.int k n, by simp only [shOf, hu, conf]; cases k <;> rfl, by simp only [WF]; exact hw, rfl, rfl, hc.symm, by rw [hc]; rfl, by simp only [isAggT, hu]; rfl, fun j q u hq hu' => ?_⟩
      cases j with
      | zero => simp [flat] at hq hu'; subst hq; subst hu'; exact .int k n
      | succ j => simp [flat] at hq
    · rename_i hu
      have hc := Nat.eq_of_beq_eq_true hok
      obtain ⟨s, rfl, _, hs⟩ := DataW.trod_string hu h
      refine ⟨.str s, by simp only [shOf, hu]; rfl, trivial, rfl, rfl, hc.symm, by rw [hc]; rfl, by simp only [isAggT, hu]; rfl, fun j q u hq hu' => ?_⟩
      cases j with
      | zero => simp [flat] at hq hu'; subst hq; subst hu'; exact .str s hs
      | succ j => simp [flat] at hq
    · rename_i fs hu
      simp only [Bool.and_eq_true, List.all_eq_true] at hok
      simp only [DataW.trod, hu] at h
      split at h
      · rename_i hl
        simp only [Option.map_eq_some_iff] at h
        obtain ⟨xs, hxs, _⟩ := h
        obtain ⟨ps, g1, g2, g3, g4, g5, g6⟩ := opens_fields (P := P) (w := w) (T := fun b _ => b < w.heap.size) (d := d) hl hok.1 (fun f hf => ⟨hok.2 f hf, by
          obtain ⟨y, hy⟩ := mapM_get hxs f hf
          exact trod_opens d f.type fuel _ y (hok.2 f hf) hy⟩)
        refine ⟨.st (P.cellsOf t) ps, by simp only [shOf, hu, conf, Bool.and_eq_true]; exact ⟨Nat.beq_refl _, g1⟩, by simp only [WF]; exact ⟨by omega, g2⟩, by simp only [noref]; exact g3, by simp only [untup]; exact g4, rfl, hl, by simp only [isAggT, hu]; rfl, fun j q u hq hu' => ?_⟩
        simp only [flat] at hq
        exact g6 j q u hq (by rw [Nat.zero_add]; exact hu')
      · cases h
    · rename_i n e hu
      simp only [Bool.and_eq_true] at hok
      have hc := Nat.eq_of_beq_eq_true hok.1.1
      simp only [DataW.trod, hu] at h
      split at h
      · rename_i hl
        simp only [Option.map_eq_some_iff] at h
        obtain ⟨xs, hxs, _⟩ := h
        exact opens_array hu hc hok.2 (hsz e hok.1.2) hl fun i hi => by
          obtain ⟨y, hy⟩ := mapM_get hxs i (by simpa using hi)
          exact trod_opens d e fuel _ y hok.2 hy
      · cases h
    · rename_i e hu
      simp only [Bool.and_eq_true] at hok
      have hc := Nat.eq_of_beq_eq_true hok.1.1
      have hpos := hsz e hok.1.2
      have hone : ∀ (v : Value) (c : PV) (nl : Bool), cs = [v] → WF (.vec nl c) → Pe.conf (shOf P (d + 1) t) (.vec nl c) = true → RC w (fun b _ => b < w.heap.size) v (.vec nl c) → ∃ p, Opens P w (fun b _ => b < w.heap.size) (d + 1) t cs p := by
        rintro v c nl rfl h1 h2 h3
        refine ⟨.vec nl c, h2, h1, rfl, rfl, hc.symm, by rw [hc]; rfl, by simp only [isAggT, hu]; rfl, fun j q u hq hu' => ?_⟩
        cases j with
        | zero => simp [flat] at hq hu'; subst hq; subst hu'; exact h3
        | succ j => simp [flat] at hq
      have hshape : ∀ l : List PV, ∀ nl, Pe.conf (shOf P (d + 1) t) (.vec nl (arrOf P d e l)) = true := by
        intro l nl
        obtain ⟨d', rfl⟩ : ∃ d', d = d' + 1 := by cases d with
          | zero => simp [okT] at hok
          | succ d => exact ⟨d, rfl⟩
        have hsh : shOf P (d' + 1 + 1) t = .vec (P.cellsOf e) (shOf P (d' + 1) e) := shOf_slice hu
        rw [hsh]
        by_cases hk : ∃ k, P.underlying e = some (.int k)
        · obtain ⟨k, hk⟩ := hk
          have : arrOf P (d' + 1) e l = .iarr k l.length (l.map PV.num) := by simp only [arrOf, hk]
          rw [this, shOf_int hk]
          simp only [Pe.conf]
          exact same_refl k
        · have : arrOf P (d' + 1) e l = .parr (P.cellsOf e) l.length (shOf P (d' + 1) e) l := by
            unfold arrOf
            split
            · rename_i k hk'; exact absurd ⟨k, hk'⟩ hk
            · rfl
          rw [this]
          have hni : Sh.isInt (shOf P (d' + 1) e) = false := by
            cases he : P.underlying e with
            | none => simp only [shOf, he, Sh.isInt]
            | some dsc => cases dsc with
              | int k => exact absurd ⟨k, he⟩ hk
              | array n e' =>
                simp only [shOf, he]
                split <;> rfl
              | _ => simp only [shOf, he, Sh.isInt]
          cases hs2 : shOf P (d' + 1) e with
          | int k => rw [hs2] at hni; simp [Sh.isInt] at hni
          | _ => simp only [Pe.conf, Bool.and_eq_true, Sh.isInt, Bool.not_false, true_and]; exact ⟨Nat.beq_refl _, beq_refl _⟩
      rcases DataW.trod_slice hu h with ⟨hx, _⟩ | ⟨a, len, cap, elems, rest, n, hf, hx, _, _, h1, h2, h3, h4, _⟩
      · obtain ⟨a1, a2, a3, _⟩ := arrOf_spec (P := P) (d := d) (e := e) (l := []) hok.2 (fun q hq => by cases hq)
        exact hone _ (arrOf P d e []) true hx (by simp only [WF]; exact ⟨a1, a2, fun _ => a3⟩) (hshape [] true) (.vec0 _ _ _ _ a3 rfl (fun _ => rfl))
      · have hfu : n = fuel := by omega
        subst hfu
        have hex : ∀ i, ∃ p, i < len → ∃ cs', w.cells? base (a.add (i * P.cellsOf e)) (P.cellsOf e) = some cs' ∧ Opens P w (fun b _ => b < w.heap.size) d e cs' p := fun i => by
          by_cases hi : i < len
          · have := h4 i hi
            rw [List.getElem?_eq_getElem (by omega), Option.bind_eq_some_iff] at this
            obtain ⟨cs', c1, c2⟩ := this
            obtain ⟨p, hp⟩ := trod_opens d e n cs' _ hok.2 c2
            exact ⟨p, fun _ => ⟨cs', c1, hp⟩⟩
          · exact ⟨.undef, fun h => absurd h hi⟩
        obtain ⟨f, hf⟩ := Classical.axiomOfChoice hex
        have hmem : ∀ q ∈ (List.range len).map f, Pe.conf (shOf P d e) q = true ∧ WF q ∧ Pe.noref q = true ∧ Pe.untup q = true ∧ Pe.size q = P.cellsOf e := by
          intro q hq
          obtain ⟨i, hi, rfl⟩ := List.mem_map.1 hq
          obtain ⟨cs', _, hp⟩ := hf i (by simpa using hi)
          exact ⟨hp.conf, hp.wf, hp.noref, hp.untup, hp.size⟩
        obtain ⟨a1, a2, a3, a4, a5, a6, a7⟩ := arrOf_spec hok.2 hmem
        have hlen : ((List.range len).map f).length = len := by simp
        rw [hlen] at a3
        rcases Nat.eq_zero_or_pos len with h0 | h0
        · subst h0
          exact hone _ (arrOf P d e ((List.range 0).map f)) false hx (by simp only [WF]; exact ⟨a1, a2, fun e => by cases e⟩) (hshape _ false) (.vec0 _ _ _ _ a3 rfl (fun e => by cases e))
        · have hsp : a.spot = none := by
            obtain ⟨cs', c1, hp⟩ := hf 0 h0
            obtain ⟨e1, e2⟩ := cells?_spec c1
            have := e2 0 cs'[0] (List.getElem?_eq_getElem (by omega))
            unfold World.cell? at this
            split at this
            · split at this
              · cases this
              · rename_i hs
                simpa [Addr.add] using hs
            · cases this
          obtain ⟨bk, o, sp⟩ := a
          simp only at hsp
          subst hsp
          have hcell : ∀ j, ∃ u, ∀ q, (flat (arrOf P d e ((List.range len).map f)))[j]? = some q → w.cell? ⟨bk, o + j, none⟩ = some u ∧ RC w (fun b _ => b < w.heap.size) u q := by
            intro j
            cases hj : (flat (arrOf P d e ((List.range len).map f)))[j]? with
            | none => exact ⟨Go.undef, fun q hq => by cases hq⟩
            | some q =>
              rw [a6] at hj
              obtain ⟨p, p1, p2⟩ := flatL_nth hpos (WFL_of fun q hq => (hmem q hq).2.1) (fun q hq => (hmem q hq).2.2.2.2) hj
              have hjn : j / P.cellsOf e < len := by have := (List.getElem?_eq_some_iff.1 p1).1; simpa using this
              have hp : p = f (j / P.cellsOf e) := by simp [hjn] at p1; exact p1.symm
              subst hp
              obtain ⟨cs', c1, hp⟩ := hf _ hjn
              obtain ⟨e1, e2⟩ := cells?_spec c1
              have hm : j % P.cellsOf e < cs'.length := by rw [e1]; exact Nat.mod_lt _ hpos
              refine ⟨cs'[j % P.cellsOf e], fun q' hq' => ?_⟩
              cases hq'
              refine ⟨?_, hp.rel _ q _ p2 (List.getElem?_eq_getElem hm)⟩
              have := e2 _ _ (List.getElem?_eq_getElem hm)
              rw [add_none, add_none] at this
              rw [← this]
              congr 2
              rw [Nat.add_assoc, Nat.mul_comm, Nat.div_add_mod]
          obtain ⟨us, hus⟩ := Classical.axiomOfChoice hcell
          exact hone _ (arrOf P d e ((List.range len).map f)) false hx (by simp only [WF]; exact ⟨a1, a2, fun e => by cases e⟩) (hshape _ false)
            (.vec1 _ _ _ _ _ us a3 h1 h2 (fun j q hq => ⟨lt_of_cell? (hus j q hq).1, (hus j q hq).1⟩) (fun j q hq => (hus j q hq).2))
    · cases hok
end
end Go.Pe
namespace Go.Pe
open Go.ChangeShapes Go.WideShapes Go.ChangeAt Go.RowKit
section
variable {H : Type} {enc : TypeId × Value → H} {P : Program}
theorem post_below {f : Func} {s : ChangeSpec} {apart fresh handsOn again : Bool} {W W' : World} {args : Array Value} {v : Value} {ds gs : List (DataW H)} {before pa pv : List MemPlace}
    (hW : DataW.Whole enc P f.params.toList s.vars apart W args.toList ds gs before)
    (hres : ∀ (b : Nat) (sp : Nat → Bool) (hd : Bool), DataW.TrodAll enc P W' b sp hd f.resultTypes.toList (v.resultList f.resultTypes.size) (s.fn H (ds ++ gs)).results [])
    (hargs : ∀ sp : Nat → Bool, (∀ p ∈ before, sp p.block = true) → DataW.TrodAll enc P W' 0 sp true f.params.toList args.toList (s.fn H (ds ++ gs)).args pa)
    (hvars : ∀ sp : Nat → Bool, (∀ p ∈ before, sp p.block = true) → DataW.TrodVars enc P W' sp s.vars (s.fn H (ds ++ gs)).vars pv)
    (hps : before = pa ++ pv) (hb : Below W.heap.size W W')
    (hok : ∀ (j : Nat) (t : TypeId) (r : Value), f.resultTypes[j]? = some t → (v.resultList f.resultTypes.size)[j]? = some r → Value.okWide P W' .any 0 t r) :
    s.post enc P f apart fresh handsOn again W args v W' := by
  have hlt : ∀ p ∈ before, p.block < W.heap.size := fun p hp => hW.lt p hp
  have hold : ∀ p ∈ before, (fun b => decide (b < W.heap.size)) p.block = true := fun p hp => by simpa using hlt p hp
  refine ⟨ds, gs, before, [], pa, pv, hW, hres _ _ _, hargs _ hold, hvars _ hold, World.keptBut_mono (fun p hp => ⟨hp, ?_⟩) (hb.frame (· ∈ before)), fun _ => ?_⟩
  · rw [hps, List.mem_append] at hp
    exact Or.inr hp
  · obtain ⟨_, _, _, _, _, hz, hn⟩ := hW
    refine ⟨hok, _, _, ([] ++ pa) ++ pv, ⟨[] ++ pa, pv, trodAll_append (hargs _ (fun _ _ => rfl)) (hres _ _ _), hvars _ (fun _ _ => rfl), rfl, ?_, ?_⟩, ?_⟩
    · intro b off hp
      have hin : MemPlace.cell b off ∈ before := by rw [hps]; simpa using hp
      rw [hb.frozen (hlt _ hin)]
      exact hz b off hin
    · intro ha
      have := hn ha
      rw [hps] at this
      simpa using this
    · intro p hp _
      rw [hps]
      simpa using hp
theorem trodAll_stays (hl : laidOutB P = true) {W W' : World} (hb : Below W.heap.size W W') {sp : Nat → Bool} : ∀ {ts : List TypeId} {vs : List Value} {ds : List (DataW H)} {ps : List MemPlace}, (∀ t ∈ ts, P.readableRec t = true ∧ t < P.types.size) →
    DataW.TrodAll enc P W 0 (fun _ => true) true ts vs ds ps → (∀ p ∈ ps, sp p.block = true) → DataW.TrodAll enc P W' 0 sp true ts vs ds ps
  | [], [], [], _, _, h, _ => h
  | t :: ts, v :: vs, d :: ds, ps, ht, h, hs => by
    have hlt := h.lt
    obtain ⟨p, q, h1, h2, rfl⟩ := h
    exact ⟨p, q, WideElems.Trod_stays hl (ht t (by simp)).1 (ht t (by simp)).2 h1 (fun x hx => hb.same (hlt x (by simp [hx]))) (fun x hx => hs x (by simp [hx])),
      trodAll_stays hl hb (fun t ht' => ht t (by simp [ht'])) h2 (fun x hx => hs x (by simp [hx])), rfl⟩
  | [], _ :: _, _, _, _, h, _ => by simp [DataW.TrodAll] at h
  | [], [], _ :: _, _, _, h, _ => by simp [DataW.TrodAll] at h
  | _ :: _, [], _, _, _, h, _ => by simp [DataW.TrodAll] at h
  | _ :: _, _ :: _, [], _, _, h, _ => by simp [DataW.TrodAll] at h
/-- What an input's values stand for. -/
structure Ins (P : Program) (ts : List TypeId) (ps : List PV) : Prop where
  conf : confL (ts.map (shOf P 9)) ps = true
  wf : WFL ps
  untup : untupL ps = true
theorem RV_opens {W : World} {base : Nat} {t : TypeId} {v : Value} {p : PV} (hv : Value.okWide P W .any base t v) (h : Opens P W (fun b _ => b < W.heap.size) 9 t v.cells.toList p) : RV W (fun b _ => b < W.heap.size) (fun _ => none) v p := by
  have hnt : ∀ vs, p ≠ .tup vs := fun vs e => by have := h.untup; subst e; simp [Pe.untup] at this
  cases ha : Pe.isAgg p with
  | true =>
    have hat : isAggT P t = true := by rw [← h.agg]; exact ha
    have : ∃ cs, v = .agg cs := by
      unfold isAggT at hat
      unfold Value.okWide at hv
      split at hat
      · rename_i fs hu
        rw [hu] at hv
        obtain ⟨cs, hc, _⟩ := hv
        exact ⟨cs, hc⟩
      · rename_i n e hu
        rw [hu] at hv
        obtain ⟨cs, hc, _⟩ := hv
        exact ⟨cs, hc⟩
      · cases hat
    obtain ⟨cs, rfl⟩ := this
    refine RV.of_agg ha h.wf ⟨cs, rfl, ?_, fun j q u hq hu => RO.of_closed (h.rel j q u hq ?_)⟩
    · have := h.len
      simp only [Value.cells, Array.length_toList] at this
      rw [this, h.size]
    · simpa [Value.cells] using hu
  | false =>
    have hl : Pe.leaf p = true := by rw [Pe.leaf_agg, ha]; rfl
    have hone : v.cells = #[v] := by
      have hnagg : ∀ cs, v ≠ .agg cs := by
        rintro cs rfl
        have hat : isAggT P t = false := by rw [← h.agg]; exact ha
        unfold Value.okWide at hv
        unfold isAggT at hat
        split at hv
        · rename_i fs hu; rw [hu] at hat; cases hat
        · rename_i n e hu; rw [hu] at hat; cases hat
        · unfold Cell.okWide at hv
          split at hv <;> simp_all [Cell.ok]
      cases v <;> first | rfl | exact absurd rfl (hnagg _)
    refine RV.of_leaf hl hnt h.wf (RO.of_closed (h.rel 0 p v (by rw [flat_leaf hl]; rfl) (by rw [hone]; rfl)))
theorem ins_of {W : World} {base : Nat} : ∀ {ts : List TypeId} {vs : List Value} {ds : List (DataW H)} {ps : List MemPlace}, (∀ t ∈ ts, okT P 9 t = true) → (∀ (j : Nat) t v, ts[j]? = some t → vs[j]? = some v → Value.okWide P W .any base t v) →
    DataW.TrodAll enc P W 0 (fun _ => true) true ts vs ds ps → ∃ qs, Ins P ts qs ∧ qs.length = vs.length ∧ ∀ (j : Nat) (p : PV) (v : Value), qs[j]? = some p → vs[j]? = some v → RV W (fun b _ => b < W.heap.size) (fun _ => none) v p
  | [], [], [], _, _, _, _ => ⟨[], ⟨rfl, by simp [WFL], rfl⟩, rfl, fun j p v hp => by simp at hp⟩
  | t :: ts, v :: vs, d :: ds, ps, ht, hv, h => by
    obtain ⟨p, q, ⟨fuel, h1⟩, h2, rfl⟩ := h
    obtain ⟨x, hx⟩ := trod_opens 9 t fuel _ _ (ht t (by simp)) h1
    obtain ⟨qs, g1, g2, g3⟩ := ins_of (fun t' h' => ht t' (by simp [h'])) (fun j t' v' hj hj' => hv (j + 1) t' v' (by simpa using hj) (by simpa using hj')) h2
    refine ⟨x :: qs, ⟨by simp only [List.map_cons, confL, Bool.and_eq_true]; exact ⟨hx.conf, g1.conf⟩, by simp only [WFL]; exact ⟨hx.wf, g1.wf⟩, by simp only [untupL, Bool.and_eq_true]; exact ⟨hx.untup, g1.untup⟩⟩, by simp [g2], fun j p' v' hp hv' => ?_⟩
    cases j with
    | zero =>
      simp at hp hv'
      subst hp; subst hv'
      exact RV_opens (hv 0 t v rfl rfl) hx
    | succ j => simp at hp hv'; exact g3 j p' v' hp hv'
  | [], _ :: _, _, _, _, _, h => by simp [DataW.TrodAll] at h
  | [], [], _ :: _, _, _, _, h => by simp [DataW.TrodAll] at h
  | _ :: _, [], _, _, _, _, h => by simp [DataW.TrodAll] at h
  | _ :: _, _ :: _, [], _, _, _, h => by simp [DataW.TrodAll] at h
theorem below_of_FR {w w' : World} {M : T2} (hM : ∀ b o, ¬ M b o) (h : FR M w w') : Below w.heap.size w w' := by
  refine ⟨h.os, h.tape, h.output, h.size, fun k hk => ?_⟩
  rcases h.block k hk with e | ⟨cs, cs', t, fz, e1, e2, e3, e4⟩
  · exact e.symm
  · rw [e1, e2]
    have : cs' = cs := by
      apply Array.ext_getElem?
      intro i
      exact e4 i (hM k i)
    rw [this]
/-- THE LAW's STEP: whatever the values are, the law's function returns true. -/
theorem law_calls {f : FuncId} {fn : Func} {s : ChangeSpec} {apart fresh handsOn again : Bool} {tb : TypeId} (hl : laidOutB P = true) (hvars : s.vars = []) (hr : fn.resultTypes = #[tb]) (hb : P.underlying tb = some .bool)
    (hbody : hasBody P f) (hspec : ∀ ds : List (DataW H), ds.length = fn.params.toList.length → s.fn H ds = { results := [.lit (.bool true)], args := ds })
    (ht : fn.params.toList.all (fun t => okT P 9 t && P.readableRec t && Nat.blt t P.types.size) = true)
    (hpc : ∀ ps, Ins P fn.params.toList ps → PC P (fun _ => none) f [] ps [] (.bool true))
    {W : World} {base : Nat} {args : Array Value} {ds gs : List (DataW H)} {before : List MemPlace}
    (hval : ∀ (j : Nat) t v, fn.params[j]? = some t → args[j]? = some v → Value.okWide P W .any base t v)
    (hW : DataW.Whole enc P fn.params.toList s.vars apart W args.toList ds gs before) :
    Calls P f args W fun e W' => ∃ v, e = .returned v ∧ s.post enc P fn apart fresh handsOn again W args v W' := by
  have ht' : ∀ t ∈ fn.params.toList, okT P 9 t = true ∧ P.readableRec t = true ∧ t < P.types.size := by
    intro t h
    have := List.all_eq_true.1 ht t h
    simp only [Bool.and_eq_true] at this
    exact ⟨this.1.1, this.1.2, Nat.blt_eq ▸ this.2⟩
  have hW' := hW
  obtain ⟨p, q, hA, hV, rfl, hz, hn⟩ := hW
  rw [hvars] at hV
  obtain ⟨rfl, rfl⟩ := trodVars_none hV
  obtain ⟨l1, l2⟩ := trodAll_length hA
  obtain ⟨qs, g1, g2, g3⟩ := ins_of (base := base) (fun t h => (ht' t h).1) (fun j t v h1 h2 => hval j t v (by rw [← Array.getElem?_toList]; exact h1) (by rw [← Array.getElem?_toList]; exact h2)) hA
  have hM : ∀ b o, ¬ Mut (fun _ => none) (lookR ([] : List (Nat × Row))) b o := by
    rintro b o ⟨i, r, pl, h1, _⟩
    simp [lookR] at h1
  have hc := hpc qs g1
  refine Calls.mono (Enters.calls hbody (hc (fun b _ => b < W.heap.size) (fun _ => none) W args (fun b o _ => hM b o) ⟨fun i r hi => by simp [lookR] at hi, fun i i' r r' pl pl' _ h1 => by simp [lookR] at h1⟩ (fun _ _ => rfl) (fun g c hg => by cases hg)
    (by rw [g2]; simp) (fun j p v hp hv _ => g3 j p v hp (by rw [Array.getElem?_toList]; exact hv)))) fun e W' he => ?_
  obtain ⟨v, ρ', rfl, r1, _, _, r4, _⟩ := he
  have hvb : v = .bool true := by
    have := r1.to_leaf rfl (fun _ e => by cases e)
    simp only [RO] at this
    cases this
    rfl
  subst hvb
  have hbel := below_of_FR hM r4
  have hsp := hspec ds l2
  refine ⟨_, rfl, post_below (pa := p) (pv := []) hW' ?_ ?_ ?_ (by simp) hbel ?_⟩
  · intro b sp hd
    rw [List.append_nil, hsp, hr]
    exact trodAll_mk1 (shut_bool hb true)
  · intro sp hs
    rw [List.append_nil, hsp]
    exact trodAll_stays hl hbel (fun t h => (ht' t h).2) hA (fun x hx => hs x (by simp [hx]))
  · intro sp hs
    rw [List.append_nil, hsp, hvars]
    rfl
  · rw [hr]
    exact ok_one (f := { fn with resultTypes := #[tb] }) rfl rfl (okWide_bool_mk hb true)
end
end Go.Pe
