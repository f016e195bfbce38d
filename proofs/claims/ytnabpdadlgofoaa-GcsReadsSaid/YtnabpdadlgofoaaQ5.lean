/- Merged texts: the pure machine and what the walks show. Conditions: as each statement says. -/
import Derived.Carry
import Derived.ChangeArms
import Derived.ChangeSame
import Derived.ChangeCalls
import Derived.JoinedOf
import Derived.Handed
import Derived.OpenShut
import Derived.RowKit
import Derived.ProofKit
import Derived.Test.YtnabpdadlgofoaaQ4
set_option linter.unusedSimpArgs false
set_option linter.unusedVariables false
namespace Go.Proofs
open Go Go.Pe Go.Pm
set_option maxRecDepth 100000
set_option linter.unusedVariables false
attribute [local irreducible] lv
def bwR (id k n : Nat) : Row := ⟨.st 2 [.ref id [] 1 0 k, .int .i64 n], false⟩
def bwE : Row := ⟨.st 2 [.vec true (.iarr .u8 0 []), .int .i64 0], false⟩
def bwB (k : Nat) (l : List Int) : Row := ⟨.iarr .u8 k l, false⟩
def bwS (n x : Nat) (l : List Int) : List Int := l.set (n / 8) (((at0 l (n / 8) ||| x % 2 * 2 ^ (7 - n % 8) % 256 : Nat) : Nat) : Int)
theorem SV : Pt 47 [] [] [(0, bwE)] (.at 0 []) := by
 refine pO Try.func47 (by kernel_rfl) ?_
 refine W.rtA [] [(96, 0)] [] trivial
theorem pc_oneC {n k x : Nat} {l : Liz} (hb : Bytes l) (hl : l.length = k) (hn : n ≤ 10000000) (h8 : n % 8 ≠ 0) (hk : n / 8 < k) (hx : x < 18446744073709551616) :
  Pt 88 [(0, bwR 1 k n), (1, bwB k l)] [.at 0 [], .int .u64 x] [(0, bwR 1 k (n + 1)), (1, bwB k (bwS n x l))] (.tup []) := by
 refine pO Try.func88 (by kernel_rfl) ?_
 obtain ⟨e, h1⟩ := hb.get (n / 8)
 have he : (7 : Int) - ((n % 8 : Nat) : Int) = ((7 - n % 8 : Nat) : Int) := by omega
 have h2 : x % 2 * 2 ^ (7 - n % 8) % 256 < 256 := Nat.mod_lt _ (by decide)
 have h7 : n % 8 < 8 := Nat.mod_lt _ (by decide)
 have h3 : at0 l (n / 8) ||| x % 2 * 2 ^ (7 - n % 8) % 256 < 256 := Nat.or_lt_two_pow (n := 8) h1 h2
 unfold bwS
 generalize 7 - n % 8 = j at *
 generalize at0 l (n / 8) = b at *
 refine W.rtA [(4, aV (I6 ↑(n % 8))), (5, aF), (14, aV (I6 ↑(n / 8))), (15, aV (PV.at 1 [Stp.idx (n / 8) 1])), (16, aV (U8 b)), (18, aV (U6 ↑(x % 2))), (19, aV (U8 ↑(x % 2))), (24, aV (I6 ↑(n % 8))), (25, aV (I6 j)), (26, aV (U8 ↑(x % 2 * 2 ^ j % 256))), (27, aV (U8 ↑(b ||| x % 2 * 2 ^ j % 256))), (28, aV (PV.at 1 [Stp.idx (n / 8) 1])), (34, aV (I6 ↑(n + 1)))] [(0, 0), (1, 1)] [I6 (Int.tmod (n:Int) (8 : Int)) = I6 ↑(n % 8), (8 : Int) ≠ 0, ((↑(n % 8) : Int) == 0) = false, I6 (IntKind.wrap .i64 (Int.tdiv (n:Int) (8 : Int))) = I6 ↑(n / 8), (8 : Int) ≠ 0, PV.at 1 [Stp.idx (0 + Int.toNat (↑(n / 8) : Int)) 1] = PV.at 1 [Stp.idx (n / 8) 1], 0 ≤ (↑(n / 8) : Int), (↑(n / 8) : Int) < (k:Int), U8 (List.getD l (n / 8) (0 : Int)) = U8 b, n / 8 < k, U6 (bits BinOp.and .u64 (x:Int) (1 : Int)) = U6 ↑(x % 2), U8 (IntKind.wrap .u8 (↑(x % 2) : Int)) = U8 ↑(x % 2), I6 (Int.tmod (n:Int) (8 : Int)) = I6 ↑(n % 8), (8 : Int) ≠ 0, I6 (IntKind.wrap .i64 (7 - (↑(n % 8) : Int))) = I6 j, U8 (IntKind.wrap .u8 ((↑(x % 2) : Int) * (2 : Int) ^ min j 8)) = U8 ↑(x % 2 * 2 ^ j % 256), 0 ≤ (j:Int), U8 (bits BinOp.or .u8 (b:Int) (↑(x % 2 * 2 ^ j % 256) : Int)) = U8 ↑(b ||| x % 2 * 2 ^ j % 256), PV.at 1 [Stp.idx (0 + Int.toNat (↑(n / 8) : Int)) 1] = PV.at 1 [Stp.idx (n / 8) 1], 0 ≤ (↑(n / 8) : Int), (↑(n / 8) : Int) < (k:Int), n / 8 < k, I6 (IntKind.wrap .i64 ((n:Int) + 1)) = I6 ↑(n + 1)] (ac (cg rfl) (ac (by omega) (ac (dF (by omega)) (ac (wj (by omega)) (ac (by omega) (ac (by (rw [show Int.toNat (↑(n / 8) : Int) = n / 8 by omega]; simp only [Nat.zero_add])) (ob2 (by omega) (ac (cg (e)) (ac (by omega) (ac (cg (DN 1 rfl rfl (by omega) (by decide))) (ac (cg (MJ rfl (by omega) (by omega))) (ac (cg rfl) (ac (by omega) (ac (cg (Ab he (by omega) (by omega))) (ac (cg (shl_u8 (y := ((j : Nat) : Int)) rfl rfl)) (ac (by omega) (ac (cg (OD rfl rfl (by omega) (by omega))) (ac (by (rw [show Int.toNat (↑(n / 8) : Int) = n / 8 by omega]; simp only [Nat.zero_add])) (ob3 (by omega) (ao (wj (by omega))))))))))))))))))))))
theorem pc_oneA {x : Nat} (hx : x < 18446744073709551616) :
  Pt 88 [(0, bwE)] [.at 0 [], .int .u64 x] [(0, bwR 1 1 1), (1, bwB 1 [((x % 2 * 128 : Nat) : Int)])] (.tup []) := by
 refine pO Try.func88 (by kernel_rfl) ?_
 have h0 : bits .or .u8 0 (((x % 2 : Nat) : Int) * 2 ^ 7) = ((x % 2 * 128 : Nat) : Int) := by
  have := OD (x := 0) (y := ((x % 2 : Nat) : Int) * 2 ^ 7) (a := 0) (b := x % 2 * 128) rfl (by omega) (by omega) (by omega)
  rw [Nat.zero_or] at this
  exact this
 refine W.rtA [(4, aV (I6 ↑(0 % 8))), (24, aV (I6 ↑(0 / 8 : Nat))), (28, aV (U6 ↑(x % 2))), (29, aV (U8 ↑(x % 2))), (34, aV (I6 ↑(0 % 8))), (35, aV (I6 7)), (36, aV (U8 ((↑(x % 2) : Int) * (2 : Int) ^ 7))), (37, aV (U8 ↑(x % 2 * 128))), (44, aV (I6 1))] [(0, 0), (256, 1)] [I6 (Int.tmod (0 : Int) (8 : Int)) = I6 ↑(0 : Nat), (8 : Int) ≠ 0, 1 ≤ 1, 0 < 1, 1 ≤ 140737488355328, 1 ≤ 9223372036854775807, I6 (IntKind.wrap .i64 (Int.tdiv (0 : Int) (8 : Int))) = I6 ↑(0 : Nat), (8 : Int) ≠ 0, 0 ≤ (↑(0 : Nat) : Int), (↑(0 : Nat) : Int) < (↑(1 : Nat) : Int), 0 < 1, U6 (bits BinOp.and .u64 (x:Int) (1 : Int)) = U6 ↑(x % 2), U8 (IntKind.wrap .u8 (↑(x % 2) : Int)) = U8 ↑(x % 2), I6 (Int.tmod (0 : Int) (8 : Int)) = I6 ↑(0 : Nat), (8 : Int) ≠ 0, I6 (IntKind.wrap .i64 (7 - (↑(0 : Nat) : Int))) = I6 7, U8 (IntKind.wrap .u8 ((↑(x % 2) : Int) * (2 : Int) ^ 7)) = U8 ((↑(x % 2) : Int) * (2 : Int) ^ 7), (0 : Int) ≤ 7, U8 (bits BinOp.or .u8 (0 : Int) ((↑(x % 2) : Int) * (2 : Int) ^ 7)) = U8 ↑(x % 2 * 128), 0 ≤ (↑(0 : Nat) : Int), (↑(0 : Nat) : Int) < (↑(1 : Nat) : Int), 0 < 1, I6 (IntKind.wrap .i64 ((0 : Int) + (1 : Int))) = I6 1] (ac rfl (ob4 (by omega) (ac (by omega) (ac rfl (ob4 (by omega) (ac (cg (DN 1 rfl rfl (by omega) (by decide))) (ac (cg (MJ rfl (by omega) (by omega))) (ac rfl (ac (by omega) (ac (wj (by omega)) (ac (cg (MJ rfl (by omega) (by omega))) (ac (by omega) (ac (cg (h0)) (ob3 (by omega) (ao (wj (by omega)))))))))))))))))
theorem pc_oneB {n k x : Nat} {l : Liz} (hb : Bytes l) (hl : l.length = k) (hn : k ≤ 1000000) (h8 : n = 8 * k) (hk : 0 < k) (hx : x < 18446744073709551616) :
  Pt 88 [(0, bwR 1 k n), (1, bwB k l)] [.at 0 [], .int .u64 x] [(0, bwR 2 (k + 1) (n + 1)), (2, bwB (k + 1) (l ++ [((x % 2 * 128 : Nat) : Int)]))] (.tup []) := by
 refine pO Try.func88 (by kernel_rfl) ?_
 have h0 : bits .or .u8 0 (((x % 2 : Nat) : Int) * 2 ^ 7) = ((x % 2 * 128 : Nat) : Int) := by
  have := OD (x := 0) (y := ((x % 2 : Nat) : Int) * 2 ^ 7) (a := 0) (b := x % 2 * 128) rfl (by omega) (by omega) (by omega)
  rw [Nat.zero_or] at this
  exact this
 have e1 : ((n % 8 : Nat) : Int) = 0 := by omega
 have e2 : ((n / 8 : Nat) : Int) = (k : Int) := by omega
 have e3 : (l ++ [(0 : Int)]).getD k 0 = 0 := by simp [List.getD_eq_getElem?_getD, ← hl]
 have e4 : (l ++ [(0 : Int)]).set k ((x % 2 * 128 : Nat) : Int) = l ++ [((x % 2 * 128 : Nat) : Int)] := by rw [← hl]; simp
 refine W.ret [(4, aV (I6 0)), (12, Ans.ups [(1, none), (256, some (Row.mk (B8 (k + 1) (l ++ [0])) false))]), (24, aV (I6 k)), (25, aV (PV.at 256 [Stp.idx k 1])), (26, aV (U8 0)), (28, aV (U6 ↑(x % 2))), (29, aV (U8 ↑(x % 2))), (34, aV (I6 0)), (35, aV (I6 7)), (36, aV (U8 ((↑(x % 2) : Int) * (2 : Int) ^ 7))), (37, aV (U8 ↑(x % 2 * 128))), (38, aV (PV.at 256 [Stp.idx k 1])), (44, aV (I6 ↑(n + 1)))] [(0, 0), (1, 1), (256, 2)] [I6 (Int.tmod (n:Int) (8 : Int)) = I6 0, (8 : Int) ≠ 0, ([(1, none), (256, some (Row.mk (B8 (k + 1) (List.take k l ++ [0])) false))] : List (Nat × Option Row)) = [(1, none), (256, some (Row.mk (B8 (k + 1) (l ++ [0])) false))], 1 ≤ 1, 0 + k = k, (k + 1) * 1 ≤ 140737488355328, k + 1 ≤ 9223372036854775807, I6 (IntKind.wrap .i64 (Int.tdiv (n:Int) (8 : Int))) = I6 k, (8 : Int) ≠ 0, PV.at 256 [Stp.idx (0 + k) 1] = PV.at 256 [Stp.idx k 1], 0 ≤ (k:Int), (k:Int) < (↑(k + 1) : Int), U8 (List.getD (l ++ [0]) k (0 : Int)) = U8 0, k < k + 1, U6 (bits BinOp.and .u64 (x:Int) (1 : Int)) = U6 ↑(x % 2), U8 (IntKind.wrap .u8 (↑(x % 2) : Int)) = U8 ↑(x % 2), I6 (Int.tmod (n:Int) (8 : Int)) = I6 0, (8 : Int) ≠ 0, I6 (IntKind.wrap .i64 ((7 : Int) - (0 : Int))) = I6 7, U8 (IntKind.wrap .u8 ((↑(x % 2) : Int) * (2 : Int) ^ 7)) = U8 ((↑(x % 2) : Int) * (2 : Int) ^ 7), (0 : Int) ≤ 7, U8 (bits BinOp.or .u8 (0 : Int) ((↑(x % 2) : Int) * (2 : Int) ^ 7)) = U8 ↑(x % 2 * 128), PV.at 256 [Stp.idx (0 + k) 1] = PV.at 256 [Stp.idx k 1], 0 ≤ (k:Int), (k:Int) < (↑(k + 1) : Int), k < k + 1, I6 (IntKind.wrap .i64 ((n:Int) + 1)) = I6 ↑(n + 1), rr (PV.st 2 [PV.ref 2 [] 1 0 (k + 1), I6 ↑(n + 1)]), B8 (k + 1) (List.set (l ++ [0]) k (↑(x % 2 * 128) : Int)) = B8 (k + 1) (l ++ [(↑(x % 2 * 128) : Int)]), rr (PV.tup [])] (by kernel_rfl) (ac (cg (e1)) (ac (by omega) (ac (by rw [List.take_of_length_le (show List.length l ≤ k by omega)]) (ac (by omega) (ac (by omega) (ob2 (by omega) (ac (cg (Ab e2 (by omega) (by omega))) (ac (by omega) (ac (by simp only [Nat.zero_add]) (ob2 (by omega) (ac (cg (e3)) (ac (by omega) (ac (cg (DN 1 rfl rfl (by omega) (by decide))) (ac (cg (MJ rfl (by omega) (by omega))) (ac (cg (e1)) (ac (by omega) (ac (wj (by omega)) (ac (cg (MJ rfl (by omega) (by omega))) (ac (by omega) (ac (cg (h0)) (ac (by simp only [Nat.zero_add]) (ob3 (by omega) (ac (wj (by omega)) (ac rfl (ac (by (simp [*]; done)) (ao rfl))))))))))))))))))))))))))
 all_goals rw [e4]
end Go.Proofs
namespace Go.Proofs
open Go Go.Pe Go.Pm
set_option maxRecDepth 100000
set_option linter.unusedVariables false
attribute [local irreducible] lv
theorem SK {q i : Nat} {n k n2 k2 : Nat} {l l2 : Liz} {hout : Lrz} (hi : i < q) (hq : q ≤ 65536) (hn : n ≤ 10000000) (hn2 : n2 ≤ 10000000) (c1 : Pt 88 [(0, bwE)] [.at 0 [], .int .u64 1] [(0, bwR 1 k2 n2), (1, bwB k2 l2)] (.tup [])) (hw : Wt Try.f76 [0] hout (.tup []) (Aa Try.f76 0) (⟨[(0, .at 0 []), (6, .int .i64 q), (7, .int .i64 ((i + 1 : Nat) : Int))], [(0, bwR 1 k2 n2), (1, bwB k2 l2)]⟩ : DS)) : Wt Try.f76 [0] hout (.tup []) (Aa Try.f76 0) (⟨[(0, .at 0 []), (6, .int .i64 q), (7, .int .i64 (i : Int))], [(0, bwE)]⟩ : DS) := by
 refine W.sgA 0 [(0, aT), (2, cC true [(0, 0)] c1), (3, aV (I6 ↑(i + 1)))] [(0, 0), (97, 1)] (⟨[(0, .at 0 []), (6, .int .i64 q), (7, .int .i64 ((i + 1 : Nat) : Int))], [(0, bwR 1 k2 n2), (1, bwB k2 l2)]⟩ : DS) [decide ((i:Int) < (q:Int)) = true, _, I6 (IntKind.wrap .i64 ((i:Int) + 1)) = I6 ↑(i + 1)] (ac (dT (by omega)) (ac (c1) (ao (wj (by omega))))) ?_
 exact hw
theorem Sd {q i : Nat} {n k n2 k2 : Nat} {l l2 : Liz} {hout : Lrz} (hi : i < q) (hq : q ≤ 65536) (hn : n ≤ 10000000) (hn2 : n2 ≤ 10000000) (c1 : Pt 88 [(0, bwR 1 k n), (1, bwB k l)] [.at 0 [], .int .u64 1] [(0, bwR 1 k2 n2), (1, bwB k2 l2)] (.tup [])) (hw : Wt Try.f76 [0] hout (.tup []) (Aa Try.f76 0) (⟨[(0, .at 0 []), (6, .int .i64 q), (7, .int .i64 ((i + 1 : Nat) : Int))], [(0, bwR 1 k2 n2), (1, bwB k2 l2)]⟩ : DS)) : Wt Try.f76 [0] hout (.tup []) (Aa Try.f76 0) (⟨[(0, .at 0 []), (6, .int .i64 q), (7, .int .i64 (i : Int))], [(0, bwR 1 k n), (1, bwB k l)]⟩ : DS) := by
 refine W.sgA 0 [(0, aT), (2, cC true [(0, 0), (1, 1)] c1), (3, aV (I6 ↑(i + 1)))] [(0, 0), (1, 1)] (⟨[(0, .at 0 []), (6, .int .i64 q), (7, .int .i64 ((i + 1 : Nat) : Int))], [(0, bwR 1 k2 n2), (1, bwB k2 l2)]⟩ : DS) [decide ((i:Int) < (q:Int)) = true, _, I6 (IntKind.wrap .i64 ((i:Int) + 1)) = I6 ↑(i + 1)] (ac (dT (by omega)) (ac (c1) (ao (wj (by omega))))) ?_
 exact hw
theorem Ti {q i : Nat} {n k n2 k2 : Nat} {l l2 : Liz} {hout : Lrz} (hi : i < q) (hq : q ≤ 65536) (hn : n ≤ 10000000) (hn2 : n2 ≤ 10000000) (c1 : Pt 88 [(0, bwR 1 k n), (1, bwB k l)] [.at 0 [], .int .u64 1] [(0, bwR 2 k2 n2), (2, bwB k2 l2)] (.tup [])) (hw : Wt Try.f76 [0] hout (.tup []) (Aa Try.f76 0) (⟨[(0, .at 0 []), (6, .int .i64 q), (7, .int .i64 ((i + 1 : Nat) : Int))], [(0, bwR 1 k2 n2), (1, bwB k2 l2)]⟩ : DS)) : Wt Try.f76 [0] hout (.tup []) (Aa Try.f76 0) (⟨[(0, .at 0 []), (6, .int .i64 q), (7, .int .i64 (i : Int))], [(0, bwR 1 k n), (1, bwB k l)]⟩ : DS) := by
 refine W.sgA 0 [(0, aT), (2, cC true [(0, 0), (1, 1)] c1), (3, aV (I6 ↑(i + 1)))] [(0, 0), (98, 1)] (⟨[(0, .at 0 []), (6, .int .i64 q), (7, .int .i64 ((i + 1 : Nat) : Int))], [(0, bwR 1 k2 n2), (1, bwB k2 l2)]⟩ : DS) [decide ((i:Int) < (q:Int)) = true, _, I6 (IntKind.wrap .i64 ((i:Int) + 1)) = I6 ↑(i + 1)] (ac (dT (by omega)) (ac (c1) (ao (wj (by omega))))) ?_
 exact hw
theorem Nh {q i : Nat} {n k n2 k2 : Nat} {l l2 : Liz} {hout : Lrz} (hi : i < q) (hq : q ≤ 65536) (hn : n ≤ 10000000) (hn2 : n2 ≤ 10000000) (c1 : Pt 88 [(0, bwR 1 k n), (1, bwB k l)] [.at 0 [], .int .u64 1] [(0, bwR 1 k2 n2), (1, bwB k2 l2)] (.tup [])) (hw : Wt Try.f76 [0, 1] hout (.tup []) (Aa Try.f76 0) (⟨[(0, .at 0 []), (6, .int .i64 q), (7, .int .i64 ((i + 1 : Nat) : Int))], [(0, bwR 1 k2 n2), (1, bwB k2 l2)]⟩ : DS)) : Wt Try.f76 [0, 1] hout (.tup []) (Aa Try.f76 0) (⟨[(0, .at 0 []), (6, .int .i64 q), (7, .int .i64 (i : Int))], [(0, bwR 1 k n), (1, bwB k l)]⟩ : DS) := by
 refine W.sgA 0 [(0, aT), (2, cC true [(0, 0), (1, 1)] c1), (3, aV (I6 ↑(i + 1)))] [(0, 0), (1, 1)] (⟨[(0, .at 0 []), (6, .int .i64 q), (7, .int .i64 ((i + 1 : Nat) : Int))], [(0, bwR 1 k2 n2), (1, bwB k2 l2)]⟩ : DS) [decide ((i:Int) < (q:Int)) = true, _, I6 (IntKind.wrap .i64 ((i:Int) + 1)) = I6 ↑(i + 1)] (ac (dT (by omega)) (ac (c1) (ao (wj (by omega))))) ?_
 exact hw
theorem RF {q i : Nat} {n k n2 k2 : Nat} {l l2 : Liz} {hout : Lrz} (hi : i < q) (hq : q ≤ 65536) (hn : n ≤ 10000000) (hn2 : n2 ≤ 10000000) (c1 : Pt 88 [(0, bwR 1 k n), (1, bwB k l)] [.at 0 [], .int .u64 1] [(0, bwR 2 k2 n2), (2, bwB k2 l2)] (.tup [])) (hw : Wt Try.f76 [0, 1] hout (.tup []) (Aa Try.f76 0) (⟨[(0, .at 0 []), (6, .int .i64 q), (7, .int .i64 ((i + 1 : Nat) : Int))], [(0, bwR 2 k2 n2), (2, bwB k2 l2)]⟩ : DS)) : Wt Try.f76 [0, 1] hout (.tup []) (Aa Try.f76 0) (⟨[(0, .at 0 []), (6, .int .i64 q), (7, .int .i64 (i : Int))], [(0, bwR 1 k n), (1, bwB k l)]⟩ : DS) := by
 refine W.sgA 0 [(0, aT), (2, cC true [(0, 0), (1, 1)] c1), (3, aV (I6 ↑(i + 1)))] [(0, 0), (1, 1), (98, 2)] (⟨[(0, .at 0 []), (6, .int .i64 q), (7, .int .i64 ((i + 1 : Nat) : Int))], [(0, bwR 2 k2 n2), (2, bwB k2 l2)]⟩ : DS) [decide ((i:Int) < (q:Int)) = true, _, I6 (IntKind.wrap .i64 ((i:Int) + 1)) = I6 ↑(i + 1)] (ac (dT (by omega)) (ac (c1) (ao (wj (by omega))))) ?_
 exact hw
theorem R4 {q i : Nat} {n k n2 k2 : Nat} {l l2 : Liz} {hout : Lrz} (hi : i < q) (hq : q ≤ 65536) (hn : n ≤ 10000000) (hn2 : n2 ≤ 10000000) (c1 : Pt 88 [(0, bwR 1 k n), (1, bwB k l)] [.at 0 [], .int .u64 1] [(0, bwR 1 k2 n2), (1, bwB k2 l2)] (.tup [])) (hw : Wt Try.f76 [0, 1] hout (.tup []) (Aa Try.f76 0) (⟨[(0, .at 0 []), (6, .int .i64 q), (7, .int .i64 ((i + 1 : Nat) : Int))], [(0, bwR 2 k2 n2), (2, bwB k2 l2)]⟩ : DS)) : Wt Try.f76 [0, 1] hout (.tup []) (Aa Try.f76 0) (⟨[(0, .at 0 []), (6, .int .i64 q), (7, .int .i64 (i : Int))], [(0, bwR 2 k n), (2, bwB k l)]⟩ : DS) := by
 refine W.sgA 0 [(0, aT), (2, cC true [(0, 0), (2, 1)] c1), (3, aV (I6 ↑(i + 1)))] [(0, 0), (1, 1), (2, 2)] (⟨[(0, .at 0 []), (6, .int .i64 q), (7, .int .i64 ((i + 1 : Nat) : Int))], [(0, bwR 2 k2 n2), (2, bwB k2 l2)]⟩ : DS) [decide ((i:Int) < (q:Int)) = true, _, I6 (IntKind.wrap .i64 ((i:Int) + 1)) = I6 ↑(i + 1)] (ac (dT (by omega)) (ac (c1) (ao (wj (by omega))))) ?_
 exact hw
theorem TA {q i : Nat} {n k n2 k2 : Nat} {l l2 : Liz} {hout : Lrz} (hi : i < q) (hq : q ≤ 65536) (hn : n ≤ 10000000) (hn2 : n2 ≤ 10000000) (c1 : Pt 88 [(0, bwR 1 k n), (1, bwB k l)] [.at 0 [], .int .u64 1] [(0, bwR 2 k2 n2), (2, bwB k2 l2)] (.tup [])) (hw : Wt Try.f76 [0, 1] hout (.tup []) (Aa Try.f76 0) (⟨[(0, .at 0 []), (6, .int .i64 q), (7, .int .i64 ((i + 1 : Nat) : Int))], [(0, bwR 2 k2 n2), (2, bwB k2 l2)]⟩ : DS)) : Wt Try.f76 [0, 1] hout (.tup []) (Aa Try.f76 0) (⟨[(0, .at 0 []), (6, .int .i64 q), (7, .int .i64 (i : Int))], [(0, bwR 2 k n), (2, bwB k l)]⟩ : DS) := by
 refine W.sgA 0 [(0, aT), (2, cC true [(0, 0), (2, 1)] c1), (3, aV (I6 ↑(i + 1)))] [(0, 0), (1, 1), (98, 2)] (⟨[(0, .at 0 []), (6, .int .i64 q), (7, .int .i64 ((i + 1 : Nat) : Int))], [(0, bwR 2 k2 n2), (2, bwB k2 l2)]⟩ : DS) [decide ((i:Int) < (q:Int)) = true, _, I6 (IntKind.wrap .i64 ((i:Int) + 1)) = I6 ↑(i + 1)] (ac (dT (by omega)) (ac (c1) (ao (wj (by omega))))) ?_
 exact hw
theorem W_bwOXE {q : Nat} {n k : Nat} {l : Liz} : Wt Try.f76 [0] [(0, bwE)] (.tup []) (Aa Try.f76 0) (⟨[(0, .at 0 []), (6, .int .i64 q), (7, .int .i64 (q : Int))], [(0, bwE)]⟩ : DS) := by
 refine W.rtA [(0, aF)] [(0, 0)] [decide ((q:Int) < (q:Int)) = false] (ao (dF (by omega)))
theorem W_bwOX0 {q : Nat} {n k : Nat} {l : Liz} : Wt Try.f76 [0] [(0, bwR 1 k n), (1, bwB k l)] (.tup []) (Aa Try.f76 0) (⟨[(0, .at 0 []), (6, .int .i64 q), (7, .int .i64 (q : Int))], [(0, bwR 1 k n), (1, bwB k l)]⟩ : DS) := by
 refine W.rtA [(0, aF)] [(0, 0), (1, 1)] [decide ((q:Int) < (q:Int)) = false] (ao (dF (by omega)))
theorem W_bwOX1 {q : Nat} {n k : Nat} {l : Liz} : Wt Try.f76 [0, 1] [(0, bwR 1 k n), (1, bwB k l)] (.tup []) (Aa Try.f76 0) (⟨[(0, .at 0 []), (6, .int .i64 q), (7, .int .i64 (q : Int))], [(0, bwR 1 k n), (1, bwB k l)]⟩ : DS) := by
 refine W.rtA [(0, aF)] [(0, 0), (1, 1)] [decide ((q:Int) < (q:Int)) = false] (ao (dF (by omega)))
theorem W_bwOX2 {q : Nat} {n k : Nat} {l : Liz} : Wt Try.f76 [0, 1] [(0, bwR 2 k n), (2, bwB k l)] (.tup []) (Aa Try.f76 0) (⟨[(0, .at 0 []), (6, .int .i64 q), (7, .int .i64 (q : Int))], [(0, bwR 2 k n), (2, bwB k l)]⟩ : DS) := by
 refine W.rtA [(0, aF)] [(0, 0), (1, 1), (2, 2)] [decide ((q:Int) < (q:Int)) = false] (ao (dF (by omega)))
theorem K9 {q n k : Nat} {l : Liz} {hout : Lrz} (hq : q ≤ 65536) (hw : Wt Try.f76 [0] hout (.tup []) (Aa Try.f76 0) (⟨[(0, .at 0 []), (6, .int .i64 q), (7, .int .i64 0)], [(0, bwE)]⟩ : DS)) : Pt 76 [(0, bwE)] [.at 0 [], .int .i64 q] hout (.tup []) := by
 refine pO Try.func76 (by kernel_rfl) ?_
 have hx : mx (q : Int) 0 = (q : Int) := by unfold mx; split <;> omega
 have hy : mn (q : Int) 65536 = (q : Int) := by unfold mn; split <;> omega
 refine W.sgA 0 [(1, aV (I6 q)), (2, aV (I6 q))] [(0, 0)] (⟨[(0, .at 0 []), (6, .int .i64 q), (7, .int .i64 0)], [(0, bwE)]⟩ : DS) [I6 (mx (q:Int) (0 : Int)) = I6 q, I6 (mn (q:Int) (65536 : Int)) = I6 q] (ac (cg (hx)) (ao (cg (hy)))) ?_
 exact hw
theorem LG {q n k : Nat} {l : Liz} {hout : Lrz} (hq : q ≤ 65536) (hw : Wt Try.f76 [0, 1] hout (.tup []) (Aa Try.f76 0) (⟨[(0, .at 0 []), (6, .int .i64 q), (7, .int .i64 0)], [(0, bwR 1 k n), (1, bwB k l)]⟩ : DS)) : Pt 76 [(0, bwR 1 k n), (1, bwB k l)] [.at 0 [], .int .i64 q] hout (.tup []) := by
 refine pO Try.func76 (by kernel_rfl) ?_
 have hx : mx (q : Int) 0 = (q : Int) := by unfold mx; split <;> omega
 have hy : mn (q : Int) 65536 = (q : Int) := by unfold mn; split <;> omega
 refine W.sgA 0 [(1, aV (I6 q)), (2, aV (I6 q))] [(0, 0), (1, 1)] (⟨[(0, .at 0 []), (6, .int .i64 q), (7, .int .i64 0)], [(0, bwR 1 k n), (1, bwB k l)]⟩ : DS) [I6 (mx (q:Int) (0 : Int)) = I6 q, I6 (mn (q:Int) (65536 : Int)) = I6 q] (ac (cg (hx)) (ao (cg (hy)))) ?_
 exact hw
theorem R8 {v i : Nat} {n k n2 k2 : Nat} {l l2 : Liz} {hout : Lrz} (hi : i < 64) (hv : v < 18446744073709551616) (hn : n ≤ 10000000) (hn2 : n2 ≤ 10000000) (c1 : Pt 88 [(0, bwE)] [.at 0 [], .int .u64 ((v / 2 ^ i : Nat) : Int)] [(0, bwR 1 k2 n2), (1, bwB k2 l2)] (.tup [])) (hw : Wt Try.f77 [0] hout (.tup []) (Aa Try.f77 0) (⟨[(0, .at 0 []), (1, .int .u64 v), (6, .int .i64 ((i : Int) - 1))], [(0, bwR 1 k2 n2), (1, bwB k2 l2)]⟩ : DS)) : Wt Try.f77 [0] hout (.tup []) (Aa Try.f77 0) (⟨[(0, .at 0 []), (1, .int .u64 v), (6, .int .i64 (i : Int))], [(0, bwE)]⟩ : DS) := by
 have hx : v / 2 ^ i < 18446744073709551616 := Nat.lt_of_le_of_lt (Nat.div_le_self _ _) hv
 refine W.sgA 0 [(5, aV (U6 ↑(v / 2 ^ i))), (6, cC true [(0, 0)] c1), (8, aV (I6 ((i:Int) - 1)))] [(0, 0), (161, 1)] (⟨[(0, .at 0 []), (1, .int .u64 v), (6, .int .i64 ((i : Int) - 1))], [(0, bwR 1 k2 n2), (1, bwB k2 l2)]⟩ : DS) [U6 (Int.fdiv (v:Int) ((2 : Int) ^ min i 64)) = U6 ↑(v / 2 ^ i), 0 ≤ (i:Int), _, I6 (IntKind.wrap .i64 ((i:Int) - 1)) = I6 ((i:Int) - 1)] (ac (cg (CZ rfl rfl (by omega))) (ac (by omega) (ac (c1) (ao (wj (by omega)))))) ?_
 exact hw
theorem Re {v i : Nat} {n k n2 k2 : Nat} {l l2 : Liz} {hout : Lrz} (hi : i < 64) (hv : v < 18446744073709551616) (hn : n ≤ 10000000) (hn2 : n2 ≤ 10000000) (c1 : Pt 88 [(0, bwR 1 k n), (1, bwB k l)] [.at 0 [], .int .u64 ((v / 2 ^ i : Nat) : Int)] [(0, bwR 1 k2 n2), (1, bwB k2 l2)] (.tup [])) (hw : Wt Try.f77 [0] hout (.tup []) (Aa Try.f77 0) (⟨[(0, .at 0 []), (1, .int .u64 v), (6, .int .i64 ((i : Int) - 1))], [(0, bwR 1 k2 n2), (1, bwB k2 l2)]⟩ : DS)) : Wt Try.f77 [0] hout (.tup []) (Aa Try.f77 0) (⟨[(0, .at 0 []), (1, .int .u64 v), (6, .int .i64 (i : Int))], [(0, bwR 1 k n), (1, bwB k l)]⟩ : DS) := by
 have hx : v / 2 ^ i < 18446744073709551616 := Nat.lt_of_le_of_lt (Nat.div_le_self _ _) hv
 refine W.sgA 0 [(5, aV (U6 ↑(v / 2 ^ i))), (6, cC true [(0, 0), (1, 1)] c1), (8, aV (I6 ((i:Int) - 1)))] [(0, 0), (1, 1)] (⟨[(0, .at 0 []), (1, .int .u64 v), (6, .int .i64 ((i : Int) - 1))], [(0, bwR 1 k2 n2), (1, bwB k2 l2)]⟩ : DS) [U6 (Int.fdiv (v:Int) ((2 : Int) ^ min i 64)) = U6 ↑(v / 2 ^ i), 0 ≤ (i:Int), _, I6 (IntKind.wrap .i64 ((i:Int) - 1)) = I6 ((i:Int) - 1)] (ac (cg (CZ rfl rfl (by omega))) (ac (by omega) (ac (c1) (ao (wj (by omega)))))) ?_
 exact hw
theorem Rn {v i : Nat} {n k n2 k2 : Nat} {l l2 : Liz} {hout : Lrz} (hi : i < 64) (hv : v < 18446744073709551616) (hn : n ≤ 10000000) (hn2 : n2 ≤ 10000000) (c1 : Pt 88 [(0, bwR 1 k n), (1, bwB k l)] [.at 0 [], .int .u64 ((v / 2 ^ i : Nat) : Int)] [(0, bwR 2 k2 n2), (2, bwB k2 l2)] (.tup [])) (hw : Wt Try.f77 [0] hout (.tup []) (Aa Try.f77 0) (⟨[(0, .at 0 []), (1, .int .u64 v), (6, .int .i64 ((i : Int) - 1))], [(0, bwR 1 k2 n2), (1, bwB k2 l2)]⟩ : DS)) : Wt Try.f77 [0] hout (.tup []) (Aa Try.f77 0) (⟨[(0, .at 0 []), (1, .int .u64 v), (6, .int .i64 (i : Int))], [(0, bwR 1 k n), (1, bwB k l)]⟩ : DS) := by
 have hx : v / 2 ^ i < 18446744073709551616 := Nat.lt_of_le_of_lt (Nat.div_le_self _ _) hv
 refine W.sgA 0 [(5, aV (U6 ↑(v / 2 ^ i))), (6, cC true [(0, 0), (1, 1)] c1), (8, aV (I6 ((i:Int) - 1)))] [(0, 0), (162, 1)] (⟨[(0, .at 0 []), (1, .int .u64 v), (6, .int .i64 ((i : Int) - 1))], [(0, bwR 1 k2 n2), (1, bwB k2 l2)]⟩ : DS) [U6 (Int.fdiv (v:Int) ((2 : Int) ^ min i 64)) = U6 ↑(v / 2 ^ i), 0 ≤ (i:Int), _, I6 (IntKind.wrap .i64 ((i:Int) - 1)) = I6 ((i:Int) - 1)] (ac (cg (CZ rfl rfl (by omega))) (ac (by omega) (ac (c1) (ao (wj (by omega)))))) ?_
 exact hw
theorem NL {v i : Nat} {n k n2 k2 : Nat} {l l2 : Liz} {hout : Lrz} (hi : i < 64) (hv : v < 18446744073709551616) (hn : n ≤ 10000000) (hn2 : n2 ≤ 10000000) (c1 : Pt 88 [(0, bwR 1 k n), (1, bwB k l)] [.at 0 [], .int .u64 ((v / 2 ^ i : Nat) : Int)] [(0, bwR 1 k2 n2), (1, bwB k2 l2)] (.tup [])) (hw : Wt Try.f77 [0, 1] hout (.tup []) (Aa Try.f77 0) (⟨[(0, .at 0 []), (1, .int .u64 v), (6, .int .i64 ((i : Int) - 1))], [(0, bwR 1 k2 n2), (1, bwB k2 l2)]⟩ : DS)) : Wt Try.f77 [0, 1] hout (.tup []) (Aa Try.f77 0) (⟨[(0, .at 0 []), (1, .int .u64 v), (6, .int .i64 (i : Int))], [(0, bwR 1 k n), (1, bwB k l)]⟩ : DS) := by
 have hx : v / 2 ^ i < 18446744073709551616 := Nat.lt_of_le_of_lt (Nat.div_le_self _ _) hv
 refine W.sgA 0 [(5, aV (U6 ↑(v / 2 ^ i))), (6, cC true [(0, 0), (1, 1)] c1), (8, aV (I6 ((i:Int) - 1)))] [(0, 0), (1, 1)] (⟨[(0, .at 0 []), (1, .int .u64 v), (6, .int .i64 ((i : Int) - 1))], [(0, bwR 1 k2 n2), (1, bwB k2 l2)]⟩ : DS) [U6 (Int.fdiv (v:Int) ((2 : Int) ^ min i 64)) = U6 ↑(v / 2 ^ i), 0 ≤ (i:Int), _, I6 (IntKind.wrap .i64 ((i:Int) - 1)) = I6 ((i:Int) - 1)] (ac (cg (CZ rfl rfl (by omega))) (ac (by omega) (ac (c1) (ao (wj (by omega)))))) ?_
 exact hw
theorem QZ {v i : Nat} {n k n2 k2 : Nat} {l l2 : Liz} {hout : Lrz} (hi : i < 64) (hv : v < 18446744073709551616) (hn : n ≤ 10000000) (hn2 : n2 ≤ 10000000) (c1 : Pt 88 [(0, bwR 1 k n), (1, bwB k l)] [.at 0 [], .int .u64 ((v / 2 ^ i : Nat) : Int)] [(0, bwR 2 k2 n2), (2, bwB k2 l2)] (.tup [])) (hw : Wt Try.f77 [0, 1] hout (.tup []) (Aa Try.f77 0) (⟨[(0, .at 0 []), (1, .int .u64 v), (6, .int .i64 ((i : Int) - 1))], [(0, bwR 2 k2 n2), (2, bwB k2 l2)]⟩ : DS)) : Wt Try.f77 [0, 1] hout (.tup []) (Aa Try.f77 0) (⟨[(0, .at 0 []), (1, .int .u64 v), (6, .int .i64 (i : Int))], [(0, bwR 1 k n), (1, bwB k l)]⟩ : DS) := by
 have hx : v / 2 ^ i < 18446744073709551616 := Nat.lt_of_le_of_lt (Nat.div_le_self _ _) hv
 refine W.sgA 0 [(5, aV (U6 ↑(v / 2 ^ i))), (6, cC true [(0, 0), (1, 1)] c1), (8, aV (I6 ((i:Int) - 1)))] [(0, 0), (1, 1), (162, 2)] (⟨[(0, .at 0 []), (1, .int .u64 v), (6, .int .i64 ((i : Int) - 1))], [(0, bwR 2 k2 n2), (2, bwB k2 l2)]⟩ : DS) [U6 (Int.fdiv (v:Int) ((2 : Int) ^ min i 64)) = U6 ↑(v / 2 ^ i), 0 ≤ (i:Int), _, I6 (IntKind.wrap .i64 ((i:Int) - 1)) = I6 ((i:Int) - 1)] (ac (cg (CZ rfl rfl (by omega))) (ac (by omega) (ac (c1) (ao (wj (by omega)))))) ?_
 exact hw
theorem Tu {v i : Nat} {n k n2 k2 : Nat} {l l2 : Liz} {hout : Lrz} (hi : i < 64) (hv : v < 18446744073709551616) (hn : n ≤ 10000000) (hn2 : n2 ≤ 10000000) (c1 : Pt 88 [(0, bwR 1 k n), (1, bwB k l)] [.at 0 [], .int .u64 ((v / 2 ^ i : Nat) : Int)] [(0, bwR 1 k2 n2), (1, bwB k2 l2)] (.tup [])) (hw : Wt Try.f77 [0, 1] hout (.tup []) (Aa Try.f77 0) (⟨[(0, .at 0 []), (1, .int .u64 v), (6, .int .i64 ((i : Int) - 1))], [(0, bwR 2 k2 n2), (2, bwB k2 l2)]⟩ : DS)) : Wt Try.f77 [0, 1] hout (.tup []) (Aa Try.f77 0) (⟨[(0, .at 0 []), (1, .int .u64 v), (6, .int .i64 (i : Int))], [(0, bwR 2 k n), (2, bwB k l)]⟩ : DS) := by
 have hx : v / 2 ^ i < 18446744073709551616 := Nat.lt_of_le_of_lt (Nat.div_le_self _ _) hv
 refine W.sgA 0 [(5, aV (U6 ↑(v / 2 ^ i))), (6, cC true [(0, 0), (2, 1)] c1), (8, aV (I6 ((i:Int) - 1)))] [(0, 0), (1, 1), (2, 2)] (⟨[(0, .at 0 []), (1, .int .u64 v), (6, .int .i64 ((i : Int) - 1))], [(0, bwR 2 k2 n2), (2, bwB k2 l2)]⟩ : DS) [U6 (Int.fdiv (v:Int) ((2 : Int) ^ min i 64)) = U6 ↑(v / 2 ^ i), 0 ≤ (i:Int), _, I6 (IntKind.wrap .i64 ((i:Int) - 1)) = I6 ((i:Int) - 1)] (ac (cg (CZ rfl rfl (by omega))) (ac (by omega) (ac (c1) (ao (wj (by omega)))))) ?_
 exact hw
theorem Ra {v i : Nat} {n k n2 k2 : Nat} {l l2 : Liz} {hout : Lrz} (hi : i < 64) (hv : v < 18446744073709551616) (hn : n ≤ 10000000) (hn2 : n2 ≤ 10000000) (c1 : Pt 88 [(0, bwR 1 k n), (1, bwB k l)] [.at 0 [], .int .u64 ((v / 2 ^ i : Nat) : Int)] [(0, bwR 2 k2 n2), (2, bwB k2 l2)] (.tup [])) (hw : Wt Try.f77 [0, 1] hout (.tup []) (Aa Try.f77 0) (⟨[(0, .at 0 []), (1, .int .u64 v), (6, .int .i64 ((i : Int) - 1))], [(0, bwR 2 k2 n2), (2, bwB k2 l2)]⟩ : DS)) : Wt Try.f77 [0, 1] hout (.tup []) (Aa Try.f77 0) (⟨[(0, .at 0 []), (1, .int .u64 v), (6, .int .i64 (i : Int))], [(0, bwR 2 k n), (2, bwB k l)]⟩ : DS) := by
 have hx : v / 2 ^ i < 18446744073709551616 := Nat.lt_of_le_of_lt (Nat.div_le_self _ _) hv
 refine W.sgA 0 [(5, aV (U6 ↑(v / 2 ^ i))), (6, cC true [(0, 0), (2, 1)] c1), (8, aV (I6 ((i:Int) - 1)))] [(0, 0), (1, 1), (162, 2)] (⟨[(0, .at 0 []), (1, .int .u64 v), (6, .int .i64 ((i : Int) - 1))], [(0, bwR 2 k2 n2), (2, bwB k2 l2)]⟩ : DS) [U6 (Int.fdiv (v:Int) ((2 : Int) ^ min i 64)) = U6 ↑(v / 2 ^ i), 0 ≤ (i:Int), _, I6 (IntKind.wrap .i64 ((i:Int) - 1)) = I6 ((i:Int) - 1)] (ac (cg (CZ rfl rfl (by omega))) (ac (by omega) (ac (c1) (ao (wj (by omega)))))) ?_
 exact hw
theorem W_bwPX0 {v : Nat} {n k : Nat} {l : Liz} : Wt Try.f77 [0] [(0, bwR 1 k n), (1, bwB k l)] (.tup []) (Aa Try.f77 0) (⟨[(0, .at 0 []), (1, .int .u64 v), (6, .int .i64 (-1))], [(0, bwR 1 k n), (1, bwB k l)]⟩ : DS) := by
 refine W.rtA [] [(0, 0), (1, 1)] [] trivial
theorem W_bwPX1 {v : Nat} {n k : Nat} {l : Liz} : Wt Try.f77 [0, 1] [(0, bwR 1 k n), (1, bwB k l)] (.tup []) (Aa Try.f77 0) (⟨[(0, .at 0 []), (1, .int .u64 v), (6, .int .i64 (-1))], [(0, bwR 1 k n), (1, bwB k l)]⟩ : DS) := by
 refine W.rtA [] [(0, 0), (1, 1)] [] trivial
theorem W_bwPX2 {v : Nat} {n k : Nat} {l : Liz} : Wt Try.f77 [0, 1] [(0, bwR 2 k n), (2, bwB k l)] (.tup []) (Aa Try.f77 0) (⟨[(0, .at 0 []), (1, .int .u64 v), (6, .int .i64 (-1))], [(0, bwR 2 k n), (2, bwB k l)]⟩ : DS) := by
 refine W.rtA [] [(0, 0), (1, 1), (2, 2)] [] trivial
theorem Qz {v w n k : Nat} {l : Liz} {hout : Lrz} (hw0 : w + 1 ≤ 64) (hw : Wt Try.f77 [0] hout (.tup []) (Aa Try.f77 0) (⟨[(0, .at 0 []), (1, .int .u64 v), (6, .int .i64 (w : Int))], [(0, bwE)]⟩ : DS)) : Pt 77 [(0, bwE)] [.at 0 [], .int .u64 v, .int .i64 ((w + 1 : Nat) : Int)] hout (.tup []) := by
 refine pO Try.func77 (by kernel_rfl) ?_
 have hx : mx ((w + 1 : Nat) : Int) 0 = ((w + 1 : Nat) : Int) := by unfold mx; split <;> omega
 have hy : mn ((w + 1 : Nat) : Int) 64 = ((w + 1 : Nat) : Int) := by unfold mn; split <;> omega
 refine W.sgA 0 [(1, aV (I6 ↑(w + 1))), (2, aV (I6 ↑(w + 1))), (3, aV (I6 w))] [(0, 0)] (⟨[(0, .at 0 []), (1, .int .u64 v), (6, .int .i64 (w : Int))], [(0, bwE)]⟩ : DS) [I6 (mx (↑(w + 1) : Int) (0 : Int)) = I6 ↑(w + 1), I6 (mn (↑(w + 1) : Int) (64 : Int)) = I6 ↑(w + 1), I6 (IntKind.wrap .i64 ((↑(w + 1) : Int) - 1)) = I6 w] (ac (cg (hx)) (ac (cg (hy)) (ao (cg (Ab (by omega) (by omega) (by omega)))))) ?_
 exact hw
theorem Iz {v w n k : Nat} {l : Liz} {hout : Lrz} (hw0 : w + 1 ≤ 64) (hw : Wt Try.f77 [0, 1] hout (.tup []) (Aa Try.f77 0) (⟨[(0, .at 0 []), (1, .int .u64 v), (6, .int .i64 (w : Int))], [(0, bwR 1 k n), (1, bwB k l)]⟩ : DS)) : Pt 77 [(0, bwR 1 k n), (1, bwB k l)] [.at 0 [], .int .u64 v, .int .i64 ((w + 1 : Nat) : Int)] hout (.tup []) := by
 refine pO Try.func77 (by kernel_rfl) ?_
 have hx : mx ((w + 1 : Nat) : Int) 0 = ((w + 1 : Nat) : Int) := by unfold mx; split <;> omega
 have hy : mn ((w + 1 : Nat) : Int) 64 = ((w + 1 : Nat) : Int) := by unfold mn; split <;> omega
 refine W.sgA 0 [(1, aV (I6 ↑(w + 1))), (2, aV (I6 ↑(w + 1))), (3, aV (I6 w))] [(0, 0), (1, 1)] (⟨[(0, .at 0 []), (1, .int .u64 v), (6, .int .i64 (w : Int))], [(0, bwR 1 k n), (1, bwB k l)]⟩ : DS) [I6 (mx (↑(w + 1) : Int) (0 : Int)) = I6 ↑(w + 1), I6 (mn (↑(w + 1) : Int) (64 : Int)) = I6 ↑(w + 1), I6 (IntKind.wrap .i64 ((↑(w + 1) : Int) - 1)) = I6 w] (ac (cg (hx)) (ac (cg (hy)) (ao (cg (Ab (by omega) (by omega) (by omega)))))) ?_
 exact hw
end Go.Proofs
namespace Go.Proofs
open Go Go.Pe Go.Pm
set_option linter.unusedVariables false
def byt (g : Nat → Nat) : Nat := g 0 * 128 + g 1 * 64 + g 2 * 32 + g 3 * 16 + g 4 * 8 + g 5 * 4 + g 6 * 2 + g 7
def pk (B : List Nat) : List Int := (List.range ((B.length + 7) / 8)).map fun i => ((byt fun j => B.getD (8 * i + j) 0 : Nat) : Int)
def Bits (B : List Nat) : Prop := ∀ i, B.getD i 0 < 2
theorem Bits.nil : Bits [] := fun i => by simp
theorem Bits.append {A B : List Nat} (hA : Bits A) (hB : Bits B) : Bits (A ++ B) := fun i => by
 rcases Nat.lt_or_ge i A.length with h | h
 ·rw [List.getD_eq_getElem?_getD, List.getElem?_append_left h, ← List.getD_eq_getElem?_getD]; exact hA i
 ·rw [List.getD_eq_getElem?_getD, List.getElem?_append_right h, ← List.getD_eq_getElem?_getD]; exact hB _
theorem Bits.one (x : Nat) : Bits [x % 2] := fun i => by
 cases i with
 | zero => exact Nat.mod_lt _ (by decide)
 | succ i => simp
theorem Bi (B : List Nat) : (pk B).length = (B.length + 7) / 8 := by simp [pk]
theorem byt_lt {g : Nat → Nat} (h : ∀ j, g j < 2) : byt g < 256 := by
 have h0 := h 0; have h1 := h 1; have h2 := h 2; have h3 := h 3; have h4 := h 4; have h5 := h 5; have h6 := h 6; have h7 := h 7
 unfold byt
 omega
theorem G5 {B : List Nat} (h : Bits B) : Bytes (pk B) := fun x hx => by
 unfold pk at hx
 obtain ⟨i, -, rfl⟩ := List.mem_map.1 hx
 have := byt_lt fun j => h (8 * i + j)
 omega
theorem GG (B : List Nat) {i : Nat} (hi : i < (B.length + 7) / 8) : (pk B)[i]? = some ((byt fun j => B.getD (8 * i + j) 0 : Nat) : Int) := by
 simp [pk, hi]
theorem F7 (B : List Nat) (b i : Nat) : (B ++ [b]).getD i 0 = if i = B.length then b else B.getD i 0 := by
 rcases Nat.lt_trichotomy i B.length with h | h | h
 ·rw [if_neg (by omega), List.getD_eq_getElem?_getD, List.getElem?_append_left h, ← List.getD_eq_getElem?_getD]
 ·subst h; simp
 ·rw [if_neg (by omega)]
  rw [List.getD_eq_getElem?_getD, List.getD_eq_getElem?_getD, List.getElem?_eq_none (by simp; omega), List.getElem?_eq_none (by omega)]
theorem Ii {f g : Nat → Nat} (h : ∀ j, j < 8 → f j = g j) : byt f = byt g := by
 unfold byt
 rw [h 0 (by omega), h 1 (by omega), h 2 (by omega), h 3 (by omega), h 4 (by omega), h 5 (by omega), h 6 (by omega), h 7 (by omega)]
theorem Du {B : List Nat} {i : Nat} (h : B.length ≤ i) : B.getD i 0 = 0 := by
 rw [List.getD_eq_getElem?_getD, List.getElem?_eq_none h]
 rfl
theorem M3 {B : List Nat} (b : Nat) (h : B.length % 8 = 0) : pk (B ++ [b]) = pk B ++ [((b * 128 : Nat) : Int)] := by
 apply List.ext_getElem?
 intro i
 have hl := Bi B
 have hl2 := Bi (B ++ [b])
 rw [List.length_append, List.length_singleton] at hl2
 rcases Nat.lt_trichotomy i ((B.length + 7) / 8) with hi | hi | hi
 ·rw [List.getElem?_append_left (by omega), GG B hi, GG _ (by rw [List.length_append, List.length_singleton]; omega)]
  congr 2
  refine Ii fun j hj => ?_
  rw [F7, if_neg (by omega)]
 ·rw [List.getElem?_append_right (by omega), show i - (pk B).length = 0 by omega, GG _ (by rw [List.length_append, List.length_singleton]; omega)]
  show some _ = some _
  congr 2
  unfold byt
  simp only [F7]
  rw [if_pos (by omega), if_neg (by omega), if_neg (by omega), if_neg (by omega), if_neg (by omega), if_neg (by omega), if_neg (by omega), if_neg (by omega)]
  rw [Du (by omega), Du (by omega), Du (by omega), Du (by omega), Du (by omega), Du (by omega), Du (by omega)]
  omega
 ·rw [List.getElem?_eq_none (by omega), List.getElem?_eq_none (by rw [List.length_append, List.length_singleton]; omega)]
theorem Gu {i a b : Nat} (h : b < 2 ^ i) : 2 ^ i * a ||| b = 2 ^ i * a + b := (Nat.two_pow_add_eq_or_of_lt h a).symm
theorem byt_or {g : Nat → Nat} {r b : Nat} (hr : r < 8) (hg : ∀ j, r ≤ j → g j = 0) (hb : b < 2) : byt (fun j => if j = r then b else g j) = byt g ||| b * 2 ^ (7 - r) % 256 := by
 unfold byt
 dsimp only
 match r, hr with
 | 0, _ =>
  rw [hg 0 (by omega), hg 1 (by omega), hg 2 (by omega), hg 3 (by omega), hg 4 (by omega), hg 5 (by omega), hg 6 (by omega), hg 7 (by omega)]
  simp only [if_true, show ¬ (1 : Nat) = 0 by omega, show ¬ (2 : Nat) = 0 by omega, show ¬ (3 : Nat) = 0 by omega, show ¬ (4 : Nat) = 0 by omega, show ¬ (5 : Nat) = 0 by omega, show ¬ (6 : Nat) = 0 by omega, show ¬ (7 : Nat) = 0 by omega, if_false]
  have : b = 0 ∨ b = 1 := by omega
  rcases this with rfl | rfl <;> rfl
 | 1, _ =>
  rw [hg 1 (by omega), hg 2 (by omega), hg 3 (by omega), hg 4 (by omega), hg 5 (by omega), hg 6 (by omega), hg 7 (by omega)]
  have e := Gu (i := 7) (a := g 0) (b := b * 2 ^ (7 - 1) % 256) (by omega)
  simp only [if_true, show ¬ (0 : Nat) = 1 by omega, show ¬ (2 : Nat) = 1 by omega, show ¬ (3 : Nat) = 1 by omega, show ¬ (4 : Nat) = 1 by omega, show ¬ (5 : Nat) = 1 by omega, show ¬ (6 : Nat) = 1 by omega, show ¬ (7 : Nat) = 1 by omega, if_false]
  rw [show g 0 * 128 + 0 * 64 + 0 * 32 + 0 * 16 + 0 * 8 + 0 * 4 + 0 * 2 + 0 = 2 ^ 7 * g 0 by omega, e]
  omega
 | 2, _ =>
  rw [hg 2 (by omega), hg 3 (by omega), hg 4 (by omega), hg 5 (by omega), hg 6 (by omega), hg 7 (by omega)]
  have e := Gu (i := 6) (a := g 0 * 2 + g 1) (b := b * 2 ^ (7 - 2) % 256) (by omega)
  simp only [if_true, show ¬ (0 : Nat) = 2 by omega, show ¬ (1 : Nat) = 2 by omega, show ¬ (3 : Nat) = 2 by omega, show ¬ (4 : Nat) = 2 by omega, show ¬ (5 : Nat) = 2 by omega, show ¬ (6 : Nat) = 2 by omega, show ¬ (7 : Nat) = 2 by omega, if_false]
  rw [show g 0 * 128 + g 1 * 64 + 0 * 32 + 0 * 16 + 0 * 8 + 0 * 4 + 0 * 2 + 0 = 2 ^ 6 * (g 0 * 2 + g 1) by omega, e]
  omega
 | 3, _ =>
  rw [hg 3 (by omega), hg 4 (by omega), hg 5 (by omega), hg 6 (by omega), hg 7 (by omega)]
  have e := Gu (i := 5) (a := g 0 * 4 + g 1 * 2 + g 2) (b := b * 2 ^ (7 - 3) % 256) (by omega)
  simp only [if_true, show ¬ (0 : Nat) = 3 by omega, show ¬ (1 : Nat) = 3 by omega, show ¬ (2 : Nat) = 3 by omega, show ¬ (4 : Nat) = 3 by omega, show ¬ (5 : Nat) = 3 by omega, show ¬ (6 : Nat) = 3 by omega, show ¬ (7 : Nat) = 3 by omega, if_false]
  rw [show g 0 * 128 + g 1 * 64 + g 2 * 32 + 0 * 16 + 0 * 8 + 0 * 4 + 0 * 2 + 0 = 2 ^ 5 * (g 0 * 4 + g 1 * 2 + g 2) by omega, e]
  omega
 | 4, _ =>
  rw [hg 4 (by omega), hg 5 (by omega), hg 6 (by omega), hg 7 (by omega)]
  have e := Gu (i := 4) (a := g 0 * 8 + g 1 * 4 + g 2 * 2 + g 3) (b := b * 2 ^ (7 - 4) % 256) (by omega)
  simp only [if_true, show ¬ (0 : Nat) = 4 by omega, show ¬ (1 : Nat) = 4 by omega, show ¬ (2 : Nat) = 4 by omega, show ¬ (3 : Nat) = 4 by omega, show ¬ (5 : Nat) = 4 by omega, show ¬ (6 : Nat) = 4 by omega, show ¬ (7 : Nat) = 4 by omega, if_false]
  rw [show g 0 * 128 + g 1 * 64 + g 2 * 32 + g 3 * 16 + 0 * 8 + 0 * 4 + 0 * 2 + 0 = 2 ^ 4 * (g 0 * 8 + g 1 * 4 + g 2 * 2 + g 3) by omega, e]
  omega
 | 5, _ =>
  rw [hg 5 (by omega), hg 6 (by omega), hg 7 (by omega)]
  have e := Gu (i := 3) (a := g 0 * 16 + g 1 * 8 + g 2 * 4 + g 3 * 2 + g 4) (b := b * 2 ^ (7 - 5) % 256) (by omega)
  simp only [if_true, show ¬ (0 : Nat) = 5 by omega, show ¬ (1 : Nat) = 5 by omega, show ¬ (2 : Nat) = 5 by omega, show ¬ (3 : Nat) = 5 by omega, show ¬ (4 : Nat) = 5 by omega, show ¬ (6 : Nat) = 5 by omega, show ¬ (7 : Nat) = 5 by omega, if_false]
  rw [show g 0 * 128 + g 1 * 64 + g 2 * 32 + g 3 * 16 + g 4 * 8 + 0 * 4 + 0 * 2 + 0 = 2 ^ 3 * (g 0 * 16 + g 1 * 8 + g 2 * 4 + g 3 * 2 + g 4) by omega, e]
  omega
 | 6, _ =>
  rw [hg 6 (by omega), hg 7 (by omega)]
  have e := Gu (i := 2) (a := g 0 * 32 + g 1 * 16 + g 2 * 8 + g 3 * 4 + g 4 * 2 + g 5) (b := b * 2 ^ (7 - 6) % 256) (by omega)
  simp only [if_true, show ¬ (0 : Nat) = 6 by omega, show ¬ (1 : Nat) = 6 by omega, show ¬ (2 : Nat) = 6 by omega, show ¬ (3 : Nat) = 6 by omega, show ¬ (4 : Nat) = 6 by omega, show ¬ (5 : Nat) = 6 by omega, show ¬ (7 : Nat) = 6 by omega, if_false]
  rw [show g 0 * 128 + g 1 * 64 + g 2 * 32 + g 3 * 16 + g 4 * 8 + g 5 * 4 + 0 * 2 + 0 = 2 ^ 2 * (g 0 * 32 + g 1 * 16 + g 2 * 8 + g 3 * 4 + g 4 * 2 + g 5) by omega, e]
  omega
 | 7, _ =>
  rw [hg 7 (by omega)]
  have e := Gu (i := 1) (a := g 0 * 64 + g 1 * 32 + g 2 * 16 + g 3 * 8 + g 4 * 4 + g 5 * 2 + g 6) (b := b * 2 ^ (7 - 7) % 256) (by omega)
  simp only [if_true, show ¬ (0 : Nat) = 7 by omega, show ¬ (1 : Nat) = 7 by omega, show ¬ (2 : Nat) = 7 by omega, show ¬ (3 : Nat) = 7 by omega, show ¬ (4 : Nat) = 7 by omega, show ¬ (5 : Nat) = 7 by omega, show ¬ (6 : Nat) = 7 by omega, if_false]
  rw [show g 0 * 128 + g 1 * 64 + g 2 * 32 + g 3 * 16 + g 4 * 8 + g 5 * 4 + g 6 * 2 + 0 = 2 ^ 1 * (g 0 * 64 + g 1 * 32 + g 2 * 16 + g 3 * 8 + g 4 * 4 + g 5 * 2 + g 6) by omega, e]
  omega
theorem Su {B : List Nat} {i : Nat} (hi : i < (B.length + 7) / 8) : at0 (pk B) i = byt fun j => B.getD (8 * i + j) 0 := by
 unfold at0
 rw [List.getD_eq_getElem?_getD, GG B hi]
 rfl
theorem R3 {B : List Nat} (x : Nat) (h : B.length % 8 ≠ 0) : pk (B ++ [x % 2]) = bwS B.length x (pk B) := by
 have hl := Bi B
 have hl2 := Bi (B ++ [x % 2])
 rw [List.length_append, List.length_singleton] at hl2
 apply List.ext_getElem?
 intro i
 unfold bwS
 rw [List.getElem?_set]
 rcases Nat.lt_trichotomy i (B.length / 8) with hi | hi | hi
 ·rw [if_neg (by omega), GG B (by omega), GG _ (by rw [List.length_append, List.length_singleton]; omega)]
  congr 2
  refine Ii fun j hj => ?_
  rw [F7, if_neg (by omega)]
 ·rw [if_pos hi.symm, if_pos (by omega), GG _ (by rw [List.length_append, List.length_singleton]; omega), Su (by omega)]
  congr 2
  rw [← byt_or (g := fun j => B.getD (8 * (B.length / 8) + j) 0) (r := B.length % 8) (b := x % 2) (Nat.mod_lt _ (by decide)) (fun j hj => Du (by omega)) (Nat.mod_lt _ (by decide))]
  refine Ii fun j hj => ?_
  rw [F7, hi]
  by_cases hjr : j = B.length % 8
  ·rw [if_pos (by omega), if_pos hjr]
  ·rw [if_neg (by omega), if_neg hjr]
 ·rw [if_neg (by omega), List.getElem?_eq_none (by omega), List.getElem?_eq_none (by omega)]
theorem pk_one (x : Nat) : pk [x % 2] = [((x % 2 * 128 : Nat) : Int)] := by
 have := M3 (B := []) (x % 2) rfl
 exact this
def Bg (v : Nat) : Nat → List Nat
 | 0 => []
 | w + 1 => v / 2 ^ w % 2 :: Bg v w
theorem DJ (v : Nat) : ∀ w, Bits (Bg v w)
 | 0 => Bits.nil
 | w + 1 => Bits.append (Bits.one (v / 2 ^ w)) (DJ v w)
theorem Bp (v : Nat) : ∀ w, (Bg v w).length = w
 | 0 => rfl
 | w + 1 => by rw [Bg, List.length_cons, Bp]
theorem F6 : ∀ q, Bits (List.replicate q 1)
 | 0 => Bits.nil
 | q + 1 => Bits.append (A := [1 % 2]) (Bits.one 1) (F6 q)
end Go.Proofs
namespace Go.Proofs
open Go Go.Pe Go.Pm
set_option maxRecDepth 100000
set_option linter.unusedVariables false
def bwF (id : Nat) (B : List Nat) : List (Nat × Row) := [(0, bwR id (pk B).length B.length), (id, bwB (pk B).length (pk B))]
theorem pk_ne {B : List Nat} (h : B ≠ []) : 0 < (pk B).length := by
 have := Bi B
 have := List.length_pos_iff.2 h
 omega
theorem one_E {x : Nat} (hx : x < 18446744073709551616) : Pt 88 [(0, bwE)] [.at 0 [], .int .u64 x] (bwF 1 [x % 2]) (.tup []) := by
 unfold bwF
 rw [pk_one]
 exact pc_oneA hx
theorem Ja {x : Nat} {B : List Nat} (hx : x < 18446744073709551616) (hB : Bits B) (hl : B.length ≤ 1000000) (h : B.length % 8 ≠ 0) : Pt 88 (bwF 1 B) [.at 0 [], .int .u64 x] (bwF 1 (B ++ [x % 2])) (.tup []) := by
 have h1 := Bi B
 have e : (bwS B.length x (pk B)).length = (pk B).length := by unfold bwS; rw [List.length_set]
 unfold bwF
 rw [R3 x h, e, List.length_append, List.length_singleton]
 exact pc_oneC (G5 hB) rfl (by omega) h (by omega) hx
theorem Ls {x : Nat} {B : List Nat} (hx : x < 18446744073709551616) (hB : Bits B) (hl : B.length ≤ 1000000) (h : B.length % 8 = 0) (h0 : B ≠ []) : Pt 88 (bwF 1 B) [.at 0 [], .int .u64 x] (bwF 2 (B ++ [x % 2])) (.tup []) := by
 have h1 := Bi B
 unfold bwF
 rw [M3 (x % 2) h, List.length_append, List.length_append, List.length_singleton, List.length_singleton]
 exact pc_oneB (G5 hB) rfl (by omega) (by omega) (pk_ne h0) hx
abbrev Wo (pins : List Nat) (q i : Nat) (id : Nat) (B B' : List Nat) (id' : Nat) : Prop := Wt Try.f76 pins (bwF id' B') (.tup []) (Aa Try.f76 0) ⟨[(0, .at 0 []), (6, .int .i64 q), (7, .int .i64 i)], bwF id B⟩
theorem JP (B : List Nat) (r : Nat) : B ++ List.replicate (r + 1) 1 = (B ++ [1 % 2]) ++ List.replicate r 1 := by rw [List.replicate_succ, List.append_assoc]; rfl
theorem W_bo0 {q : Nat} (hq : q ≤ 65536) : ∀ (r i : Nat) (B : List Nat), i + r = q → Bits B → B ≠ [] → B.length + r ≤ 1000000 → Wo [0] q i 1 B (B ++ List.replicate r 1) 1
 | 0, i, B, hk, hB, h0, hl => by
  obtain rfl : i = q := by omega
  rw [List.replicate_zero, List.append_nil]
  exact W_bwOX0
 | r + 1, i, B, hk, hB, h0, hl => by
  have hl2 : (B ++ [1 % 2]).length = B.length + 1 := by simp
  rw [JP]
  have ih := W_bo0 hq r (i + 1) (B ++ [1 % 2]) (by omega) (hB.append (Bits.one 1)) (by simp) (by omega)
  by_cases h : B.length % 8 = 0
  ·exact Ti (by omega) hq (by omega) (by omega) (Ls (x := 1) (by decide) hB (by omega) h h0) ih
  ·exact Sd (by omega) hq (by omega) (by omega) (Ja (x := 1) (by decide) hB (by omega) h) ih
theorem W_bo2 {q : Nat} (hq : q ≤ 65536) : ∀ (r i : Nat) (B : List Nat), i + r = q → Bits B → B ≠ [] → B.length + r ≤ 1000000 → Wo [0, 1] q i 2 B (B ++ List.replicate r 1) 2
 | 0, i, B, hk, hB, h0, hl => by
  obtain rfl : i = q := by omega
  rw [List.replicate_zero, List.append_nil]
  exact W_bwOX2
 | r + 1, i, B, hk, hB, h0, hl => by
  have hl2 : (B ++ [1 % 2]).length = B.length + 1 := by simp
  rw [JP]
  have ih := W_bo2 hq r (i + 1) (B ++ [1 % 2]) (by omega) (hB.append (Bits.one 1)) (by simp) (by omega)
  by_cases h : B.length % 8 = 0
  ·exact TA (by omega) hq (by omega) (by omega) (Ls (x := 1) (by decide) hB (by omega) h h0) ih
  ·exact R4 (by omega) hq (by omega) (by omega) (Ja (x := 1) (by decide) hB (by omega) h) ih
theorem W_bo1 {q : Nat} (hq : q ≤ 65536) : ∀ (r i : Nat) (B : List Nat), i + r = q → Bits B → B ≠ [] → B.length + r ≤ 1000000 → Wo [0, 1] q i 1 B (B ++ List.replicate r 1) 1 ∨ Wo [0, 1] q i 1 B (B ++ List.replicate r 1) 2
 | 0, i, B, hk, hB, h0, hl => by
  obtain rfl : i = q := by omega
  rw [List.replicate_zero, List.append_nil]
  exact .inl W_bwOX1
 | r + 1, i, B, hk, hB, h0, hl => by
  have hl2 : (B ++ [1 % 2]).length = B.length + 1 := by simp
  rw [JP]
  by_cases h : B.length % 8 = 0
  ·exact .inr (RF (by omega) hq (by omega) (by omega) (Ls (x := 1) (by decide) hB (by omega) h h0) (W_bo2 hq r (i + 1) (B ++ [1 % 2]) (by omega) (hB.append (Bits.one 1)) (by simp) (by omega)))
  ·rcases W_bo1 hq r (i + 1) (B ++ [1 % 2]) (by omega) (hB.append (Bits.one 1)) (by simp) (by omega) with ih | ih
   ·exact .inl (Nh (by omega) hq (by omega) (by omega) (Ja (x := 1) (by decide) hB (by omega) h) ih)
   ·exact .inr (Nh (by omega) hq (by omega) (by omega) (Ja (x := 1) (by decide) hB (by omega) h) ih)
theorem SG {q : Nat} {B : List Nat} (hq : q ≤ 65536) (hB : Bits B) (h0 : B ≠ []) (hl : B.length + q ≤ 1000000) : Pt 76 (bwF 1 B) [.at 0 [], .int .i64 q] (bwF 1 (B ++ List.replicate q 1)) (.tup []) ∨ Pt 76 (bwF 1 B) [.at 0 [], .int .i64 q] (bwF 2 (B ++ List.replicate q 1)) (.tup []) := by
 rcases W_bo1 hq q 0 B (by omega) hB h0 hl with h | h
 ·exact .inl (LG hq h)
 ·exact .inr (LG hq h)
theorem QV : Pt 76 [(0, bwE)] [.at 0 [], .int .i64 0] [(0, bwE)] (.tup []) := K9 (q := 0) (n := 0) (k := 0) (l := []) (by omega) (W_bwOXE (q := 0) (n := 0) (k := 0) (l := []))
theorem NQ {q : Nat} (hq : q + 1 ≤ 65536) : Pt 76 [(0, bwE)] [.at 0 [], .int .i64 ((q + 1 : Nat) : Int)] (bwF 1 (List.replicate (q + 1) 1)) (.tup []) := by
 refine K9 (n := 0) (k := 0) (l := []) hq ?_
 have hw := W_bo0 hq q 1 [1 % 2] (by omega) (Bits.one 1) (by simp) (by simp; omega)
 exact SK (i := 0) (n := 0) (k := 0) (l := []) (by omega) hq (by omega) (n2 := 1) (by omega) (one_E (x := 1) (by decide)) hw
abbrev Wp (pins : List Nat) (v : Nat) (i : Int) (id : Nat) (B B' : List Nat) (id' : Nat) : Prop := Wt Try.f77 pins (bwF id' B') (.tup []) (Aa Try.f77 0) ⟨[(0, .at 0 []), (1, .int .u64 v), (6, .int .i64 i)], bwF id B⟩
theorem Im (B : List Nat) (v r : Nat) : B ++ Bg v (r + 1) = (B ++ [v / 2 ^ r % 2]) ++ Bg v r := by rw [Bg, List.append_assoc]; rfl
theorem Dh {v : Nat} (hv : v < 18446744073709551616) (r : Nat) : v / 2 ^ r < 18446744073709551616 := Nat.lt_of_le_of_lt (Nat.div_le_self _ _) hv
theorem W_bq0 {v : Nat} (hv : v < 18446744073709551616) : ∀ (r : Nat) (B : List Nat), r ≤ 64 → Bits B → B ≠ [] → B.length + r ≤ 1000000 → Wp [0] v ((r : Int) - 1) 1 B (B ++ Bg v r) 1
 | 0, B, hr, hB, h0, hl => by
  rw [Bg, List.append_nil]
  exact W_bwPX0 (v := v)
 | r + 1, B, hr, hB, h0, hl => by
  have hl2 : (B ++ [v / 2 ^ r % 2]).length = B.length + 1 := by simp
  rw [Im, show (((r + 1 : Nat) : Int) - 1) = (r : Int) by omega]
  have ih := W_bq0 hv r (B ++ [v / 2 ^ r % 2]) (by omega) (hB.append (Bits.one _)) (by simp) (by omega)
  by_cases h : B.length % 8 = 0
  ·exact Rn (by omega) hv (by omega) (by omega) (Ls (Dh hv r) hB (by omega) h h0) ih
  ·exact Re (by omega) hv (by omega) (by omega) (Ja (Dh hv r) hB (by omega) h) ih
theorem W_bq2 {v : Nat} (hv : v < 18446744073709551616) : ∀ (r : Nat) (B : List Nat), r ≤ 64 → Bits B → B ≠ [] → B.length + r ≤ 1000000 → Wp [0, 1] v ((r : Int) - 1) 2 B (B ++ Bg v r) 2
 | 0, B, hr, hB, h0, hl => by
  rw [Bg, List.append_nil]
  exact W_bwPX2 (v := v)
 | r + 1, B, hr, hB, h0, hl => by
  have hl2 : (B ++ [v / 2 ^ r % 2]).length = B.length + 1 := by simp
  rw [Im, show (((r + 1 : Nat) : Int) - 1) = (r : Int) by omega]
  have ih := W_bq2 hv r (B ++ [v / 2 ^ r % 2]) (by omega) (hB.append (Bits.one _)) (by simp) (by omega)
  by_cases h : B.length % 8 = 0
  ·exact Ra (by omega) hv (by omega) (by omega) (Ls (Dh hv r) hB (by omega) h h0) ih
  ·exact Tu (by omega) hv (by omega) (by omega) (Ja (Dh hv r) hB (by omega) h) ih
theorem W_bq1 {v : Nat} (hv : v < 18446744073709551616) : ∀ (r : Nat) (B : List Nat), r ≤ 64 → Bits B → B ≠ [] → B.length + r ≤ 1000000 → ((B.length % 8 ≠ 0 → r < 8 - B.length % 8 + 1) ∧ (B.length % 8 = 0 → r = 0)) ∧ Wp [0, 1] v ((r : Int) - 1) 1 B (B ++ Bg v r) 1 ∨ Wp [0, 1] v ((r : Int) - 1) 1 B (B ++ Bg v r) 2
 | 0, B, hr, hB, h0, hl => by
  rw [Bg, List.append_nil]
  exact .inl ⟨⟨fun _ => by omega, fun _ => rfl⟩, W_bwPX1 (v := v)⟩
 | r + 1, B, hr, hB, h0, hl => by
  have hl2 : (B ++ [v / 2 ^ r % 2]).length = B.length + 1 := by simp
  rw [Im, show (((r + 1 : Nat) : Int) - 1) = (r : Int) by omega]
  by_cases h : B.length % 8 = 0
  ·exact .inr (QZ (by omega) hv (by omega) (by omega) (Ls (Dh hv r) hB (by omega) h h0) (W_bq2 hv r (B ++ [v / 2 ^ r % 2]) (by omega) (hB.append (Bits.one _)) (by simp) (by omega)))
  ·rcases W_bq1 hv r (B ++ [v / 2 ^ r % 2]) (by omega) (hB.append (Bits.one _)) (by simp) (by omega) with ⟨hc, ih⟩ | ih
   ·refine .inl ⟨⟨fun _ => ?_, fun x => absurd x h⟩, NL (by omega) hv (by omega) (by omega) (Ja (Dh hv r) hB (by omega) h) ih⟩
    by_cases h9 : (B.length + 1) % 8 = 0
    ·have := hc.2 (by rw [hl2]; exact h9)
     omega
    ·have := hc.1 (by rw [hl2]; exact h9)
     rw [hl2] at this
     omega
   ·exact .inr (NL (by omega) hv (by omega) (by omega) (Ja (Dh hv r) hB (by omega) h) ih)
theorem pc_putE {v w : Nat} (hv : v < 18446744073709551616) (hw : w + 1 ≤ 64) : Pt 77 [(0, bwE)] [.at 0 [], .int .u64 v, .int .i64 ((w + 1 : Nat) : Int)] (bwF 1 (Bg v (w + 1))) (.tup []) := by
 refine Qz (n := 0) (k := 0) (l := []) hw ?_
 have h := W_bq0 hv w [v / 2 ^ w % 2] (by omega) (Bits.one _) (by simp) (by simp; omega)
 exact R8 (i := w) (n := 0) (k := 0) (l := []) (by omega) hv (by omega) (n2 := 1) (by omega) (one_E (Dh hv w)) h
theorem PL {v w : Nat} {B : List Nat} (hv : v < 18446744073709551616) (hw : w + 1 ≤ 64) (hB : Bits B) (h0 : B ≠ []) (hl : B.length + (w + 1) ≤ 1000000) : Pt 77 (bwF 1 B) [.at 0 [], .int .u64 v, .int .i64 ((w + 1 : Nat) : Int)] (bwF 1 (B ++ Bg v (w + 1))) (.tup []) ∨ Pt 77 (bwF 1 B) [.at 0 [], .int .u64 v, .int .i64 ((w + 1 : Nat) : Int)] (bwF 2 (B ++ Bg v (w + 1))) (.tup []) := by
 rcases W_bq1 hv (w + 1) B hw hB h0 hl with ⟨-, h⟩ | h
 ·rw [show (((w + 1 : Nat) : Int) - 1) = (w : Int) by omega] at h
  exact .inl (Iz hw h)
 ·rw [show (((w + 1 : Nat) : Int) - 1) = (w : Int) by omega] at h
  exact .inr (Iz hw h)
theorem LM {v w : Nat} {B : List Nat} (hv : v < 18446744073709551616) (hw : w + 1 ≤ 64) (h8 : 8 ≤ w + 1) (hB : Bits B) (h0 : B ≠ []) (hl : B.length + (w + 1) ≤ 1000000) : Pt 77 (bwF 1 B) [.at 0 [], .int .u64 v, .int .i64 ((w + 1 : Nat) : Int)] (bwF 2 (B ++ Bg v (w + 1))) (.tup []) := by
 rcases W_bq1 hv (w + 1) B hw hB h0 hl with ⟨h, -⟩ | h
 ·by_cases g : B.length % 8 = 0
  ·have := h.2 g; omega
  ·have := h.1 g; omega
 ·rw [show (((w + 1 : Nat) : Int) - 1) = (w : Int) by omega] at h
  exact Iz hw h
end Go.Proofs
namespace Go.Proofs
open Go Go.Pe Go.Pm
set_option maxRecDepth 100000
set_option linter.unusedVariables false
attribute [local irreducible] lv
theorem W_rpEE1 {v q k0 n0 k1 n1 k2 n2 k3 n3 : Nat} {l0 l1 l2 l3 : Liz} (hv : v < 18446744073709551616) (hq : v / 524288 = q) (hq2 : q ≤ 65536) (c1 : Pt 76 [(0, bwE)] [.at 0 [], .int .i64 q] [(0, bwE)] (.tup [])) (c2 : Pt 77 [(0, bwE)] [.at 0 [], .int .u64 0, .int .i64 1] [(0, bwR 1 k2 n2), (1, bwB k2 l2)] (.tup [])) (c3 : Pt 77 [(0, bwR 1 k2 n2), (1, bwB k2 l2)] [.at 0 [], .int .u64 v, .int .i64 19] [(0, bwR 2 k3 n3), (2, bwB k3 l3)] (.tup [])) : Pt 48 [(0, bwE)] [.at 0 [], .int .i64 19, .int .u64 v] [(0, bwR 1 k3 n3), (1, bwB k3 l3)] (.int .i64 0) := by
 refine pO Try.func48 (by kernel_rfl) ?_
 have d0 := Cq (p := 19) (by omega)
 have hq3 : ((v / 524288 : Nat) : Int) = (q : Int) := by rw [hq]
 clear hq
 refine W.rtA [(2, c9 d0), (3, aV (I6 19)), (6, aV (U6 ↑(v / 524288))), (7, aV (U6 q)), (9, aF), (12, aV (I6 q)), (13, cC true [(0, 0)] c1), (15, cC true [(0, 0)] c2), (19, cC true [(0, 0), (305, 1)] c3)] [(0, 0), (370, 1)] [_, I6 ↑(19 : Nat) = I6 19, U6 (Int.fdiv (v:Int) ((2 : Int) ^ 19)) = U6 ↑(v / 524288), (0 : Int) ≤ 19, U6 ↑(v / 524288) = U6 q, decide ((q:Int) > 65536) = false, I6 (IntKind.wrap .i64 (q:Int)) = I6 q, _, _, _] (ac (d0) (ac (cg (by omega)) (ac (cg (Bd (y := 19) (s := 19) rfl rfl (by decide) (by omega))) (ac (by omega) (ac (cg (hq3)) (ac (dF (by omega)) (ac (wj (by omega)) (ac (c1) (ac (c2) (ao (c3)))))))))))
theorem W_rpE11 {v q k0 n0 k1 n1 k2 n2 k3 n3 : Nat} {l0 l1 l2 l3 : Liz} (hv : v < 18446744073709551616) (hq : v / 524288 = q) (hq2 : q ≤ 65536) (c1 : Pt 76 [(0, bwE)] [.at 0 [], .int .i64 q] [(0, bwR 1 k1 n1), (1, bwB k1 l1)] (.tup [])) (c2 : Pt 77 [(0, bwR 1 k1 n1), (1, bwB k1 l1)] [.at 0 [], .int .u64 0, .int .i64 1] [(0, bwR 1 k2 n2), (1, bwB k2 l2)] (.tup [])) (c3 : Pt 77 [(0, bwR 1 k2 n2), (1, bwB k2 l2)] [.at 0 [], .int .u64 v, .int .i64 19] [(0, bwR 2 k3 n3), (2, bwB k3 l3)] (.tup [])) : Pt 48 [(0, bwE)] [.at 0 [], .int .i64 19, .int .u64 v] [(0, bwR 1 k3 n3), (1, bwB k3 l3)] (.int .i64 0) := by
 refine pO Try.func48 (by kernel_rfl) ?_
 have d0 := Cq (p := 19) (by omega)
 have hq3 : ((v / 524288 : Nat) : Int) = (q : Int) := by rw [hq]
 clear hq
 refine W.rtA [(2, c9 d0), (3, aV (I6 19)), (6, aV (U6 ↑(v / 524288))), (7, aV (U6 q)), (9, aF), (12, aV (I6 q)), (13, cC true [(0, 0)] c1), (15, cC true [(0, 0), (273, 1)] c2), (19, cC true [(0, 0), (273, 1)] c3)] [(0, 0), (370, 1)] [_, I6 ↑(19 : Nat) = I6 19, U6 (Int.fdiv (v:Int) ((2 : Int) ^ 19)) = U6 ↑(v / 524288), (0 : Int) ≤ 19, U6 ↑(v / 524288) = U6 q, decide ((q:Int) > 65536) = false, I6 (IntKind.wrap .i64 (q:Int)) = I6 q, _, _, _] (ac (d0) (ac (cg (by omega)) (ac (cg (Bd (y := 19) (s := 19) rfl rfl (by decide) (by omega))) (ac (by omega) (ac (cg (hq3)) (ac (dF (by omega)) (ac (wj (by omega)) (ac (c1) (ac (c2) (ao (c3)))))))))))
theorem W_rpE12 {v q k0 n0 k1 n1 k2 n2 k3 n3 : Nat} {l0 l1 l2 l3 : Liz} (hv : v < 18446744073709551616) (hq : v / 524288 = q) (hq2 : q ≤ 65536) (c1 : Pt 76 [(0, bwE)] [.at 0 [], .int .i64 q] [(0, bwR 1 k1 n1), (1, bwB k1 l1)] (.tup [])) (c2 : Pt 77 [(0, bwR 1 k1 n1), (1, bwB k1 l1)] [.at 0 [], .int .u64 0, .int .i64 1] [(0, bwR 2 k2 n2), (2, bwB k2 l2)] (.tup [])) (c3 : Pt 77 [(0, bwR 1 k2 n2), (1, bwB k2 l2)] [.at 0 [], .int .u64 v, .int .i64 19] [(0, bwR 2 k3 n3), (2, bwB k3 l3)] (.tup [])) : Pt 48 [(0, bwE)] [.at 0 [], .int .i64 19, .int .u64 v] [(0, bwR 1 k3 n3), (1, bwB k3 l3)] (.int .i64 0) := by
 refine pO Try.func48 (by kernel_rfl) ?_
 have d0 := Cq (p := 19) (by omega)
 have hq3 : ((v / 524288 : Nat) : Int) = (q : Int) := by rw [hq]
 clear hq
 refine W.rtA [(2, c9 d0), (3, aV (I6 19)), (6, aV (U6 ↑(v / 524288))), (7, aV (U6 q)), (9, aF), (12, aV (I6 q)), (13, cC true [(0, 0)] c1), (15, cC true [(0, 0), (273, 1)] c2), (19, cC true [(0, 0), (306, 1)] c3)] [(0, 0), (370, 1)] [_, I6 ↑(19 : Nat) = I6 19, U6 (Int.fdiv (v:Int) ((2 : Int) ^ 19)) = U6 ↑(v / 524288), (0 : Int) ≤ 19, U6 ↑(v / 524288) = U6 q, decide ((q:Int) > 65536) = false, I6 (IntKind.wrap .i64 (q:Int)) = I6 q, _, _, _] (ac (d0) (ac (cg (by omega)) (ac (cg (Bd (y := 19) (s := 19) rfl rfl (by decide) (by omega))) (ac (by omega) (ac (cg (hq3)) (ac (dF (by omega)) (ac (wj (by omega)) (ac (c1) (ac (c2) (ao (c3)))))))))))
theorem W_rpF11 {v q k0 n0 k1 n1 k2 n2 k3 n3 : Nat} {l0 l1 l2 l3 : Liz} (hv : v < 18446744073709551616) (hq : v / 524288 = q) (hq2 : q ≤ 65536) (c1 : Pt 76 [(0, bwR 1 k0 n0), (1, bwB k0 l0)] [.at 0 [], .int .i64 q] [(0, bwR 1 k1 n1), (1, bwB k1 l1)] (.tup [])) (c2 : Pt 77 [(0, bwR 1 k1 n1), (1, bwB k1 l1)] [.at 0 [], .int .u64 0, .int .i64 1] [(0, bwR 1 k2 n2), (1, bwB k2 l2)] (.tup [])) (c3 : Pt 77 [(0, bwR 1 k2 n2), (1, bwB k2 l2)] [.at 0 [], .int .u64 v, .int .i64 19] [(0, bwR 2 k3 n3), (2, bwB k3 l3)] (.tup [])) : Pt 48 [(0, bwR 1 k0 n0), (1, bwB k0 l0)] [.at 0 [], .int .i64 19, .int .u64 v] [(0, bwR 2 k3 n3), (2, bwB k3 l3)] (.int .i64 0) := by
 refine pO Try.func48 (by kernel_rfl) ?_
 have d0 := Cq (p := 19) (by omega)
 have hq3 : ((v / 524288 : Nat) : Int) = (q : Int) := by rw [hq]
 clear hq
 refine W.rtA [(2, c9 d0), (3, aV (I6 19)), (6, aV (U6 ↑(v / 524288))), (7, aV (U6 q)), (9, aF), (12, aV (I6 q)), (13, cC true [(0, 0), (1, 1)] c1), (15, cC true [(0, 0), (1, 1)] c2), (19, cC true [(0, 0), (1, 1)] c3)] [(0, 0), (1, 1), (370, 2)] [_, I6 ↑(19 : Nat) = I6 19, U6 (Int.fdiv (v:Int) ((2 : Int) ^ 19)) = U6 ↑(v / 524288), (0 : Int) ≤ 19, U6 ↑(v / 524288) = U6 q, decide ((q:Int) > 65536) = false, I6 (IntKind.wrap .i64 (q:Int)) = I6 q, _, _, _] (ac (d0) (ac (cg (by omega)) (ac (cg (Bd (y := 19) (s := 19) rfl rfl (by decide) (by omega))) (ac (by omega) (ac (cg (hq3)) (ac (dF (by omega)) (ac (wj (by omega)) (ac (c1) (ac (c2) (ao (c3)))))))))))
theorem W_rpF12 {v q k0 n0 k1 n1 k2 n2 k3 n3 : Nat} {l0 l1 l2 l3 : Liz} (hv : v < 18446744073709551616) (hq : v / 524288 = q) (hq2 : q ≤ 65536) (c1 : Pt 76 [(0, bwR 1 k0 n0), (1, bwB k0 l0)] [.at 0 [], .int .i64 q] [(0, bwR 1 k1 n1), (1, bwB k1 l1)] (.tup [])) (c2 : Pt 77 [(0, bwR 1 k1 n1), (1, bwB k1 l1)] [.at 0 [], .int .u64 0, .int .i64 1] [(0, bwR 2 k2 n2), (2, bwB k2 l2)] (.tup [])) (c3 : Pt 77 [(0, bwR 1 k2 n2), (1, bwB k2 l2)] [.at 0 [], .int .u64 v, .int .i64 19] [(0, bwR 2 k3 n3), (2, bwB k3 l3)] (.tup [])) : Pt 48 [(0, bwR 1 k0 n0), (1, bwB k0 l0)] [.at 0 [], .int .i64 19, .int .u64 v] [(0, bwR 2 k3 n3), (2, bwB k3 l3)] (.int .i64 0) := by
 refine pO Try.func48 (by kernel_rfl) ?_
 have d0 := Cq (p := 19) (by omega)
 have hq3 : ((v / 524288 : Nat) : Int) = (q : Int) := by rw [hq]
 clear hq
 refine W.rtA [(2, c9 d0), (3, aV (I6 19)), (6, aV (U6 ↑(v / 524288))), (7, aV (U6 q)), (9, aF), (12, aV (I6 q)), (13, cC true [(0, 0), (1, 1)] c1), (15, cC true [(0, 0), (1, 1)] c2), (19, cC true [(0, 0), (306, 1)] c3)] [(0, 0), (1, 1), (370, 2)] [_, I6 ↑(19 : Nat) = I6 19, U6 (Int.fdiv (v:Int) ((2 : Int) ^ 19)) = U6 ↑(v / 524288), (0 : Int) ≤ 19, U6 ↑(v / 524288) = U6 q, decide ((q:Int) > 65536) = false, I6 (IntKind.wrap .i64 (q:Int)) = I6 q, _, _, _] (ac (d0) (ac (cg (by omega)) (ac (cg (Bd (y := 19) (s := 19) rfl rfl (by decide) (by omega))) (ac (by omega) (ac (cg (hq3)) (ac (dF (by omega)) (ac (wj (by omega)) (ac (c1) (ac (c2) (ao (c3)))))))))))
theorem W_rpF21 {v q k0 n0 k1 n1 k2 n2 k3 n3 : Nat} {l0 l1 l2 l3 : Liz} (hv : v < 18446744073709551616) (hq : v / 524288 = q) (hq2 : q ≤ 65536) (c1 : Pt 76 [(0, bwR 1 k0 n0), (1, bwB k0 l0)] [.at 0 [], .int .i64 q] [(0, bwR 2 k1 n1), (2, bwB k1 l1)] (.tup [])) (c2 : Pt 77 [(0, bwR 1 k1 n1), (1, bwB k1 l1)] [.at 0 [], .int .u64 0, .int .i64 1] [(0, bwR 1 k2 n2), (1, bwB k2 l2)] (.tup [])) (c3 : Pt 77 [(0, bwR 1 k2 n2), (1, bwB k2 l2)] [.at 0 [], .int .u64 v, .int .i64 19] [(0, bwR 2 k3 n3), (2, bwB k3 l3)] (.tup [])) : Pt 48 [(0, bwR 1 k0 n0), (1, bwB k0 l0)] [.at 0 [], .int .i64 19, .int .u64 v] [(0, bwR 2 k3 n3), (2, bwB k3 l3)] (.int .i64 0) := by
 refine pO Try.func48 (by kernel_rfl) ?_
 have d0 := Cq (p := 19) (by omega)
 have hq3 : ((v / 524288 : Nat) : Int) = (q : Int) := by rw [hq]
 clear hq
 refine W.rtA [(2, c9 d0), (3, aV (I6 19)), (6, aV (U6 ↑(v / 524288))), (7, aV (U6 q)), (9, aF), (12, aV (I6 q)), (13, cC true [(0, 0), (1, 1)] c1), (15, cC true [(0, 0), (274, 1)] c2), (19, cC true [(0, 0), (274, 1)] c3)] [(0, 0), (1, 1), (370, 2)] [_, I6 ↑(19 : Nat) = I6 19, U6 (Int.fdiv (v:Int) ((2 : Int) ^ 19)) = U6 ↑(v / 524288), (0 : Int) ≤ 19, U6 ↑(v / 524288) = U6 q, decide ((q:Int) > 65536) = false, I6 (IntKind.wrap .i64 (q:Int)) = I6 q, _, _, _] (ac (d0) (ac (cg (by omega)) (ac (cg (Bd (y := 19) (s := 19) rfl rfl (by decide) (by omega))) (ac (by omega) (ac (cg (hq3)) (ac (dF (by omega)) (ac (wj (by omega)) (ac (c1) (ac (c2) (ao (c3)))))))))))
theorem W_rpF22 {v q k0 n0 k1 n1 k2 n2 k3 n3 : Nat} {l0 l1 l2 l3 : Liz} (hv : v < 18446744073709551616) (hq : v / 524288 = q) (hq2 : q ≤ 65536) (c1 : Pt 76 [(0, bwR 1 k0 n0), (1, bwB k0 l0)] [.at 0 [], .int .i64 q] [(0, bwR 2 k1 n1), (2, bwB k1 l1)] (.tup [])) (c2 : Pt 77 [(0, bwR 1 k1 n1), (1, bwB k1 l1)] [.at 0 [], .int .u64 0, .int .i64 1] [(0, bwR 2 k2 n2), (2, bwB k2 l2)] (.tup [])) (c3 : Pt 77 [(0, bwR 1 k2 n2), (1, bwB k2 l2)] [.at 0 [], .int .u64 v, .int .i64 19] [(0, bwR 2 k3 n3), (2, bwB k3 l3)] (.tup [])) : Pt 48 [(0, bwR 1 k0 n0), (1, bwB k0 l0)] [.at 0 [], .int .i64 19, .int .u64 v] [(0, bwR 2 k3 n3), (2, bwB k3 l3)] (.int .i64 0) := by
 refine pO Try.func48 (by kernel_rfl) ?_
 have d0 := Cq (p := 19) (by omega)
 have hq3 : ((v / 524288 : Nat) : Int) = (q : Int) := by rw [hq]
 clear hq
 refine W.rtA [(2, c9 d0), (3, aV (I6 19)), (6, aV (U6 ↑(v / 524288))), (7, aV (U6 q)), (9, aF), (12, aV (I6 q)), (13, cC true [(0, 0), (1, 1)] c1), (15, cC true [(0, 0), (274, 1)] c2), (19, cC true [(0, 0), (306, 1)] c3)] [(0, 0), (1, 1), (370, 2)] [_, I6 ↑(19 : Nat) = I6 19, U6 (Int.fdiv (v:Int) ((2 : Int) ^ 19)) = U6 ↑(v / 524288), (0 : Int) ≤ 19, U6 ↑(v / 524288) = U6 q, decide ((q:Int) > 65536) = false, I6 (IntKind.wrap .i64 (q:Int)) = I6 q, _, _, _] (ac (d0) (ac (cg (by omega)) (ac (cg (Bd (y := 19) (s := 19) rfl rfl (by decide) (by omega))) (ac (by omega) (ac (cg (hq3)) (ac (dF (by omega)) (ac (wj (by omega)) (ac (c1) (ac (c2) (ao (c3)))))))))))
def BZ (v : Nat) : List Nat := List.replicate (v / 524288) 1 ++ Bg 0 1 ++ Bg v 19
theorem EA (v : Nat) : Bits (BZ v) := ((F6 _).append (DJ 0 1)).append (DJ v 19)
theorem Di (v : Nat) : (BZ v).length = v / 524288 + 20 := by
 unfold BZ
 rw [List.length_append, List.length_append, Bp, Bp, List.length_replicate]
theorem Mi {A B : List Nat} (h : B ≠ []) : A ++ B ≠ [] := fun e => h (List.append_eq_nil_iff.1 e).2
theorem Jr (v w : Nat) : Bg v (w + 1) ≠ [] := by rw [Bg]; exact List.cons_ne_nil _ _
theorem Te {v : Nat} (hv : v < 18446744073709551616) (hq : v / 524288 ≤ 65536) : Pt 48 [(0, bwE)] [.at 0 [], .int .i64 19, .int .u64 v] (bwF 1 (BZ v)) (.int .i64 0) := by
 have hB0 : Bits (Bg 0 1) := DJ 0 1
 unfold BZ
 by_cases h0 : v / 524288 = 0
 ·rw [h0, List.replicate_zero, List.nil_append]
  exact W_rpEE1 (k0 := 0) (n0 := 0) (l0 := []) (k1 := 0) (n1 := 0) (l1 := []) hv h0 (by omega) QV (pc_putE (v := 0) (w := 0) (by decide) (by omega)) (LM (w := 18) hv (by omega) (by omega) hB0 (Jr 0 0) (by rw [Bp]; omega))
 ·obtain ⟨q, hq1⟩ : ∃ q, v / 524288 = q + 1 := ⟨v / 524288 - 1, by omega⟩
  rw [hq1]
  have hne : List.replicate (q + 1) 1 ≠ [] := by rw [List.replicate_succ]; exact List.cons_ne_nil _ _
  have hb1 := F6 (q + 1)
  have c3 := LM (v := v) (w := 18) (B := List.replicate (q + 1) 1 ++ Bg 0 1) hv (by omega) (by omega) (hb1.append hB0) (Mi (Jr 0 0)) (by rw [List.length_append, Bp, List.length_replicate]; omega)
  rcases PL (v := 0) (w := 0) (by decide) (by omega) hb1 hne (by rw [List.length_replicate]; omega) with c2 | c2
  ·exact W_rpE11 (k0 := 0) (n0 := 0) (l0 := []) hv hq1 (by omega) (NQ (by omega)) c2 c3
  ·exact W_rpE12 (k0 := 0) (n0 := 0) (l0 := []) hv hq1 (by omega) (NQ (by omega)) c2 c3
theorem Rp {v : Nat} {B : List Nat} (hv : v < 18446744073709551616) (hq : v / 524288 ≤ 65536) (hB : Bits B) (hne : B ≠ []) (hl : B.length ≤ 900000) : Pt 48 (bwF 1 B) [.at 0 [], .int .i64 19, .int .u64 v] (bwF 2 (B ++ BZ v)) (.int .i64 0) := by
 have hB0 : Bits (Bg 0 1) := DJ 0 1
 unfold BZ
 rw [← List.append_assoc, ← List.append_assoc]
 generalize hqq : v / 524288 = q at *
 have hb1 := hB.append (F6 q)
 have hne1 : B ++ List.replicate q 1 ≠ [] := fun e => hne (List.append_eq_nil_iff.1 e).1
 have hl1 : (B ++ List.replicate q 1).length = B.length + q := by rw [List.length_append, List.length_replicate]
 have c3 := LM (v := v) (w := 18) (B := B ++ List.replicate q 1 ++ Bg 0 1) hv (by omega) (by omega) (hb1.append hB0) (Mi (Jr 0 0)) (by rw [List.length_append, Bp]; omega)
 rcases SG hq hB hne (by omega) with c1 | c1 <;> rcases PL (v := 0) (w := 0) (by decide) (by omega) hb1 hne1 (by omega) with c2 | c2
 ·exact W_rpF11 hv hqq hq c1 c2 c3
 ·exact W_rpF12 hv hqq hq c1 c2 c3
 ·exact W_rpF21 hv hqq hq c1 c2 c3
 ·exact W_rpF22 hv hqq hq c1 c2 c3
def dS0 (nl : Bool) (n : Nat) (L : List Int) : DS := ⟨[(0, .int .i64 19), (6, .at 0 []), (7, .int .u64 0), (12, .vec nl (.iarr .u64 n L)), (13, .int .i64 n), (14, .int .i64 0)], [(0, bwE)]⟩
def dS1 (nl : Bool) (n i s k m : Nat) (L l : List Int) : DS := ⟨[(0, .int .i64 19), (6, .at 0 []), (7, .int .u64 s), (12, .vec nl (.iarr .u64 n L)), (13, .int .i64 n), (14, .int .i64 i)], [(0, bwR 1 k m), (1, bwB k l)]⟩
theorem SA {nl : Bool} {n : Nat} {L : Liz} {hout : Lrz} {res : PV} (hw : Wt Try.f22 [] hout res (Aa Try.f22 0) (dS0 nl n L)) : Pt 22 [] [.int .i64 19, .vec nl (.iarr .u64 n L)] hout res := by
 refine pO Try.func22 (by kernel_rfl) ?_
 have c1 := SV
 refine W.sgA 0 [(2, c9 c1)] [(96, 0)] (dS0 nl n L) [_] (ao (c1)) ?_
 exact hw
theorem W_st0 {nl : Bool} {n x k m : Nat} {L l : Liz} {hout : Lrz} {res : PV} (hn : n ≤ 100000) (h0 : 0 < n) (g : L.getD 0 0 = (x : Int)) (hx : x < 18446744073709551616) (c1 : Pt 48 [(0, bwE)] [.at 0 [], .int .i64 19, .int .u64 x] [(0, bwR 1 k m), (1, bwB k l)] (.int .i64 0))
  (hw : Wt Try.f22 [] hout res (Aa Try.f22 0) (dS1 nl n 1 x k m L l)) : Wt Try.f22 [] hout res (Aa Try.f22 0) (dS0 nl n L) := by
 refine W.sgA 0 [(0, aT), (2, aV (U6 x)), (11, aV (U6 x)), (12, cC true [(0, 0)] c1), (18, aV (I6 1))] [(0, 0), (257, 1)] (dS1 nl n 1 x k m L l) [decide (0 < (n:Int)) = true, (0 : Int) ≤ 0, 0 < (n:Int), U6 (List.getD L 0 (0 : Int)) = U6 x, 0 < n, U6 (IntKind.wrap .u64 ((x:Int) - 0)) = U6 x, _, I6 (IntKind.wrap .i64 ((0 : Int) + (1 : Int))) = I6 1] (ac (dT (by omega)) (ob2 (by omega) (ac (cg (g)) (ac (by omega) (ac (cg (Ak rfl (by omega) (by omega))) (ac (c1) (ao (wj (by omega))))))))) ?_
 exact hw
theorem W_st1 {nl : Bool} {n i s d k m k2 m2 : Nat} {L l l2 : Liz} {hout : Lrz} {res : PV} (hn : n ≤ 100000) (hi : i < n) (g : L.getD i 0 = ((s + d : Nat) : Int)) (hx : s + d < 18446744073709551616) (c1 : Pt 48 [(0, bwR 1 k m), (1, bwB k l)] [.at 0 [], .int .i64 19, .int .u64 d] [(0, bwR 2 k2 m2), (2, bwB k2 l2)] (.int .i64 0))
  (hw : Wt Try.f22 [] hout res (Aa Try.f22 0) (dS1 nl n (i + 1) (s + d) k2 m2 L l2)) : Wt Try.f22 [] hout res (Aa Try.f22 0) (dS1 nl n i s k m L l) := by
 refine W.sgA 0 [(0, aT), (2, aV (U6 ↑(s + d))), (6, aF), (11, aV (U6 d)), (12, cC true [(0, 0), (1, 1)] c1), (18, aV (I6 ↑(i + 1)))] [(0, 0), (258, 1)] (dS1 nl n (i + 1) (s + d) k2 m2 L l2) [decide ((i:Int) < (n:Int)) = true, 0 ≤ (i:Int), (i:Int) < (n:Int), U6 (List.getD L i (0 : Int)) = U6 ↑(s + d), i < n, decide ((↑(s + d) : Int) < (s:Int)) = false, U6 (IntKind.wrap .u64 ((↑(s + d) : Int) - (s:Int))) = U6 d, _, I6 (IntKind.wrap .i64 ((i:Int) + 1)) = I6 ↑(i + 1)] (ac (dT (by omega)) (ob2 (by omega) (ac (cg (g)) (ac (by omega) (ac (dF (by omega)) (ac (cg (Ak (by omega) (by omega) (by omega))) (ac (c1) (ao (wj (by omega)))))))))) ?_
 exact hw
theorem OP {k m : Nat} {l : Liz} (hl : l.length = k) (hk : k ≤ 1000000) : Pt 49 [(0, bwR 1 k m), (1, bwB k l)] [.at 0 []] [(0, bwR 1 k m), (1, ⟨.iarr .u8 k l, true⟩)] (.vec false (.iarr .u8 k l)) := by
 refine pO Try.func49 (by kernel_rfl) ?_
 have c1 := Eu (nl := false) (show k ≤ 1000000000 by omega) hl (fun x => by cases x)
 have ht : l.take k = l := List.take_of_length_le (by omega)
 refine W.rtA [(5, cL false [] c1)] [(0, 0), (1, 1)] [0 + k ≤ k, rr ([] : List (Nat × Row)), ([PV.vec false (B8 k (List.take k l))] : List PV) = [PV.vec false (B8 k l)], _] (ac (by omega) (ac rfl (ac (by rw [List.take_of_length_le (show List.length l ≤ k by omega)]) (ao (c1)))))
theorem Nv : Pt 49 [(0, bwE)] [.at 0 []] [(0, bwE)] (.vec true (.iarr .u8 0 [])) := by
 refine pO Try.func49 (by kernel_rfl) ?_
 have c1 := Eu (nl := true) (n := 0) (l := []) (by omega) rfl (fun _ => rfl)
 refine W.rtA [(5, c9 c1)] [(0, 0)] [_] (ao (c1))
theorem W_stE {nl : Bool} {n s k m : Nat} {L l : Liz} (hl : l.length = k) (hk : k ≤ 1000000) : Wt Try.f22 [] [] (.tup [.vec false (.iarr .u8 k l), .int .i64 0]) (Aa Try.f22 0) (dS1 nl n n s k m L l) := by
 have c1 := OP (m := m) hl hk
 refine W.rtA [(0, aF), (2, cC false [(0, 0), (1, 1)] c1)] [] [decide ((n:Int) < (n:Int)) = false, _] (ac (dF (by omega)) (ao (c1)))
theorem W_stE0 {nl : Bool} {L : Liz} : Wt Try.f22 [] [] (.tup [.vec true (.iarr .u8 0 []), .int .i64 0]) (Aa Try.f22 0) (dS0 nl 0 L) := by
 have c1 := Nv
 refine W.rtA [(2, cC true [(0, 0)] c1)] [] [_] (ao (c1))
def inL (l : List Nat) : List Int := l.map fun x : Nat => (x : Int)
def stB : Nat → List Nat → List Nat
 | _, [] => []
 | s, x :: l => BZ (x - s) ++ stB x l
def K6 : Nat → List Nat → Prop
 | _, [] => True
 | s, x :: l => s ≤ x ∧ K6 x l
theorem Pw (v : Nat) : BZ v ≠ [] := Mi (Jr v 18)
theorem FE : ∀ (l : List Nat) (s : Nat), Bits (stB s l)
 | [], s => Bits.nil
 | x :: l, s => (EA _).append (FE l x)
theorem W_st {nl : Bool} {n : Nat} {L : Liz} (hn : n ≤ 2000) : ∀ (r : List Nat) (i s : Nat) (B : List Nat), i + r.length = n → L.drop i = inL r → K6 s r → (∀ x ∈ r, x < 1073741824) → Bits B → B ≠ [] → B.length ≤ 20 * i + s / 524288 → s < 1073741824 →
  Wt Try.f22 [] [] (.tup [.vec false (.iarr .u8 (pk (B ++ stB s r)).length (pk (B ++ stB s r))), .int .i64 0]) (Aa Try.f22 0) (dS1 nl n i s (pk B).length B.length L (pk B))
 | [], i, s, B, hi, hL, hr, hx, hB, h0, hb, hs => by
  obtain rfl : i = n := by simpa using hi
  have := Bi B
  rw [stB, List.append_nil]
  exact W_stE rfl (by omega)
 | x :: r, i, s, B, hi, hL, hr, hx, hB, h0, hb, hs => by
  rw [List.length_cons] at hi
  have hin : i < L.length := by
   rcases Nat.lt_or_ge i L.length with h | h
   ·exact h
   ·rw [List.drop_of_length_le h] at hL; cases hL
  have e1 : L.drop i = L[i] :: L.drop (i + 1) := List.drop_eq_getElem_cons hin
  rw [e1] at hL
  obtain ⟨g1, g2⟩ := List.cons.inj hL
  have g : L.getD i 0 = ((s + (x - s) : Nat) : Int) := by
   rw [List.getD_eq_getElem?_getD, List.getElem?_eq_getElem hin, show s + (x - s) = x by have := hr.1; omega]
   exact g1
  have hxx := hx x (by simp)
  have hlen := Di (x - s)
  have hd : (x - s) / 524288 + s / 524288 ≤ x / 524288 := by have := hr.1; omega
  have c1 := Rp (v := x - s) (by omega) (by omega) hB h0 (by omega)
  have ih := W_st (nl := nl) (L := L) hn r (i + 1) x (B ++ BZ (x - s)) (by omega) g2 hr.2 (fun y hy => hx y (by simp [hy])) (hB.append (EA _)) (Mi (Pw _)) (by rw [List.length_append, hlen]; omega) hxx
  rw [stB, ← List.append_assoc]
  have ih2 := W_st1 (n := n) (s := s) (d := x - s) (by omega) (by omega) g (by omega) c1 (by rw [show s + (x - s) = x by have := hr.1; omega]; exact ih)
  exact ih2
theorem RH {nl : Bool} {n : Nat} {r : List Nat} (hn : n ≤ 2000) (hl : r.length = n) (h0 : 0 < n) (hr : K6 0 r) (hx : ∀ x ∈ r, x < 1073741824) : Pt 22 [] [.int .i64 19, .vec nl (.iarr .u64 n (inL r))] [] (.tup [.vec false (.iarr .u8 (pk (stB 0 r)).length (pk (stB 0 r))), .int .i64 0]) := by
 cases r with
 | nil => rw [List.length_nil] at hl; omega
 | cons x r =>
  rw [List.length_cons] at hl
  have hxx := hx x (by simp)
  have hlen := Di x
  have c1 := Te (v := x) (by omega) (by omega)
  have hw := W_st (nl := nl) (n := n) (L := inL (x :: r)) hn r 1 x (BZ x) (by omega) rfl hr.2 (fun y hy => hx y (by simp [hy])) (EA _) (Pw _) (by omega) hxx
  rw [stB, Nat.sub_zero]
  exact SA (W_st0 (by omega) h0 rfl (by omega) c1 hw)
theorem QO {nl : Bool} : Pt 22 [] [.int .i64 19, .vec nl (.iarr .u64 0 [])] [] (.tup [.vec true (.iarr .u8 0 []), .int .i64 0]) := SA W_stE0
end Go.Proofs
namespace Go.Proofs
open Go Go.Pe Go.Pm
set_option maxRecDepth 100000
set_option linter.unusedVariables false
attribute [local irreducible] lv
theorem QH {x : Nat} (hx : x < 253) : Pt 21 [(0, wrN)] [.at 0 [], .int .u64 x] [(0, wrR 2 1), (2, BV 1 (le x 1))] (.tup []) := by
 refine pO Try.func21 (by kernel_rfl) ?_
 have c1 := KT (x := x) (w := 1) (by omega) (by omega) (by omega)
 refine W.rtA [(1, aT), (5, cC true [(0, 0)] c1)] [(0, 0), (146, 2)] [decide ((x:Int) < 253) = true, _] (ac (dT (by omega)) (ao (c1)))
theorem Qk {x : Nat} (hx : ¬ x < 253) (hx2 : x < 65536) : Pt 21 [(0, wrN)] [.at 0 [], .int .u64 x] [(0, wrR 2 3), (2, BV 3 (le 253 1 ++ le x 2))] (.tup []) := by
 refine pO Try.func21 (by kernel_rfl) ?_
 have c1 := KT (x := 253) (w := 1) (by omega) (by omega) (by omega)
 have c2 := Sr (x := x) (w := 2) (n := 1) (l := le 253 1) (by omega) (by omega) (Ay _ _) (by omega)
 refine W.rtA [(1, aF), (4, aT), (7, cC true [(0, 0)] c1), (10, cC true [(0, 0), (178, 1)] c2)] [(0, 0), (226, 2)] [decide ((x:Int) < 253) = false, decide ((x:Int) ≤ 65535) = true, _, _] (ac (dF (by omega)) (ac (dT (by omega)) (ac (c1) (ao (c2)))))
def Cb (x : Nat) : List Int := if x < 253 then le x 1 else le 253 1 ++ le x 2
theorem Fy (x : Nat) : (Cb x).length = if x < 253 then 1 else 3 := by
 unfold Cb
 split
 ·exact Ay _ _
 ·rw [List.length_append, Ay, Ay]
theorem KY {x : Nat} (hx : x < 65536) : Pt 21 [(0, wrN)] [.at 0 [], .int .u64 x] [(0, wrR 2 (Cb x).length), (2, BV (Cb x).length (Cb x))] (.tup []) := by
 rw [Fy]
 unfold Cb
 by_cases h : x < 253
 ·rw [if_pos h, if_pos h]
  exact QH h
 ·rw [if_neg h, if_neg h]
  exact Qk h hx
theorem W_bld0 {nl : Bool} {k0 k1 : Int} {o : Liz} (c1 : Pt 19 [] [.vec nl (.parr 1 0 ish [])] [] (.vec true (.parr 1 0 ish [])))
  (c2 : Pt 21 [(0, wrN)] [.at 0 [], .int .u64 0] [(0, wrR 2 1), (2, BV 1 o)] (.tup [])) (c3 : Pt 23 [] [.iarr .u64 2 [k0, k1], .vec true (.parr 1 0 ish []), .int .u64 0] [(1, Ac 0 [])] (.ref 1 [] 1 0 0))
  (c4 : Pt 22 [] [.int .i64 19, .vec false (.iarr .u64 0 [])] [] (.tup [.vec true (.iarr .u8 0 []), .int .i64 0]))
  (c5 : Pt 24 [(0, wrR 1 1), (1, BV 1 o)] [.at 0 [], .vec false (.parr 1 1 ish [.vec true (.iarr .u8 0 [])])] [(0, wrR 2 1), (2, BV 1 o)] (.tup []))
  (c6 : Pt 25 [(0, wrR 1 1), (1, BV 1 o)] [.at 0 []] [(0, wrR 1 1), (1, BV 1 o), (2, BV 1 o)] (.ref 2 [] 1 0 1)) :
  Pt 11 [] [.iarr .u64 2 [k0, k1], .vec nl (.parr 1 0 ish [])] [(1, BV 1 o)] (.tup [.ref 1 [] 1 0 1, .int .i64 0]) := by
 refine pO Try.func11 (by kernel_rfl) ?_
 have c7 := NC
 refine W.rtA [(4, c9 c1), (7, aV (I6 0)), (9, c9 c7), (13, aV (I6 0)), (14, aV (U6 0)), (15, cC true [(209, 0)] c2), (19, aV (I6 0)), (20, aV (U6 0)), (21, aV (U6 0)), (22, c9 c3), (23, c9 c4), (34, cC true [(209, 0), (306, 1)] c5), (36, cC true [(209, 0), (610, 1)] c6)] [(642, 1)] [_, I6 ↑(0 : Nat) = I6 0, _, I6 ↑(0 : Nat) = I6 0, U6 (IntKind.wrap .u64 (0 : Int)) = U6 0, _, I6 ↑(0 : Nat) = I6 0, U6 (IntKind.wrap .u64 (0 : Int)) = U6 0, U6 (IntKind.wrap .u64 ((784931 : Int) * (0 : Int))) = U6 0, _, 0 ≤ 0, _, 1 ≤ 1, _, _] (ac (c1) (ac (cg (by omega)) (ac (c7) (ac (cg (by omega)) (ac (cg (Ak rfl (by omega) (by omega))) (ac (c2) (ac (cg (by omega)) (ac (cg (Ak rfl (by omega) (by omega))) (ac (cg (Ak rfl (by omega) (by omega))) (ac (c3) (ac (by omega) (ac (c4) (ac (by omega) (ac (c5) (ao (c6))))))))))))))))
theorem W_bld {nl : Bool} {n k a b m t : Nat} {k0 k1 : Int} {M U : Lpz} {nums o s q : Liz} (hn : n ≤ 1000000) (hk : k ≤ 1000) (hU : U.length = k) (hL : nums.length = k) (ht : k * 784931 = t) (c1 : Pt 19 [] [.vec nl (.parr 1 n ish M)] [(1, ⟨.parr 1 k ish U, false⟩)] (.ref 1 [] 1 0 k))
  (c2 : Pt 21 [(0, wrN)] [.at 0 [], .int .u64 k] [(0, wrR 2 a), (2, BV a o)] (.tup [])) (c3 : Pt 23 [] [.iarr .u64 2 [k0, k1], .vec false (.parr 1 k ish U), .int .u64 t] [(1, Ac k nums)] (.ref 1 [] 1 0 k))
  (c4 : Pt 22 [] [.int .i64 19, .vec false (.iarr .u64 k nums)] [] (.tup [.vec false (.iarr .u8 b s), .int .i64 0]))
  (c5 : Pt 24 [(0, wrR 1 a), (1, BV a o)] [.at 0 [], .vec false (.parr 1 1 ish [.vec false (.iarr .u8 b s)])] [(0, wrR 2 m), (2, BV m q)] (.tup []))
  (c6 : Pt 25 [(0, wrR 1 m), (1, BV m q)] [.at 0 []] [(0, wrR 1 m), (1, BV m q), (2, BV m q)] (.ref 2 [] 1 0 m)) :
  Pt 11 [] [.iarr .u64 2 [k0, k1], .vec nl (.parr 1 n ish M)] [(1, BV m q)] (.tup [.ref 1 [] 1 0 m, .int .i64 0]) := by
 refine pO Try.func11 (by kernel_rfl) ?_
 have c7 := NC
 have h1 : U.take k = U := List.take_of_length_le (by omega)
 have h2 : nums.take k = nums := List.take_of_length_le (by omega)
 have h3 : ((784931 * k % 18446744073709551616 : Nat) : Int) = (t : Int) := by omega
 have h4 : ((784931 * k : Nat) : Int) = (t : Int) := by omega
 refine W.rtA [(4, c0 c1), (8, aF), (9, c9 c7), (14, aV (U6 k)), (15, cC true [(209, 0)] c2), (20, aV (U6 k)), (21, aV (U6 t)), (22, cL true [] c3), (23, cL false [] c4), (34, cC true [(209, 0), (306, 1)] c5), (36, cC true [(209, 0), (610, 1)] c6)] [(642, 1)] [_, decide ((k:Int) > 1000) = false, _, U6 (IntKind.wrap .u64 (k:Int)) = U6 k, _, U6 (IntKind.wrap .u64 (k:Int)) = U6 k, U6 (IntKind.wrap .u64 (784931 * (k:Int))) = U6 t, 0 + k ≤ k, rr ([] : List (Nat × Row)), ([B6 2 [k0, k1], PV.vec false (PV.parr 1 k (Sh.vec 1 (Sh.int .u8)) (List.take k U)), U6 t] : List PV) = [B6 2 [k0, k1], PV.vec false (PV.parr 1 k (Sh.vec 1 (Sh.int .u8)) U), U6 t], _, 0 + k ≤ k, rr ([] : List (Nat × Row)), ([I6 19, PV.vec false (B6 k (List.take k nums))] : List PV) = [I6 19, PV.vec false (B6 k nums)], _, 1 ≤ 1, _, _] (ac (c1) (ac (dF (by omega)) (ac (c7) (ac (cg (Ak rfl (by omega) (by omega))) (ac (c2) (ac (cg (Ak rfl (by omega) (by omega))) (ac (cg (Ak h4 (by omega) (by omega))) (ac (by omega) (ac rfl (ac (by rw [List.take_of_length_le (show List.length U ≤ k by omega)]) (ac (c3) (ac (by omega) (ac rfl (ac (by rw [List.take_of_length_le (show List.length nums ≤ k by omega)]) (ac (c4) (ac (by omega) (ac (c5) (ao (c6)))))))))))))))))))
end Go.Proofs
namespace Go.Proofs
open Go Go.Pe Go.Pm
set_option maxRecDepth 100000
set_option linter.unusedVariables false
attribute [local irreducible] lv
def JG (U : List It) (b : List Int) : Bool := U.any fun u => decide (u.2 = b)
def Bn : List It → List It → List It
 | U, [] => U
 | U, x :: l => if JG U x.2 = true then Bn U l else Bn (U ++ [x]) l
structure CY (x : It) : Prop where
 b : Bytes x.2
 nl : x.1 = true → x.2 = []
 len : x.2.length ≤ 1000000
theorem Pb : ∀ (U : List It), (∀ u ∈ U, Bytes u.2) → ∀ {b : List Int}, Bytes b → CO (ksI U) (.str (strOf b)) = JG U b
 | [], _, b, _ => rfl
 | u :: U, h, b, hb => by
  have ih := Pb U (fun v hv => h v (List.mem_cons_of_mem _ hv)) hb
  unfold CO ksI JG at ih ⊢
  rw [List.map_cons, List.any_cons, List.any_cons, ih]
  congr 1
  unfold D8
  rw [decide_eq_decide]
  exact ⟨fun e => (El hb (h u (by simp)) e).symm, fun e => by rw [e]⟩
theorem Lg : ∀ (K : List PV) (V : List Int) (q : PV), CO K q = false → AL K V q = 0
 | [], V, q, _ => by cases V <;> rfl
 | k :: K, [], q, _ => rfl
 | k :: K, v :: V, q, h => by
  unfold CO at h
  rw [List.any_cons, Bool.or_eq_false_iff] at h
  unfold AL
  rw [if_neg (by rw [h.1]; decide)]
  exact Lg K V q h.2
theorem NN : ∀ (K : List PV) (V : List Int) (s : ByteArray) (x : Int), CO K (.str s) = false → K.length = V.length → AL (K ++ [.str s]) (V ++ [x]) (.str s) = x
 | [], [], s, x, _, _ => by simp [AL, D8]
 | [], v :: V, s, x, _, h => by simp at h
 | k :: K, [], s, x, _, h => by simp at h
 | k :: K, v :: V, s, x, h, hl => by
  unfold CO at h
  rw [List.any_cons, Bool.or_eq_false_iff] at h
  rw [List.cons_append, List.cons_append]
  unfold AL
  rw [if_neg (by rw [h.1]; decide)]
  exact NN K V s x h.2 (by simpa using hl)
theorem NI : ∀ (K : List PV) (V : List Int) (q : PV), CO K q = true → K.length = V.length → AL K V q ∈ V
 | [], V, q, h, _ => by cases h
 | k :: K, [], q, _, h => by simp at h
 | k :: K, v :: V, q, h, hl => by
  unfold CO at h
  rw [List.any_cons, Bool.or_eq_true] at h
  unfold AL
  by_cases e : D8 q k = true
  ·rw [if_pos e]; simp
  ·rw [if_neg e]
   exact List.mem_cons_of_mem _ (NI K V q (h.resolve_left e) (by simpa using hl))
theorem ME : ∀ (K : List PV) (V : List Int) (q : PV) (x : Int), CO K q = true → K.length = V.length → AL K (Dj K V q x) q = x
 | [], V, q, x, h, _ => by cases h
 | k :: K, [], q, x, _, h => by simp at h
 | k :: K, v :: V, q, x, h, hl => by
  unfold CO at h
  rw [List.any_cons, Bool.or_eq_true] at h
  unfold Dj
  by_cases e : D8 q k = true
  ·rw [if_pos e]
   unfold AL
   rw [if_pos e]
  ·rw [if_neg e]
   unfold AL
   rw [if_neg e]
   exact ME K V q x (h.resolve_left e) (by simpa using hl)
theorem Po : ∀ (K : List PV) (V : List Int) (q : PV) (x : Int), (Dj K V q x).length = V.length ∧ ∀ y ∈ Dj K V q x, y = x ∨ y ∈ V
 | [], V, q, x => by
  cases V <;> exact ⟨rfl, fun y hy => .inr hy⟩
 | k :: K, [], q, x => ⟨rfl, fun y hy => .inr hy⟩
 | k :: K, v :: V, q, x => by
  unfold Dj
  split
  ·refine ⟨rfl, fun y hy => ?_⟩
   rcases List.mem_cons.1 hy with rfl | hy
   ·exact .inl rfl
   ·exact .inr (List.mem_cons_of_mem _ hy)
  ·have ih := Po K V q x
   refine ⟨by rw [List.length_cons, List.length_cons, ih.1], fun y hy => ?_⟩
   rcases List.mem_cons.1 hy with rfl | hy
   ·exact .inr (by simp)
   ·exact (ih.2 y hy).imp_right (List.mem_cons_of_mem _)
theorem D9 {I : List It} {i : Nat} (h : i < I.length) : (I.map itB).getD i .undef = .vec (I.getD i default).1 (.iarr .u8 (I.getD i default).2.length (I.getD i default).2) := by
 simp [List.getD_eq_getElem?_getD, h, itB]
theorem K3 {I : List It} (ho : ∀ x ∈ I, CY x) {i : Nat} (h : i < I.length) : CY (I.getD i default) := by
 have : I.getD i default = I[i] := by simp [List.getD_eq_getElem?_getD, h]
 rw [this]; exact ho _ (List.getElem_mem h)
theorem drop_at {α : Type} [Inhabited α] {I : List α} {i : Nat} (h : i < I.length) : I.drop i = I.getD i default :: I.drop (i + 1) := by
 rw [List.drop_eq_getElem_cons h]; simp [List.getD_eq_getElem?_getD, h]
theorem IB : ∀ (l U : List It), U.length ≤ (Bn U l).length ∧ (Bn U l).length ≤ U.length + l.length
 | [], U => ⟨Nat.le_refl _, by rw [Bn]; simp⟩
 | x :: l, U => by
  unfold Bn
  split
  ·have := IB l U
   rw [List.length_cons]; omega
  ·have := IB l (U ++ [x])
   rw [List.length_append, List.length_singleton] at this
   rw [List.length_cons]; omega
theorem Iq {P : It → Prop} : ∀ (l U : List It), (∀ x ∈ U, P x) → (∀ x ∈ l, P x) → ∀ x ∈ Bn U l, P x
 | [], U, hU, _ => hU
 | y :: l, U, hU, hl => by
  unfold Bn
  split
  ·exact Iq l U hU fun x hx => hl x (List.mem_cons_of_mem _ hx)
  ·refine Iq l (U ++ [y]) (fun x hx => ?_) fun x hx => hl x (List.mem_cons_of_mem _ hx)
   rcases List.mem_append.1 hx with hx | hx
   ·exact hU x hx
   ·rw [List.mem_singleton.1 hx]; exact hl y (by simp)
theorem W_un {nl : Bool} {I : List It} (hn : I.length ≤ 900000) (ho : ∀ x ∈ I, CY x) : ∀ (r i : Nat) (U : List It) (V : List Int), i + r = I.length → 0 < i → (∀ u ∈ U, CY u) → U.length ≤ i → V.length = U.length → (∀ v ∈ V, 1 ≤ v ∧ v ≤ (i : Int)) →
  Wt Try.f19 [] [(1, ⟨.parr 1 (Bn U (I.drop i)).length ish ((Bn U (I.drop i)).map itB), false⟩)] (.ref 1 [] 1 0 (Bn U (I.drop i)).length) (Aa Try.f19 0) (dU nl I.length i U.length (I.map itB) (ksI U) V (U.map itB))
 | 0, i, U, V, hk, h0, hU, hl, hV, hv => by
  obtain rfl : i = I.length := by omega
  rw [List.drop_of_length_le (Nat.le_refl _), Bn]
  exact W_uE
 | r + 1, i, U, V, hk, h0, hU, hl, hV, hv => by
  have hi : i < I.length := by omega
  have hx := K3 ho hi
  have g := D9 hi
  have hs := Pb U (fun u hu => (hU u hu).b) hx.b
  have hkl : (ksI U).length = V.length := by rw [hV]; simp [ksI]
  rw [drop_at hi, Bn]
  by_cases h : JG U (I.getD i default).2 = true
  ·rw [if_pos h]
   rw [h] at hs
   have hb := hv _ (NI _ V _ hs hkl)
   have hm := Po (ksI U) V (.str (strOf (I.getD i default).2)) (AL (ksI U) V (.str (strOf (I.getD i default).2)) + 1)
   have hw := W_un (nl := nl) hn ho r (i + 1) U (Dj (ksI U) V (.str (strOf (I.getD i default).2)) (AL (ksI U) V (.str (strOf (I.getD i default).2)) + 1)) (by omega) (by omega) hU (by omega) (by rw [hm.1, hV]) (fun v hv2 => by
    rcases hm.2 v hv2 with rfl | h3
    ·omega
    ·have := hv v h3; omega)
   exact W_uO hi (by omega) g rfl hb.1 (by omega) hs rfl (ME _ V _ _ hs hkl) hw
  ·rw [if_neg h]
   have hf : JG U (I.getD i default).2 = false := by simpa using h
   rw [hf] at hs
   have hw := W_un (nl := nl) hn ho r (i + 1) (U ++ [I.getD i default]) (V ++ [1]) (by omega) (by omega) (fun u hu => by
    rcases List.mem_append.1 hu with hu | hu
    ·exact hU u hu
    ·rw [List.mem_singleton.1 hu]; exact hx) (by rw [List.length_append, List.length_singleton]; omega) (by rw [List.length_append, List.length_append, hV]; rfl) (fun v hv2 => by
    rcases List.mem_append.1 hv2 with h3 | h3
    ·have := hv v h3; omega
    ·rw [List.mem_singleton.1 h3]; omega)
   have e1 : ksI (U ++ [I.getD i default]) = ksI U ++ [.str (strOf (I.getD i default).2)] := by unfold ksI; rw [List.map_append]; rfl
   have e2 : (U ++ [I.getD i default]).map itB = U.map itB ++ [.vec (I.getD i default).1 (.iarr .u8 (I.getD i default).2.length (I.getD i default).2)] := by rw [List.map_append]; rfl
   rw [e1, e2, List.length_append, List.length_singleton] at hw
   exact W_uN hi (by omega) hl (by rw [List.length_map]) g rfl hs (Lg _ V _ hs) (NN _ V _ 1 hs hkl) hw
theorem Qu {nl : Bool} {I : List It} (hn : I.length ≤ 900000) (h0 : 0 < I.length) (ho : ∀ x ∈ I, CY x) : Pt 19 [] [.vec nl (.parr 1 I.length ish (I.map itB))] [(1, ⟨.parr 1 (Bn [] I).length ish ((Bn [] I).map itB), false⟩)] (.ref 1 [] 1 0 (Bn [] I).length) := by
 refine W_uIn ?_
 have hx := K3 ho h0
 have e : Bn [] I = Bn [I.getD 0 default] (I.drop 1) := by
  have := drop_at h0
  rw [List.drop_zero] at this
  conv => lhs; rw [this]
  rw [Bn, if_neg (by simp [JG])]
  rfl
 rw [e]
 have hw := W_un (nl := nl) hn ho (I.length - 1) 1 [I.getD 0 default] [1] (by omega) (by omega) (fun u hu => by rw [List.mem_singleton.1 hu]; exact hx) (Nat.le_refl 1) rfl (fun v hv => by rw [List.mem_singleton.1 hv]; omega)
 exact W_ul0 h0 (by omega) (D9 h0) rfl hw
def Fb (k0 k1 t : Nat) (u : It) : Nat := sipM k0 k1 u.2 * t / 18446744073709551616
def Co (k0 k1 t : Nat) (U : List It) : List Int := U.map fun u => (Fb k0 k1 t u : Int)
theorem Hu {k0 k1 : Nat} {l : List Int} (h0 : k0 < 18446744073709551616) (h1 : k1 < 18446744073709551616) (hb : Bytes l) : sipM k0 k1 l < 18446744073709551616 := by
 have hB : ∀ (q : Nat) (v : V4) (l : List Int), v.Ok → Bytes l → (sipB v l q).Ok := by
  intro q
  induction q with
  | zero => intro v l hv _; exact hv
  | succ q ih => intro v l hv hb; exact ih _ _ (hv.tk (FB hb 8)) (hb.drop _)
 unfold sipM sipF sipE
 have hv := hB (l.length / 8) (KG k0 k1) l (Pz h0 h1) hb
 have hd : Bytes (l.drop (8 * (l.length / 8))) := hb.drop _
 have hdl : (l.drop (8 * (l.length / 8))).length < 8 := by rw [List.length_drop]; omega
 have hk := FB hd (l.drop (8 * (l.length / 8))).length
 have hk2 : 2 ^ (8 * (l.drop (8 * (l.length / 8))).length) ≤ 2 ^ 64 := Nat.pow_le_pow_right (by omega) (by omega)
 have ho : l.length % 256 * 72057594037927936 ||| lv (l.drop (8 * (l.length / 8))) (l.drop (8 * (l.length / 8))).length < 18446744073709551616 := Nat.or_lt_two_pow (n := 64) (by omega) (Nat.lt_of_lt_of_le hk hk2)
 have hw := hv.tk ho
 exact sipX_lt (V4.Ok.rnd (V4.Ok.rnd (V4.Ok.rnd (V4.Ok.rnd ⟨hw.a, hw.b, Cz hw.c (by decide), hw.d⟩))))
theorem num1_lt {k0 k1 t : Nat} {u : It} (h0 : k0 < 18446744073709551616) (h1 : k1 < 18446744073709551616) (hb : Bytes u.2) (ht : 0 < t) : Fb k0 k1 t u < t := by
 unfold Fb
 have := Hu h0 h1 hb
 rw [Nat.div_lt_iff_lt_mul (by decide), Nat.mul_comm]
 exact Nat.mul_lt_mul_of_pos_left this ht
theorem W_num {nl : Bool} {k0 k1 t : Nat} {U : List It} (h0 : k0 < 18446744073709551616) (h1 : k1 < 18446744073709551616) (ht : t < 18446744073709551616) (hn : U.length < 65536) (ho : ∀ x ∈ U, CY x) : ∀ (r i : Nat), i + r = U.length →
  Wt Try.f23 [] [(1, Ac U.length ((Co k0 k1 t U).mergeSort (fun x y => decide (x ≤ y))))] (.ref 1 [] 1 0 U.length) (Aa Try.f23 0) (dN0 nl U.length i t k0 k1 (U.map itB) ((Co k0 k1 t U).take i))
 | 0, i, hk => by
  obtain rfl : i = U.length := by omega
  have hl : (Co k0 k1 t U).length = U.length := by simp [Co]
  rw [List.take_of_length_le (by omega)]
  exact W_nE (Sa hn hl)
 | r + 1, i, hk => by
  have hi : i < U.length := by omega
  have hx := K3 ho hi
  have hs : (Co k0 k1 t U).take (i + 1) = (Co k0 k1 t U).take i ++ [((Fb k0 k1 t (U.getD i default) : Nat) : Int)] := by
   rw [List.take_add_one]
   congr 1
   simp [Co, List.getD_eq_getElem?_getD, hi]
  have ih := W_num (nl := nl) h0 h1 ht hn ho r (i + 1) (by omega)
  rw [hs] at ih
  exact W_nS hi (by omega) (by rw [List.length_take]; simp [Co]; omega) (D9 hi) rfl (Ie rfl hx.len h0 h1 hx.b) (DD (Hu h0 h1 hx.b) ht) ih
theorem JR {nl : Bool} {k0 k1 t : Nat} {U : List It} (h0 : k0 < 18446744073709551616) (h1 : k1 < 18446744073709551616) (ht : t < 18446744073709551616) (hn : U.length < 65536) (ho : ∀ x ∈ U, CY x) :
  Pt 23 [] [.iarr .u64 2 [(k0 : Int), (k1 : Int)], .vec nl (.parr 1 U.length ish (U.map itB)), .int .u64 t] [(1, Ac U.length ((Co k0 k1 t U).mergeSort (fun x y => decide (x ≤ y))))] (.ref 1 [] 1 0 U.length) :=
 W_nIn (by omega) (W_num h0 h1 ht hn ho U.length 0 (by omega))
end Go.Proofs
namespace Go.Proofs
open Go Go.Pe Go.Pm
set_option maxRecDepth 100000
set_option linter.unusedVariables false
attribute [local irreducible] lv
theorem Li (x : Int) : Pt 72 [] [.int .u64 x] [] (.bool false) := by
 refine pO Try.func72 (by kernel_rfl) ?_
 refine W.rtA [(3, aF)] [] [(x != x) = false] (ao (bne_eq_false_iff_eq.2 (by omega)))
def dBs (nl : Bool) (n i j : Nat) (x : Int) (L : List Int) : DS := ⟨[(0, .vec nl (.iarr .u64 n L)), (1, .int .u64 x), (6, .int .i64 n), (7, .int .i64 i), (8, .int .i64 j)], []⟩
def bsF (L : List Int) (x : Int) : Nat → Nat → Nat → Nat
 | 0, i, _ => i
 | k + 1, i, j => if i < j then (if L.getD ((i + j) / 2) 0 < x then bsF L x k ((i + j) / 2 + 1) j else bsF L x k i ((i + j) / 2)) else i
theorem W_bsL {nl : Bool} {n i j h : Nat} {x : Int} {L : Liz} {hout : Lrz} {res : PV} (hn : n ≤ 100000) (hij : i < j) (hj : j ≤ n) (hh : (i + j) / 2 = h) (g : L.getD h 0 < x)
  (hw : Wt Try.f44 [] hout res (Aa Try.f44 0) (dBs nl n (h + 1) j x L)) : Wt Try.f44 [] hout res (Aa Try.f44 0) (dBs nl n i j x L) := by
 have hh2 : (((i + j) / 2 : Nat) : Int) = (h : Int) := by rw [hh]
 have hhj : h < n := by omega
 clear hh
 refine W.sgA 0 [(2, aT), (5, aV (I6 ↑(i + j))), (6, aV (U6 ↑(i + j))), (7, aV (U6 ↑((i + j) / 2))), (8, aV (I6 h)), (15, aK (PV.bool true)), (17, aV (I6 ↑(h + 1)))] [] (dBs nl n (h + 1) j x L) [decide ((i:Int) < (j:Int)) = true, I6 (IntKind.wrap .i64 ((i:Int) + (j:Int))) = I6 ↑(i + j), U6 (IntKind.wrap .u64 (↑(i + j) : Int)) = U6 ↑(i + j), U6 (Int.fdiv (↑(i + j) : Int) ((2 : Int) ^ 1)) = U6 ↑((i + j) / 2), (0 : Int) ≤ 1, I6 (IntKind.wrap .i64 (↑((i + j) / 2) : Int)) = I6 h, 0 ≤ (h:Int), (h:Int) < (n:Int), h < n, Pt 71 [] [U6 (List.getD L h (0 : Int)), U6 x] [] (PV.bool true), I6 (IntKind.wrap .i64 ((h:Int) + 1)) = I6 ↑(h + 1)] (ac (dT (by omega)) (ac (wj (by omega)) (ac (cg (Ak rfl (by omega) (by omega))) (ac (cg (Bd (y := 1) (s := 1) rfl rfl (by decide) (by omega))) (ac (by omega) (ac (cg (Ab hh2 (by omega) (by omega))) (ob3 (by omega) (ac (A7 _ _ (by first | omega | decide)) (ao (wj (by omega))))))))))) ?_
 exact hw
theorem W_bsR {nl : Bool} {n i j h : Nat} {x : Int} {L : Liz} {hout : Lrz} {res : PV} (hn : n ≤ 100000) (hij : i < j) (hj : j ≤ n) (hh : (i + j) / 2 = h) (g : ¬ L.getD h 0 < x)
  (hw : Wt Try.f44 [] hout res (Aa Try.f44 0) (dBs nl n i h x L)) : Wt Try.f44 [] hout res (Aa Try.f44 0) (dBs nl n i j x L) := by
 have hh2 : (((i + j) / 2 : Nat) : Int) = (h : Int) := by rw [hh]
 have hhj : h < n := by omega
 clear hh
 refine W.sgA 0 [(2, aT), (5, aV (I6 ↑(i + j))), (6, aV (U6 ↑(i + j))), (7, aV (U6 ↑((i + j) / 2))), (8, aV (I6 h)), (15, aK (PV.bool false))] [] (dBs nl n i h x L) [decide ((i:Int) < (j:Int)) = true, I6 (IntKind.wrap .i64 ((i:Int) + (j:Int))) = I6 ↑(i + j), U6 (IntKind.wrap .u64 (↑(i + j) : Int)) = U6 ↑(i + j), U6 (Int.fdiv (↑(i + j) : Int) ((2 : Int) ^ 1)) = U6 ↑((i + j) / 2), (0 : Int) ≤ 1, I6 (IntKind.wrap .i64 (↑((i + j) / 2) : Int)) = I6 h, 0 ≤ (h:Int), (h:Int) < (n:Int), h < n, Pt 71 [] [U6 (List.getD L h (0 : Int)), U6 x] [] (PV.bool false)] (ac (dT (by omega)) (ac (wj (by omega)) (ac (cg (Ak rfl (by omega) (by omega))) (ac (cg (Bd (y := 1) (s := 1) rfl rfl (by decide) (by omega))) (ac (by omega) (ac (cg (Ab hh2 (by omega) (by omega))) (ob3 (by omega) (ao (Bw _ _ (by first | omega | decide)))))))))) ?_
 exact hw
theorem W_bsE {nl : Bool} {n i j : Nat} {x : Int} {L : Liz} (hn : n ≤ 100000) (hij : ¬ i < j) (hi : i ≤ n) : Wt Try.f44 [] [] (.tup [.int .i64 i, .bool (decide (i < n ∧ L.getD i 0 = x))]) (Aa Try.f44 0) (dBs nl n i j x L) := by
 have c1 := Li (L.getD i 0)
 have c2 := Li x
 by_cases h : i < n
 ·by_cases g : L.getD i 0 = x
  ·rw [decide_eq_true ⟨h, g⟩]
   refine W.rtA [(2, aF), (6, aT), (11, aV (U6 x)), (13, aT)] [] [decide ((i:Int) < (j:Int)) = false, decide ((i:Int) < (n:Int)) = true, 0 ≤ (i:Int), (i:Int) < (n:Int), U6 (List.getD L i (0 : Int)) = U6 x, i < n, (x == x) = true] (ac (dF (by omega)) (ac (dT (by omega)) (ob2 (by omega) (ac (cg (g)) (ac (by omega) (ao (dT (by omega))))))))
  ·rw [decide_eq_false (fun z => g z.2)]
   refine W.rtA [(2, aF), (6, aT), (13, aF), (19, c9 c1)] [] [decide ((i:Int) < (j:Int)) = false, decide ((i:Int) < (n:Int)) = true, 0 ≤ (i:Int), (i:Int) < (n:Int), i < n, (List.getD L i (0 : Int) == x) = false, 0 ≤ (i:Int), (i:Int) < (n:Int), i < n, _] (ac (dF (by omega)) (ac (dT (by omega)) (ob3 (by omega) (ac (dF (by omega)) (ob3 (by omega) (ao (c1)))))))
 ·rw [decide_eq_false (fun z => h z.1)]
  refine W.rtA [(2, aF), (6, aF)] [] [decide ((i:Int) < (j:Int)) = false, decide ((i:Int) < (n:Int)) = false] (ac (dF (by omega)) (ao (dF (by omega))))
theorem W_bs {nl : Bool} {n : Nat} {x : Int} {L : Liz} (hn : n ≤ 100000) : ∀ (k i j : Nat), j ≤ i + k → i ≤ n → j ≤ n →
  Wt Try.f44 [] [] (.tup [.int .i64 (bsF L x k i j), .bool (decide (bsF L x k i j < n ∧ L.getD (bsF L x k i j) 0 = x))]) (Aa Try.f44 0) (dBs nl n i j x L)
 | 0, i, j, hk, hi, hj => by
  unfold bsF
  exact W_bsE hn (by omega) hi
 | k + 1, i, j, hk, hi, hj => by
  unfold bsF
  by_cases h : i < j
  ·rw [if_pos h]
   by_cases g : L.getD ((i + j) / 2) 0 < x
   ·rw [if_pos g]
    exact W_bsL hn h hj rfl g (W_bs hn k _ _ (by omega) (by omega) hj)
   ·rw [if_neg g]
    exact W_bsR hn h hj rfl g (W_bs hn k _ _ (by omega) hi (by omega))
  ·rw [if_neg h]
   exact W_bsE hn h hi
theorem pc_bs {nl : Bool} {n : Nat} {x : Int} {L : Liz} (hn : n ≤ 100000) : Pt 44 [] [.vec nl (.iarr .u64 n L), .int .u64 x] [] (.tup [.int .i64 (bsF L x n 0 n), .bool (decide (bsF L x n 0 n < n ∧ L.getD (bsF L x n 0 n) 0 = x))]) := by
 refine pO Try.func44 (by kernel_rfl) ?_
 have hw := W_bs (nl := nl) (x := x) (L := L) hn n 0 n (by omega) (by omega) (by omega)
 generalize bsF L x n 0 n = r at *
 generalize decide (r < n ∧ L.getD r 0 = x) = d at *
 refine W.sgA 0 [] [] (dBs nl n 0 n x L) [] trivial ?_
 exact hw
def dAn (nl : Bool) (n i : Nat) (k0 k1 : Int) (M : List PV) : DS := ⟨[(3, .at 0 []), (8, AV), (10, .vec true (.iarr .i64 0 [])), (24, .vec nl (.parr 1 n ish M)), (25, .int .i64 n), (26, .int .i64 i)], [(0, ⟨.iarr .u64 2 [k0, k1], false⟩)]⟩
def dA0 (nl : Bool) (n i c : Nat) (k0 k1 : Int) (M : List PV) (L : List Int) : DS := ⟨[(3, .at 0 []), (8, .ref 1 [] 1 0 c), (10, .vec true (.iarr .i64 0 [])), (24, .vec nl (.parr 1 n ish M)), (25, .int .i64 n), (26, .int .i64 i)], [(0, ⟨.iarr .u64 2 [k0, k1], false⟩), (1, Ac c L)]⟩
def dA1 (nl : Bool) (n i c a : Nat) (k0 k1 : Int) (M : List PV) (L A : List Int) : DS := ⟨[(3, .at 0 []), (8, .ref 1 [] 1 0 c), (10, .ref 2 [] 1 0 a), (24, .vec nl (.parr 1 n ish M)), (25, .int .i64 n), (26, .int .i64 i)], [(0, ⟨.iarr .u64 2 [k0, k1], false⟩), (1, Ac c L), (2, ⟨.iarr .i64 a A, false⟩)]⟩
theorem W_anS {nl b : Bool} {n i m s : Nat} {k0 k1 : Int} {M : Lpz} {l : Liz} {hout : Lrz} {res : PV} (hi : i < n) (hn : n ≤ 100000) (g : M.getD i .undef = .vec b (.iarr .u8 m l)) (hl : l.length = m)
  (c1 : Pt 43 [] [.iarr .u64 2 [k0, k1], .vec b (.iarr .u8 m l)] [] (.int .u64 s)) (c2 : Pt 42 [] [.int .u64 s, .int .u64 0] [] (.int .u64 0)) (c3 : Pt 44 [] [AV, .int .u64 0] [] (.tup [.int .i64 0, .bool false]))
  (hw : Wt Try.f17 [] hout res (Aa Try.f17 0) (dAn nl n (i + 1) k0 k1 M)) : Wt Try.f17 [] hout res (Aa Try.f17 0) (dAn nl n i k0 k1 M) := by
 unfold dAn AV at *
 refine W.sgA 0 [(0, aT), (3, aE g), (8, c9 c1), (10, aV (I6 0)), (11, aV (U6 0)), (12, aV (U6 0)), (13, c9 c2), (17, c9 c3), (24, aV (I6 ↑(i + 1)))] [(0, 0)] (dAn nl n (i + 1) k0 k1 M) [decide ((i:Int) < (n:Int)) = true, 0 ≤ (i:Int), (i:Int) < (n:Int), _, i < n, _, I6 ↑(0 : Nat) = I6 0, U6 (IntKind.wrap .u64 (0 : Int)) = U6 0, U6 (IntKind.wrap .u64 ((784931 : Int) * (0 : Int))) = U6 0, _, _, I6 (IntKind.wrap .i64 ((i:Int) + 1)) = I6 ↑(i + 1)] (ac (dT (by omega)) (ob2 (by omega) (ac (ex g) (ac (by omega) (ac (c1) (ac (cg (by omega)) (ac (cg (Ak rfl (by omega) (by omega))) (ac (cg (Ak rfl (by omega) (by omega))) (ac (c2) (ac (c3) (ao (wj (by omega))))))))))))) ?_
 exact hw
theorem W_a0N {nl b : Bool} {n i m s c t x j : Nat} {k0 k1 : Int} {M : Lpz} {l L : Liz} {hout : Lrz} {res : PV} (hi : i < n) (hn : n ≤ 100000) (hc : c ≤ 1000) (hL : L.length = c) (ht : c * 784931 = t) (g : M.getD i .undef = .vec b (.iarr .u8 m l)) (hl : l.length = m)
  (c1 : Pt 43 [] [.iarr .u64 2 [k0, k1], .vec b (.iarr .u8 m l)] [] (.int .u64 s)) (c2 : Pt 42 [] [.int .u64 s, .int .u64 t] [] (.int .u64 x)) (c3 : Pt 44 [] [.vec false (.iarr .u64 c L), .int .u64 x] [] (.tup [.int .i64 j, .bool false]))
  (hw : Wt Try.f17 [] hout res (Aa Try.f17 0) (dA0 nl n (i + 1) c k0 k1 M L)) : Wt Try.f17 [] hout res (Aa Try.f17 0) (dA0 nl n i c k0 k1 M L) := by
 have h2 : L.take c = L := List.take_of_length_le (by omega)
 have h4 : ((784931 * c : Nat) : Int) = (t : Int) := by omega
 refine W.sgA 0 [(0, aT), (3, aE g), (8, c9 c1), (11, aV (U6 c)), (12, aV (U6 t)), (13, c9 c2), (17, cL true [] c3), (24, aV (I6 ↑(i + 1)))] [(0, 0), (1, 1)] (dA0 nl n (i + 1) c k0 k1 M L) [decide ((i:Int) < (n:Int)) = true, 0 ≤ (i:Int), (i:Int) < (n:Int), _, i < n, _, U6 (IntKind.wrap .u64 (c:Int)) = U6 c, U6 (IntKind.wrap .u64 (784931 * (c:Int))) = U6 t, _, 0 + c ≤ c, rr ([] : List (Nat × Row)), ([PV.vec false (B6 c (List.take c L)), U6 x] : List PV) = [PV.vec false (B6 c L), U6 x], _, I6 (IntKind.wrap .i64 ((i:Int) + 1)) = I6 ↑(i + 1)] (ac (dT (by omega)) (ob2 (by omega) (ac (ex g) (ac (by omega) (ac (c1) (ac (cg (Ak rfl (by omega) (by omega))) (ac (cg (Ak h4 (by omega) (by omega))) (ac (c2) (ac (by omega) (ac rfl (ac (by rw [List.take_of_length_le (show List.length L ≤ c by omega)]) (ac (c3) (ao (wj (by omega))))))))))))))) ?_
 exact hw
theorem W_a0Y {nl b : Bool} {n i m s c t x j : Nat} {k0 k1 : Int} {M : Lpz} {l L : Liz} {hout : Lrz} {res : PV} (hi : i < n) (hn : n ≤ 100000) (hc : c ≤ 1000) (hL : L.length = c) (ht : c * 784931 = t) (g : M.getD i .undef = .vec b (.iarr .u8 m l)) (hl : l.length = m)
  (c1 : Pt 43 [] [.iarr .u64 2 [k0, k1], .vec b (.iarr .u8 m l)] [] (.int .u64 s)) (c2 : Pt 42 [] [.int .u64 s, .int .u64 t] [] (.int .u64 x)) (c3 : Pt 44 [] [.vec false (.iarr .u64 c L), .int .u64 x] [] (.tup [.int .i64 j, .bool true]))
  (hw : Wt Try.f17 [] hout res (Aa Try.f17 0) (dA1 nl n (i + 1) c 1 k0 k1 M L [(i : Int)])) : Wt Try.f17 [] hout res (Aa Try.f17 0) (dA0 nl n i c k0 k1 M L) := by
 have h2 : L.take c = L := List.take_of_length_le (by omega)
 have h4 : ((784931 * c : Nat) : Int) = (t : Int) := by omega
 refine W.sgA 0 [(0, aT), (3, aE g), (8, c9 c1), (11, aV (U6 c)), (12, aV (U6 t)), (13, c9 c2), (17, cL true [] c3), (29, aV (I6 ↑(i + 1)))] [(0, 0), (1, 1), (496, 2)] (dA1 nl n (i + 1) c 1 k0 k1 M L [(i : Int)]) [decide ((i:Int) < (n:Int)) = true, 0 ≤ (i:Int), (i:Int) < (n:Int), _, i < n, _, U6 (IntKind.wrap .u64 (c:Int)) = U6 c, U6 (IntKind.wrap .u64 (784931 * (c:Int))) = U6 t, _, 0 + c ≤ c, rr ([] : List (Nat × Row)), ([PV.vec false (B6 c (List.take c L)), U6 x] : List PV) = [PV.vec false (B6 c L), U6 x], _, 1 ≤ 1, 0 < 1, 8 ≤ 140737488355328, 1 ≤ 9223372036854775807, I6 (IntKind.wrap .i64 ((i:Int) + 1)) = I6 ↑(i + 1)] (ac (dT (by omega)) (ob2 (by omega) (ac (ex g) (ac (by omega) (ac (c1) (ac (cg (Ak rfl (by omega) (by omega))) (ac (cg (Ak h4 (by omega) (by omega))) (ac (c2) (ac (by omega) (ac rfl (ac (by rw [List.take_of_length_le (show List.length L ≤ c by omega)]) (ac (c3) (ob4 (by omega) (ao (wj (by omega)))))))))))))))) ?_
 exact hw
theorem W_a1N {nl b : Bool} {n i m s c t x j a : Nat} {k0 k1 : Int} {M : Lpz} {l L A : Liz} {hout : Lrz} {res : PV} (hi : i < n) (hn : n ≤ 100000) (hc : c ≤ 1000) (hL : L.length = c) (ht : c * 784931 = t) (g : M.getD i .undef = .vec b (.iarr .u8 m l)) (hl : l.length = m)
  (c1 : Pt 43 [] [.iarr .u64 2 [k0, k1], .vec b (.iarr .u8 m l)] [] (.int .u64 s)) (c2 : Pt 42 [] [.int .u64 s, .int .u64 t] [] (.int .u64 x)) (c3 : Pt 44 [] [.vec false (.iarr .u64 c L), .int .u64 x] [] (.tup [.int .i64 j, .bool false]))
  (hw : Wt Try.f17 [] hout res (Aa Try.f17 0) (dA1 nl n (i + 1) c a k0 k1 M L A)) : Wt Try.f17 [] hout res (Aa Try.f17 0) (dA1 nl n i c a k0 k1 M L A) := by
 have h2 : L.take c = L := List.take_of_length_le (by omega)
 have h4 : ((784931 * c : Nat) : Int) = (t : Int) := by omega
 refine W.sgA 0 [(0, aT), (3, aE g), (8, c9 c1), (11, aV (U6 c)), (12, aV (U6 t)), (13, c9 c2), (17, cL true [] c3), (24, aV (I6 ↑(i + 1)))] [(0, 0), (1, 1), (2, 2)] (dA1 nl n (i + 1) c a k0 k1 M L A) [decide ((i:Int) < (n:Int)) = true, 0 ≤ (i:Int), (i:Int) < (n:Int), _, i < n, _, U6 (IntKind.wrap .u64 (c:Int)) = U6 c, U6 (IntKind.wrap .u64 (784931 * (c:Int))) = U6 t, _, 0 + c ≤ c, rr ([] : List (Nat × Row)), ([PV.vec false (B6 c (List.take c L)), U6 x] : List PV) = [PV.vec false (B6 c L), U6 x], _, I6 (IntKind.wrap .i64 ((i:Int) + 1)) = I6 ↑(i + 1)] (ac (dT (by omega)) (ob2 (by omega) (ac (ex g) (ac (by omega) (ac (c1) (ac (cg (Ak rfl (by omega) (by omega))) (ac (cg (Ak h4 (by omega) (by omega))) (ac (c2) (ac (by omega) (ac rfl (ac (by rw [List.take_of_length_le (show List.length L ≤ c by omega)]) (ac (c3) (ao (wj (by omega))))))))))))))) ?_
 exact hw
theorem W_a1Y {nl b : Bool} {n i m s c t x j a : Nat} {k0 k1 : Int} {M : Lpz} {l L A : Liz} {hout : Lrz} {res : PV} (hi : i < n) (hn : n ≤ 100000) (hc : c ≤ 1000) (hL : L.length = c) (ht : c * 784931 = t) (hA : A.length = a) (ha : a ≤ i) (g : M.getD i .undef = .vec b (.iarr .u8 m l)) (hl : l.length = m)
  (c1 : Pt 43 [] [.iarr .u64 2 [k0, k1], .vec b (.iarr .u8 m l)] [] (.int .u64 s)) (c2 : Pt 42 [] [.int .u64 s, .int .u64 t] [] (.int .u64 x)) (c3 : Pt 44 [] [.vec false (.iarr .u64 c L), .int .u64 x] [] (.tup [.int .i64 j, .bool true]))
  (hw : Wt Try.f17 [] hout res (Aa Try.f17 0) (dA1 nl n (i + 1) c (a + 1) k0 k1 M L (A ++ [(i : Int)]))) : Wt Try.f17 [] hout res (Aa Try.f17 0) (dA1 nl n i c a k0 k1 M L A) := by
 have h2 : L.take c = L := List.take_of_length_le (by omega)
 have h4 : ((784931 * c : Nat) : Int) = (t : Int) := by omega
 refine W.sgA 0 [(0, aT), (3, aE g), (8, c9 c1), (11, aV (U6 c)), (12, aV (U6 t)), (13, c9 c2), (17, cL true [] c3), (27, Ans.ups [(2, none), (496, some (Row.mk (BI (a + 1) (A ++ [(i:Int)])) false))]), (29, aV (I6 ↑(i + 1)))] [(0, 0), (1, 1), (496, 2)] (dA1 nl n (i + 1) c (a + 1) k0 k1 M L (A ++ [(i : Int)])) [decide ((i:Int) < (n:Int)) = true, 0 ≤ (i:Int), (i:Int) < (n:Int), _, i < n, _, U6 (IntKind.wrap .u64 (c:Int)) = U6 c, U6 (IntKind.wrap .u64 (784931 * (c:Int))) = U6 t, _, 0 + c ≤ c, rr ([] : List (Nat × Row)), ([PV.vec false (B6 c (List.take c L)), U6 x] : List PV) = [PV.vec false (B6 c L), U6 x], _, ([(2, none), (496, some (Row.mk (BI (a + 1) (List.take a A ++ [(i:Int)])) false))] : List (Nat × Option Row)) = [(2, none), (496, some (Row.mk (BI (a + 1) (A ++ [(i:Int)])) false))], 1 ≤ 1, 0 + a = a, (a + 1) * 8 ≤ 140737488355328, a + 1 ≤ 9223372036854775807, I6 (IntKind.wrap .i64 ((i:Int) + 1)) = I6 ↑(i + 1)] (ac (dT (by omega)) (ob2 (by omega) (ac (ex g) (ac (by omega) (ac (c1) (ac (cg (Ak rfl (by omega) (by omega))) (ac (cg (Ak h4 (by omega) (by omega))) (ac (c2) (ac (by omega) (ac rfl (ac (by rw [List.take_of_length_le (show List.length L ≤ c by omega)]) (ac (c3) (ac (by rw [List.take_of_length_le (show List.length A ≤ a by omega)]) (ac (by omega) (ac (by omega) (ob2 (by omega) (ao (wj (by omega))))))))))))))))))) ?_
 exact hw
def nilI : PV := .vec true (.iarr .i64 0 [])
theorem W_anE {nl : Bool} {n : Nat} {k0 k1 : Int} {M : Lpz} : Wt Try.f17 [] [] (.tup [nilI, .int .i64 0]) (Aa Try.f17 0) (dAn nl n n k0 k1 M) := by
 unfold nilI dAn AV
 refine W.rtA [(0, aF)] [] [decide ((n:Int) < (n:Int)) = false] (ao (dF (by omega)))
theorem W_a0E {nl : Bool} {n c : Nat} {k0 k1 : Int} {M : Lpz} {L : Liz} : Wt Try.f17 [] [] (.tup [nilI, .int .i64 0]) (Aa Try.f17 0) (dA0 nl n n c k0 k1 M L) := by
 unfold nilI
 refine W.rtA [(0, aF)] [] [decide ((n:Int) < (n:Int)) = false] (ao (dF (by omega)))
theorem W_a1E {nl : Bool} {n c a : Nat} {k0 k1 : Int} {M : Lpz} {L A : Liz} : Wt Try.f17 [] [(1, ⟨.iarr .i64 a A, false⟩)] (.tup [.ref 1 [] 1 0 a, .int .i64 0]) (Aa Try.f17 0) (dA1 nl n n c a k0 k1 M L A) := by
 refine W.rtA [(0, aF)] [(2, 1)] [decide ((n:Int) < (n:Int)) = false] (ao (dF (by omega)))
theorem W_anIn {nl nb : Bool} {n mb : Nat} {k0 k1 : Int} {M : Lpz} {b : Liz} {hout : Lrz} {res : PV} (c1 : Pt 14 [] [.vec nb (.iarr .u8 mb b)] [] (.tup [AV, .int .i64 0])) (hw : Wt Try.f17 [] hout res (Aa Try.f17 0) (dAn nl n 0 k0 k1 M)) :
  Pt 17 [] [.iarr .u64 2 [k0, k1], .vec nb (.iarr .u8 mb b), .vec nl (.parr 1 n ish M)] hout res := by
 refine pO Try.func17 (by kernel_rfl) ?_
 unfold AV at c1
 unfold dAn AV at hw
 refine W.sgA 0 [(4, c9 c1)] [(64, 0)] (dAn nl n 0 k0 k1 M) [_] (ao (c1)) ?_
 exact hw
theorem W_a0In {nl nb : Bool} {n mb c : Nat} {k0 k1 : Int} {M : Lpz} {b L : Liz} {hout : Lrz} {res : PV} (c1 : Pt 14 [] [.vec nb (.iarr .u8 mb b)] [(1, Ac c L)] (.tup [.ref 1 [] 1 0 c, .int .i64 0])) (hw : Wt Try.f17 [] hout res (Aa Try.f17 0) (dA0 nl n 0 c k0 k1 M L)) :
  Pt 17 [] [.iarr .u64 2 [k0, k1], .vec nb (.iarr .u8 mb b), .vec nl (.parr 1 n ish M)] hout res := by
 refine pO Try.func17 (by kernel_rfl) ?_
 refine W.sgA 0 [(4, c9 c1)] [(64, 0), (129, 1)] (dA0 nl n 0 c k0 k1 M L) [_] (ao (c1)) ?_
 exact hw
end Go.Proofs
namespace Go.Proofs
open Go Go.Pe Go.Pm
set_option linter.unusedVariables false
theorem byt_bit {g : Nat → Nat} (h : ∀ j, g j < 2) {r : Nat} (hr : r < 8) : byt g / 2 ^ (7 - r) % 2 = g r := by
 have h0 := h 0; have h1 := h 1; have h2 := h 2; have h3 := h 3; have h4 := h 4; have h5 := h 5; have h6 := h 6; have h7 := h 7
 unfold byt
 match r, hr with
 | 0, _ | 1, _ | 2, _ | 3, _ | 4, _ | 5, _ | 6, _ | 7, _ => simp only [Nat.reduceSub, Nat.reducePow]; omega
theorem PQ {B : List Nat} (hB : Bits B) {i : Nat} (hi : i < 8 * (pk B).length) : bt (pk B) i = B.getD i 0 := by
 have hl := Bi B
 unfold bt
 rw [Su (by omega), byt_bit (fun j => hB _) (Nat.mod_lt _ (by decide))]
 congr 1
 omega
theorem NA {B : List Nat} (hB : Bits B) : ∀ (q a k : Nat), a + k = 8 * (pk B).length → q < k → (∀ j, j < q → B.getD (a + j) 0 = 1) → B.getD (a + q) 0 = 0 → Az (pk B) a k = q
 | q, a, 0, hk, hq, _, _ => by omega
 | 0, a, k + 1, hk, hq, h1, h0 => by
  unfold Az
  rw [PQ hB (by omega), if_neg]
  rw [Nat.add_zero] at h0
  omega
 | q + 1, a, k + 1, hk, hq, h1, h0 => by
  unfold Az
  rw [PQ hB (by omega), if_pos (by have := h1 0 (by omega); rwa [Nat.add_zero] at this)]
  rw [NA hB q (a + 1) k (by omega) (by omega) (fun j hj => by have := h1 (j + 1) (by omega); rwa [show a + (j + 1) = a + 1 + j by omega] at this) (by rwa [show a + (q + 1) = a + 1 + q by omega] at h0)]
theorem KP (v : Nat) : ∀ (w j : Nat), j < w → (Bg v w).getD j 0 = v / 2 ^ (w - 1 - j) % 2
 | 0, j, h => by omega
 | w + 1, 0, h => by rw [Bg]; rfl
 | w + 1, j + 1, h => by
  rw [Bg, List.getD_cons_succ, KP v w j (by omega), show w + 1 - 1 - (j + 1) = w - 1 - j by omega]
theorem Pv {B : List Nat} (hB : Bits B) (v : Nat) : ∀ (w a x : Nat), a + w ≤ 8 * (pk B).length → (∀ j, j < w → B.getD (a + j) 0 = v / 2 ^ (w - 1 - j) % 2) → DX (pk B) w a x = x * 2 ^ w + v % 2 ^ w
 | 0, a, x, _, _ => by unfold DX; simp [Nat.mod_one]
 | w + 1, a, x, ha, h => by
  unfold DX
  have hb : bt (pk B) a = v / 2 ^ w % 2 := by
   rw [PQ hB (by omega)]
   have := h 0 (by omega)
   rwa [Nat.add_zero, show w + 1 - 1 - 0 = w by omega] at this
  rw [Pv hB v w (a + 1) _ (by omega) (fun j hj => by have := h (j + 1) (by omega); rwa [show a + (j + 1) = a + 1 + j by omega, show w + 1 - 1 - (j + 1) = w - 1 - j by omega] at this), hb]
  have e : 2 * x * 2 ^ w = x * (2 ^ w * 2) := by rw [Nat.mul_comm 2 x, Nat.mul_assoc, Nat.mul_comm 2]
  rw [Nat.pow_succ, Nat.mod_mul, Nat.add_mul, Nat.mul_comm (v / 2 ^ w % 2) (2 ^ w), e]
  omega
theorem Me (A B : List Nat) {i : Nat} (h : i < A.length) : (A ++ B).getD i 0 = A.getD i 0 := by
 rw [List.getD_eq_getElem?_getD, List.getElem?_append_left h, ← List.getD_eq_getElem?_getD]
theorem N9 (A B : List Nat) (i : Nat) : (A ++ B).getD (A.length + i) 0 = B.getD i 0 := by
 rw [List.getD_eq_getElem?_getD, List.getElem?_append_right (by omega), Nat.add_sub_cancel_left, ← List.getD_eq_getElem?_getD]
theorem rep_get {q j : Nat} (h : j < q) : (List.replicate q 1).getD j 0 = 1 := by
 rw [List.getD_eq_getElem?_getD, List.getElem?_replicate, if_pos h]; rfl
theorem g_one {P R : List Nat} {v : Nat} (hB : Bits (P ++ BZ v ++ R)) (hq : v / 524288 ≤ 65536) :
  gE (pk (P ++ BZ v ++ R)) (pk (P ++ BZ v ++ R)).length P.length = 0 ∧ gV (pk (P ++ BZ v ++ R)) (pk (P ++ BZ v ++ R)).length P.length = v ∧ gA (pk (P ++ BZ v ++ R)) (pk (P ++ BZ v ++ R)).length P.length = (P ++ BZ v).length := by
 have hl := Bi (P ++ BZ v ++ R)
 have hr := Di v
 have hlen : (P ++ BZ v ++ R).length = P.length + (v / 524288 + 20) + R.length := by rw [List.length_append, List.length_append, hr]
 have hget : ∀ j, j < v / 524288 + 20 → (P ++ BZ v ++ R).getD (P.length + j) 0 = (BZ v).getD j 0 := fun j hj => by
  rw [List.append_assoc, N9, Me _ _ (by omega)]
 have hq1 : ∀ j, j < v / 524288 → (BZ v).getD j 0 = 1 := fun j hj => by
  unfold BZ
  rw [Me _ _ (by rw [List.length_append, List.length_replicate]; omega), Me _ _ (by rw [List.length_replicate]; omega), rep_get hj]
 have hq0 : (BZ v).getD (v / 524288) 0 = 0 := by
  unfold BZ
  rw [Me _ _ (by rw [List.length_append, List.length_replicate, Bp]; omega)]
  have := N9 (List.replicate (v / 524288) 1) (Bg 0 1) 0
  rw [List.length_replicate, Nat.add_zero] at this
  rw [this]
  rfl
 have hqv : ∀ j, j < 19 → (BZ v).getD (v / 524288 + 1 + j) 0 = v / 2 ^ (19 - 1 - j) % 2 := fun j hj => by
  unfold BZ
  have := N9 (List.replicate (v / 524288) 1 ++ Bg 0 1) (Bg v 19) j
  rw [List.length_append, List.length_replicate, Bp] at this
  rw [this, KP v 19 j hj]
 have hO : gO (pk (P ++ BZ v ++ R)) (pk (P ++ BZ v ++ R)).length P.length = v / 524288 := by
  unfold gO
  refine NA hB _ _ _ (by omega) (by omega) (fun j hj => ?_) ?_
  ·rw [hget j (by omega), hq1 j hj]
  ·rw [hget _ (by omega), hq0]
 refine ⟨?_, ?_, ?_⟩
 ·unfold gE
  rw [hO]
  have e : BU (8 * (pk (P ++ BZ v ++ R)).length - P.length) (v / 524288) 65536 = 0 := by
   unfold BU
   rw [if_neg (by omega), if_neg (by omega)]
  rw [e, if_neg (by decide), if_neg (by omega)]
 ·unfold gV
  rw [hO]
  rw [Pv hB v 19 _ 0 (by omega) (fun j hj => by rw [show P.length + v / 524288 + 1 + j = P.length + (v / 524288 + 1 + j) by omega, hget _ (by omega), hqv j hj])]
  rw [Nat.zero_mul, Nat.zero_add]
  omega
 ·unfold gA
  rw [hO, List.length_append, hr]
  omega
theorem Tk {n lim : Nat} {l : List Int} : ∀ (r : List Nat) (s : Nat) (P : List Nat) (o : List Int), Bits P → K6 s r → (∀ x ∈ r, x < lim) → (∀ x ∈ r, x < 1073741824) → l = pk (P ++ stB s r) → n = l.length → vlF l n lim r.length P.length s o = (o ++ inL r, (P ++ stB s r).length, 0)
 | [], s, P, o, hP, hr, hx, hx2, hl, hn => by
  rw [stB, List.append_nil]
  show (o, P.length, 0) = _
  unfold inL
  rw [List.map_nil, List.append_nil]
 | x :: r, s, P, o, hP, hr, hx, hx2, hl, hn => by
  have hxx := hx x (by simp)
  have hx30 := hx2 x (by simp)
  have hB : Bits (P ++ BZ (x - s) ++ stB x r) := (hP.append (EA _)).append (FE _ _)
  have e : P ++ stB s (x :: r) = P ++ BZ (x - s) ++ stB x r := by rw [stB, List.append_assoc]
  have hg := g_one hB (by omega)
  rw [← e, ← hl, ← hn] at hg
  rw [List.length_cons]
  unfold vlF
  have hs := hr.1
  rw [hg.1, if_neg (by decide), hg.2.1, hg.2.2, show s + (x - s) = x by omega, if_neg (by omega)]
  rw [Tk r x (P ++ BZ (x - s)) (o ++ [(x : Int)]) (hP.append (EA _)) hr.2 (fun y hy => hx y (by simp [hy])) (fun y hy => hx2 y (by simp [hy])) (by rw [hl, e]) hn, e]
  unfold inL
  rw [List.append_assoc, List.map_cons]
  rfl
theorem NF {B : List Nat} (hB : Bits B) : ∀ (k a : Nat), B.length ≤ a → a + k = 8 * (pk B).length → Ca (pk B) a k = true
 | 0, a, _, _ => rfl
 | k + 1, a, h, hk => by
  unfold Ca
  rw [PQ hB (by omega), Du h, if_pos rfl]
  exact NF hB k (a + 1) (by omega) (by omega)
theorem vlE_st {l : List Int} {c : Nat} {r : List Nat} (hl : l = pk (stB 0 r)) (hc : c = r.length) (h0 : 0 < c) : vlE l l.length c (inL r, (stB 0 r).length, 0) = 0 := by
 have hlen := Bi (stB 0 r)
 have hB := FE r 0
 subst hl
 rw [Ma h0, if_pos ⟨by omega, NF hB _ _ (Nat.le_refl _) (by omega)⟩]
end Go.Proofs
namespace Go.Proofs
open Go Go.Pe Go.Pm
set_option maxRecDepth 100000
set_option linter.unusedVariables false
theorem Rf {x : Nat} (h : x < 256) : le x 1 = [(x : Int)] := by
 have e : le x 1 = [((x / 2 ^ (8 * 0) % 256 : Nat) : Int)] := rfl
 rw [e]
 congr 2
 omega
theorem le_two (x : Nat) : le x 2 = [((x % 256 : Nat) : Int), ((x / 256 % 256 : Nat) : Int)] := by
 have e : le x 2 = [((x / 2 ^ (8 * 0) % 256 : Nat) : Int), ((x / 2 ^ (8 * 1) % 256 : Nat) : Int)] := rfl
 rw [e]
 congr 2
 omega
theorem Rw {k : Nat} (hk : k ≤ 1000) (s : List Int) : KE (Cb k ++ s) = 0 ∧ BL (Cb k ++ s) = k ∧ vS (Cb k ++ s) = s := by
 by_cases h : k < 253
 ·have e : Cb k ++ s = (k : Int) :: s := by unfold Cb; rw [if_pos h, Rf (by omega)]; rfl
  have e0 : at0 (Cb k ++ s) 0 = k := by rw [e]; rfl
  have ew : wdt k = 0 := by unfold wdt; rw [if_neg (by omega), if_neg (by omega), if_neg (by omega)]
  have el : lst k = 0 := by unfold lst; rw [if_neg (by omega), if_neg (by omega), if_neg (by omega)]
  have ev : Au (Cb k ++ s) = k := by unfold Au; rw [e0, ew, if_pos rfl]
  have e1 : (Rd.mk (Cb k ++ s) 0).ve 1000 = 0 := by
   unfold Rd.ve
   dsimp only
   rw [if_pos rfl, ev, e0, ew, el, if_neg (by rw [e]; simp), if_neg (by omega), if_neg (by omega)]
  refine ⟨e1, ?_, ?_⟩
  ·show (Rd.mk (Cb k ++ s) 0).vn 1000 = k
   unfold Rd.vn
   rw [if_pos e1]
   exact ev
  ·show ((Rd.mk (Cb k ++ s) 0).var 1000).s = s
   unfold Rd.var
   rw [if_pos e1]
   dsimp only
   rw [e0, ew, e]
   rfl
 ·have e : Cb k ++ s = (253 : Int) :: ((k % 256 : Nat) : Int) :: ((k / 256 % 256 : Nat) : Int) :: s := by unfold Cb; rw [if_neg h, Rf (x := 253) (by omega), le_two]; rfl
  have e0 : at0 (Cb k ++ s) 0 = 253 := by rw [e]; rfl
  have ev : Au (Cb k ++ s) = k := by
   unfold Au
   rw [e0, if_neg (by decide), e]
   show lv (((k % 256 : Nat) : Int) :: ((k / 256 % 256 : Nat) : Int) :: s) 2 = k
   have : lv (((k % 256 : Nat) : Int) :: ((k / 256 % 256 : Nat) : Int) :: s) 2 = k % 256 + (k / 256 % 256) * 256 := by
    simp [lv, at0]
    omega
   omega
  have e1 : (Rd.mk (Cb k ++ s) 0).ve 1000 = 0 := by
   unfold Rd.ve
   dsimp only
   rw [if_pos rfl, ev, e0, if_neg (by rw [e, show wdt 253 = 2 from rfl]; simp), if_neg (by rw [show lst 253 = 253 from rfl]; omega), if_neg (by omega)]
  refine ⟨e1, ?_, ?_⟩
  ·show (Rd.mk (Cb k ++ s) 0).vn 1000 = k
   unfold Rd.vn
   rw [if_pos e1]
   exact ev
  ·show ((Rd.mk (Cb k ++ s) 0).var 1000).s = s
   unfold Rd.var
   rw [if_pos e1]
   dsimp only
   rw [e0, e]
   rfl
def nsN (k0 k1 : Nat) (U : List It) : List Nat := ((Co k0 k1 (U.length * 784931) U).mergeSort (fun x y => decide (x ≤ y))).map Int.toNat
theorem Lj : ∀ {m : List Int}, (∀ x ∈ m, 0 ≤ x) → inL (m.map Int.toNat) = m
 | [], _ => rfl
 | x :: m, h => by
  have ih := Lj fun y hy => h y (List.mem_cons_of_mem _ hy)
  unfold inL at ih ⊢
  rw [List.map_cons, List.map_cons, ih, Int.toNat_of_nonneg (h x (by simp))]
theorem MR : ∀ {l : List Int} {s : Nat}, (∀ x ∈ l, (s : Int) ≤ x) → l.Pairwise (fun x y => decide (x ≤ y) = true) → K6 s (l.map Int.toNat)
 | [], s, _, _ => trivial
 | x :: l, s, h, hp => by
  rw [List.pairwise_cons] at hp
  have hx := h x (by simp)
  refine ⟨by omega, MR (fun y hy => ?_) hp.2⟩
  have := of_decide_eq_true (hp.1 y hy)
  omega
theorem K5 (l : List Int) : (l.mergeSort (fun x y => decide (x ≤ y))).Pairwise (fun x y => decide (x ≤ y) = true) :=
 List.pairwise_mergeSort (fun a b c h1 h2 => by simp only [decide_eq_true_eq] at *; omega) (fun a b => by by_cases h : a ≤ b <;> simp [h]; omega) l
structure Keys (k0 k1 : Nat) : Prop where
 a : k0 < 18446744073709551616
 b : k1 < 18446744073709551616
theorem Kr {k0 k1 : Nat} (hk : Keys k0 k1) {U : List It} (ho : ∀ x ∈ U, CY x) {x : Int} (hx : x ∈ (Co k0 k1 (U.length * 784931) U).mergeSort (fun x y => decide (x ≤ y))) : 0 ≤ x ∧ x < ((U.length * 784931 : Nat) : Int) := by
 rw [List.mem_mergeSort] at hx
 obtain ⟨u, hu, rfl⟩ := List.mem_map.1 hx
 have hpos : 0 < U.length := List.length_pos_of_mem hu
 have := num1_lt (t := U.length * 784931) (u := u) hk.a hk.b (ho u hu).b (by omega)
 omega
theorem Pj {k0 k1 : Nat} (hk : Keys k0 k1) {U : List It} (ho : ∀ x ∈ U, CY x) : inL (nsN k0 k1 U) = (Co k0 k1 (U.length * 784931) U).mergeSort (fun x y => decide (x ≤ y)) := Lj fun x hx => (Kr hk ho hx).1
theorem CU (k0 k1 : Nat) (U : List It) : (nsN k0 k1 U).length = U.length := by unfold nsN Co; rw [List.length_map, List.length_mergeSort, List.length_map]
theorem LK (k0 k1 : Nat) : nsN k0 k1 [] = [] := by simp [nsN, Co]
theorem KU {k0 k1 : Nat} (hk : Keys k0 k1) {U : List It} (ho : ∀ x ∈ U, CY x) : K6 0 (nsN k0 k1 U) := MR (fun x hx => (Kr hk ho hx).1) (K5 _)
theorem J4 {k0 k1 : Nat} (hk : Keys k0 k1) {U : List It} (ho : ∀ x ∈ U, CY x) : ∀ x ∈ nsN k0 k1 U, x < U.length * 784931 := fun x hx => by
 unfold nsN at hx
 obtain ⟨y, hy, rfl⟩ := List.mem_map.1 hx
 have := Kr hk ho hy
 omega
theorem PY : ∀ (r : List Nat) (s : Nat), (∀ x ∈ r, x < 1073741824) → (stB s r).length ≤ 2068 * r.length
 | [], s, _ => Nat.le_refl 0
 | x :: r, s, h => by
  have ih := PY r x fun y hy => h y (List.mem_cons_of_mem _ hy)
  have hx := h x (by simp)
  rw [stB, List.length_append, Di, List.length_cons]
  omega
def CJ (k0 k1 : Nat) (U : List It) : List Int := Cb U.length ++ pk (stB 0 (nsN k0 k1 U))
def bldM (k0 k1 : Nat) (I : List It) : List Int := CJ k0 k1 (Bn [] I)
theorem Jb {k0 k1 : Nat} (hk : Keys k0 k1) {U : List It} (ho : ∀ x ∈ U, CY x) (hU : U.length ≤ 1000) : (CJ k0 k1 U).length ≤ 300000 ∧ 0 < (CJ k0 k1 U).length := by
 have h1 := PY (nsN k0 k1 U) 0 fun x hx => by have := J4 hk ho x hx; omega
 have h2 := Bi (stB 0 (nsN k0 k1 U))
 have h3 := Fy U.length
 rw [CU] at h1
 unfold CJ
 rw [List.length_append, h2, h3]
 split <;> omega
theorem Nq {nl : Bool} {k0 k1 : Nat} {I : List It} (hk : Keys k0 k1) (hn : I.length ≤ 60000) (ho : ∀ x ∈ I, CY x) (hU : (Bn [] I).length ≤ 1000) :
  Pt 11 [] [.iarr .u64 2 [(k0 : Int), (k1 : Int)], .vec nl (.parr 1 I.length ish (I.map itB))] [(1, BV (bldM k0 k1 I).length (bldM k0 k1 I))] (.tup [.ref 1 [] 1 0 (bldM k0 k1 I).length, .int .i64 0]) := by
 by_cases h0 : I.length = 0
 ·obtain rfl := List.eq_nil_of_length_eq_zero h0
  have c2 := KY (x := 0) (by omega)
  have c3 := JR (nl := true) (t := 0) (U := []) hk.a hk.b (by omega) (by simp) (fun x hx => by cases hx)
  have e : (Co k0 k1 0 []).mergeSort (fun x y => decide (x ≤ y)) = [] := by simp [Co]
  rw [e] at c3
  have c5 := MM (nl := false) (l := [(true, 0, [])]) (c := 1) (n := 1) (m := 1) (b := Cb 0) (q := Cb 0) rfl (by omega) (fun x hx => by rw [List.mem_singleton.1 hx]; exact ⟨rfl, fun y hy => by cases hy⟩) (by omega) (by omega) rfl (by show Cb 0 ++ ([[]] : List (List Int)).flatten = _; simp) rfl
  have eM : bldM k0 k1 [] = Cb 0 := by
   show Cb 0 ++ pk (stB 0 (nsN k0 k1 [])) = Cb 0
   rw [LK]
   exact List.append_nil _
  rw [eM]
  exact W_bld0 Oh c2 c3 QO c5 (JW (by omega) (by omega) rfl)
 ·have hoU : ∀ x ∈ Bn [] I, CY x := Iq I [] (fun x hx => by cases hx) ho
  have hpos : 0 < (Bn [] I).length := by
   obtain ⟨x, l, rfl⟩ : ∃ x l, I = x :: l := List.exists_cons_of_ne_nil (fun e => h0 (by rw [e]; rfl))
   have := (IB l [x]).1
   have e : Bn [] (x :: l) = Bn [x] l := by rw [Bn, if_neg (by simp [JG])]; rfl
   rw [e]
   exact this
  have c1 := Qu (nl := nl) (I := I) (by omega) (by omega) ho
  unfold bldM
  generalize Bn [] I = U at *
  have hlen := Jb hk hoU hU
  have c2 := KY (x := U.length) (by omega)
  have c3 := JR (nl := false) (t := U.length * 784931) hk.a hk.b (by omega) (by omega) hoU
  have c4 := RH (nl := false) (r := nsN k0 k1 U) (n := U.length) (by omega) (CU _ _ _) hpos (KU hk hoU) (fun x hx => by have := J4 hk hoU x hx; omega)
  rw [Pj hk hoU] at c4
  have c5 := MM (nl := false) (l := [(false, (pk (stB 0 (nsN k0 k1 U))).length, pk (stB 0 (nsN k0 k1 U)))]) (c := 1) (n := (Cb U.length).length) (m := (CJ k0 k1 U).length) (b := Cb U.length) (q := CJ k0 k1 U) rfl (by omega) (fun x hx => by rw [List.mem_singleton.1 hx]; exact ⟨rfl, G5 (FE _ _)⟩) (by omega) (by omega) rfl (by show Cb U.length ++ ([pk (stB 0 (nsN k0 k1 U))] : List (List Int)).flatten = _; unfold CJ; simp) rfl
  have hl : ((Co k0 k1 (U.length * 784931) U).mergeSort (fun x y => decide (x ≤ y))).length = U.length := by rw [List.length_mergeSort]; simp [Co]
  exact W_bld (by omega) hU (by rw [List.length_map]) hl rfl c1 c2 c3 c4 c5 (JW hlen.2 (by omega) rfl)
theorem MZ {k0 k1 : Nat} (hk : Keys k0 k1) {U : List It} (ho : ∀ x ∈ U, CY x) (hU : U.length ≤ 1000) : vE (CJ k0 k1 U) = 0 ∧ BL (CJ k0 k1 U) = U.length ∧ (Gb (CJ k0 k1 U)).1 = inL (nsN k0 k1 U) := by
 obtain ⟨e1, e2, e3⟩ := Rw hU (pk (stB 0 (nsN k0 k1 U)))
 have hr : Gb (CJ k0 k1 U) = (inL (nsN k0 k1 U), (stB 0 (nsN k0 k1 U)).length, 0) := by
  unfold Gb CJ
  rw [e2, e3]
  have := Tk (n := (pk (stB 0 (nsN k0 k1 U))).length) (lim := U.length * 784931) (l := pk (stB 0 (nsN k0 k1 U))) (nsN k0 k1 U) 0 [] [] Bits.nil (KU hk ho) (J4 hk ho) (fun x hx => by have := J4 hk ho x hx; omega) rfl rfl
  rw [CU, List.nil_append, List.nil_append] at this
  exact this
 refine ⟨?_, e2, by rw [hr]⟩
 unfold vE
 have e1' : KE (CJ k0 k1 U) = 0 := e1
 have e2' : BL (CJ k0 k1 U) = U.length := e2
 have e3' : vS (CJ k0 k1 U) = pk (stB 0 (nsN k0 k1 U)) := e3
 rw [if_neg (by rw [e1']; simp), hr, e2', e3']
 by_cases h0 : 0 < U.length
 ·exact vlE_st rfl (CU _ _ _).symm h0
 ·have hU0 : U = [] := List.eq_nil_of_length_eq_zero (by omega)
  subst hU0
  rw [LK]
  rfl
end Go.Proofs
namespace Go.Proofs
open Go Go.Pe Go.Pm
set_option maxRecDepth 100000
set_option linter.unusedVariables false
def hitI (k0 k1 c : Nat) (L : List Int) (u : It) : Bool := decide (bsF L (Fb k0 k1 (c * 784931) u) c 0 c < c ∧ L.getD (bsF L (Fb k0 k1 (c * 784931) u) c 0 c) 0 = (Fb k0 k1 (c * 784931) u : Int))
def Jn (k0 k1 c : Nat) (L : List Int) : Nat → List It → List Int → List Int
 | _, [], A => A
 | i, u :: l, A => Jn k0 k1 c L (i + 1) l (if hitI k0 k1 c L u = true then A ++ [(i : Int)] else A)
def aH (F : List Int) : List (Nat × Row) := if F = [] then [] else [(1, ⟨.iarr .i64 F.length F, false⟩)]
def aP (F : List Int) : PV := if F = [] then .tup [nilI, .int .i64 0] else .tup [.ref 1 [] 1 0 F.length, .int .i64 0]
theorem Ol {nl : Bool} {k0 k1 c : Nat} {L : Liz} {I : List It} (hk : Keys k0 k1) (hn : I.length ≤ 100000) (hc : c ≤ 1000) (hL : L.length = c) (ho : ∀ x ∈ I, CY x) : ∀ (r i : Nat) (A : List Int), i + r = I.length → A ≠ [] → A.length ≤ i →
  Wt Try.f17 [] (aH (Jn k0 k1 c L i (I.drop i) A)) (aP (Jn k0 k1 c L i (I.drop i) A)) (Aa Try.f17 0) (dA1 nl I.length i c A.length k0 k1 (I.map itB) L A)
 | 0, i, A, hk2, hA, hl => by
  obtain rfl : i = I.length := by omega
  rw [List.drop_of_length_le (Nat.le_refl _)]
  unfold Jn aH aP
  rw [if_neg hA, if_neg hA]
  exact W_a1E
 | r + 1, i, A, hk2, hA, hl => by
  have hi : i < I.length := by omega
  have hx := K3 ho hi
  have hs := Hu hk.a hk.b hx.b
  have ht : c * 784931 < 18446744073709551616 := by omega
  rw [drop_at hi]
  unfold Jn
  have c3 := pc_bs (nl := false) (x := (Fb k0 k1 (c * 784931) (I.getD i default) : Int)) (L := L) (show c ≤ 100000 by omega)
  by_cases h : hitI k0 k1 c L (I.getD i default) = true
  ·rw [if_pos h]
   have h' := of_decide_eq_true h
   rw [decide_eq_true h'] at c3
   have ih := Ol (nl := nl) hk hn hc hL ho r (i + 1) (A ++ [(i : Int)]) (by omega) (by simp) (by rw [List.length_append, List.length_singleton]; omega)
   rw [List.length_append, List.length_singleton] at ih
   exact W_a1Y hi hn hc hL rfl rfl hl (D9 hi) rfl (Ie rfl hx.len hk.a hk.b hx.b) (DD hs ht) c3 ih
  ·rw [if_neg h]
   have h' : ¬ (bsF L (Fb k0 k1 (c * 784931) (I.getD i default)) c 0 c < c ∧ L.getD (bsF L (Fb k0 k1 (c * 784931) (I.getD i default)) c 0 c) 0 = (Fb k0 k1 (c * 784931) (I.getD i default) : Int)) := fun z => h (decide_eq_true z)
   rw [decide_eq_false h'] at c3
   have ih := Ol (nl := nl) hk hn hc hL ho r (i + 1) A (by omega) hA (by omega)
   exact W_a1N hi hn hc hL rfl (D9 hi) rfl (Ie rfl hx.len hk.a hk.b hx.b) (DD hs ht) c3 ih
theorem SH {nl : Bool} {k0 k1 c : Nat} {L : Liz} {I : List It} (hk : Keys k0 k1) (hn : I.length ≤ 100000) (hc : c ≤ 1000) (hL : L.length = c) (ho : ∀ x ∈ I, CY x) : ∀ (r i : Nat), i + r = I.length →
  Wt Try.f17 [] (aH (Jn k0 k1 c L i (I.drop i) [])) (aP (Jn k0 k1 c L i (I.drop i) [])) (Aa Try.f17 0) (dA0 nl I.length i c k0 k1 (I.map itB) L)
 | 0, i, hk2 => by
  obtain rfl : i = I.length := by omega
  rw [List.drop_of_length_le (Nat.le_refl _)]
  unfold Jn aH aP
  rw [if_pos rfl, if_pos rfl]
  exact W_a0E
 | r + 1, i, hk2 => by
  have hi : i < I.length := by omega
  have hx := K3 ho hi
  have hs := Hu hk.a hk.b hx.b
  have ht : c * 784931 < 18446744073709551616 := by omega
  rw [drop_at hi]
  unfold Jn
  have c3 := pc_bs (nl := false) (x := (Fb k0 k1 (c * 784931) (I.getD i default) : Int)) (L := L) (show c ≤ 100000 by omega)
  by_cases h : hitI k0 k1 c L (I.getD i default) = true
  ·rw [if_pos h, List.nil_append]
   have h' := of_decide_eq_true h
   rw [decide_eq_true h'] at c3
   have hle : i = 0 ∨ 0 < i := by omega
   have ih := Ol (nl := nl) hk hn hc hL ho r (i + 1) [(i : Int)] (by omega) (by simp) (by simp)
   exact W_a0Y hi hn hc hL rfl (D9 hi) rfl (Ie rfl hx.len hk.a hk.b hx.b) (DD hs ht) c3 ih
  ·rw [if_neg h]
   have h' : ¬ (bsF L (Fb k0 k1 (c * 784931) (I.getD i default)) c 0 c < c ∧ L.getD (bsF L (Fb k0 k1 (c * 784931) (I.getD i default)) c 0 c) 0 = (Fb k0 k1 (c * 784931) (I.getD i default) : Int)) := fun z => h (decide_eq_true z)
   rw [decide_eq_false h'] at c3
   exact W_a0N hi hn hc hL rfl (D9 hi) rfl (Ie rfl hx.len hk.a hk.b hx.b) (DD hs ht) c3 (SH (nl := nl) hk hn hc hL ho r (i + 1) (by omega))
theorem Sv {nl : Bool} {k0 k1 : Nat} {I : List It} (hk : Keys k0 k1) (hn : I.length ≤ 100000) (ho : ∀ x ∈ I, CY x) : ∀ (r i : Nat), i + r = I.length →
  Wt Try.f17 [] [] (.tup [nilI, .int .i64 0]) (Aa Try.f17 0) (dAn nl I.length i k0 k1 (I.map itB))
 | 0, i, hk2 => by
  obtain rfl : i = I.length := by omega
  exact W_anE
 | r + 1, i, hk2 => by
  have hi : i < I.length := by omega
  have hx := K3 ho hi
  have hs := Hu hk.a hk.b hx.b
  have c2 := DD (n := 0) hs (by decide)
  rw [Nat.mul_zero, Nat.zero_div] at c2
  exact W_anS hi hn (D9 hi) rfl (Ie rfl hx.len hk.a hk.b hx.b) c2 (pc_bs (nl := true) (n := 0) (x := 0) (L := []) (by omega)) (Sv hk hn ho r (i + 1) (by omega))
def anyM (k0 k1 : Nat) (b : List Int) (I : List It) : List Int := if BL b = 0 then [] else Jn k0 k1 (BL b) (Gb b).1 0 I []
theorem pc_any {nl nb : Bool} {k0 k1 m : Nat} {b : Liz} {I : List It} (hk : Keys k0 k1) (hn : I.length ≤ 100000) (ho : ∀ x ∈ I, CY x) (hl : b.length = m) (hm : m ≤ 1000000) (hb : Bytes b) (hnl : nb = true → m = 0) (he : vE b = 0) (hL : (Gb b).1.length = BL b) :
  Pt 17 [] [.iarr .u64 2 [(k0 : Int), (k1 : Int)], .vec nb (.iarr .u8 m b), .vec nl (.parr 1 I.length ish (I.map itB))] (aH (anyM k0 k1 b I)) (aP (anyM k0 k1 b I)) := by
 have c1 := Qa (nl := nb) hl hm hb hnl
 have hc : BL b ≤ 1000 := Rd.PD _ _
 unfold anyM
 rw [he] at c1
 by_cases h0 : BL b = 0
 ·rw [if_pos h0, if_pos h0] at c1
  rw [if_pos h0]
  unfold aH aP
  rw [if_pos rfl, if_pos rfl]
  exact W_anIn c1 (Sv hk hn ho I.length 0 (by omega))
 ·rw [if_neg h0, if_neg h0] at c1
  unfold vH vP at c1
  rw [if_pos rfl, if_pos rfl] at c1
  rw [if_neg h0]
  have hw := SH (nl := nl) hk hn hc hL ho I.length 0 (by omega)
  rw [List.drop_zero] at hw
  exact W_a0In c1 hw
theorem W_mtY {nb b : Bool} {m ml k : Nat} {k0 k1 : Int} {q l F : Liz} (hF : 0 < F.length) (hF2 : F.length = k) (hk : k ≤ 100000) (c1 : Pt 17 [] [.iarr .u64 2 [k0, k1], .vec nb (.iarr .u8 m q), .vec false (.parr 1 1 ish [.vec b (.iarr .u8 ml l)])] [(1, ⟨.iarr .i64 k F, false⟩)] (.tup [.ref 1 [] 1 0 k, .int .i64 0])) :
  Pt 16 [] [.iarr .u64 2 [k0, k1], .vec nb (.iarr .u8 m q), .vec b (.iarr .u8 ml l)] [] (.tup [.bool true, .int .i64 0]) := by
 refine pO Try.func16 (by kernel_rfl) ?_
 refine W.rtA [(7, c9 c1), (15, aT)] [] [1 ≤ 1, _, decide ((k:Int) > 0) = true] (ac (by omega) (ac (c1) (ao (dT (by omega)))))
theorem W_aw {m : Nat} {q q0 : Liz} (hq : q.length = 4) (g : q.getD 0 0 = 1) (h0 : q0 = [0]) (c1 : Pt 11 [] [.iarr .u64 2 [1, 2], .vec true (.parr 1 0 ish [])] [(1, BV 1 q0)] (.tup [.ref 1 [] 1 0 1, .int .i64 0]))
  (c2 : Pt 11 [] [.iarr .u64 2 [1, 2], .vec false (.parr 1 1 ish [.vec false (.iarr .u8 1 [1])])] [(1, BV 4 q)] (.tup [.ref 1 [] 1 0 4, .int .i64 0]))
  (c3 : Pt 16 [] [.iarr .u64 2 [1, 2], .vec false (.iarr .u8 4 q), .vec false (.iarr .u8 1 [1])] [] (.tup [.bool true, .int .i64 0])) : Pt 10 [] [] [] (.bool true) := by
 refine pO Try.func10 (by kernel_rfl) ?_
 subst h0
 have ht : q.take 4 = q := List.take_of_length_le (by omega)
 have hs : decide (strOf [(0 : Int)] = ⟨#[0]⟩) = true := by decide
 refine W.rtA [(2, c9 c1), (10, Ans.frz [208]), (11, c9 c2), (20, cL true [] c3), (39, aV (I6 4)), (45, aV (U8 1))] [] [_, 1 ≤ 1, 1 ≤ 1, _, 4 ≤ 4, 1 ≤ 1, rr ([] : List (Nat × Row)), ([B6 2 [1, 2], PV.vec false (B8 4 (List.take 4 q)), PV.vec false (B8 1 [1])] : List PV) = [B6 2 [1, 2], PV.vec false (B8 4 q), PV.vec false (B8 1 [1])], _, 1 ≤ 1, I6 ↑(4 : Nat) = I6 4, (0 : Int) ≤ 0, 0 < (↑(4 : Nat) : Int), U8 (List.getD q 0 (0 : Int)) = U8 1, 0 < 4] (ac (c1) (ob2 (by omega) (ac (c2) (ob2 (by omega) (ac rfl (ac (by rw [List.take_of_length_le (show List.length q ≤ 4 by omega)]) (ac (c3) (ac (by omega) (ac (cg (by omega)) (ob2 (by omega) (ac (cg (g)) (ao (by omega)))))))))))))
end Go.Proofs
namespace Go.Proofs
open Go Go.Pe Go.Pm
set_option maxRecDepth 100000
set_option linter.unusedVariables false
theorem GR {L : List Int} (h : L.Pairwise (fun x y => decide (x ≤ y) = true)) {p q : Nat} (hpq : p ≤ q) (hq : q < L.length) : L.getD p 0 ≤ L.getD q 0 := by
 rcases Nat.eq_or_lt_of_le hpq with rfl | hlt
 ·exact Int.le_refl _
 ·have := List.pairwise_iff_getElem.1 h p q (by omega) hq hlt
  rw [List.getD_eq_getElem?_getD, List.getD_eq_getElem?_getD, List.getElem?_eq_getElem (by omega), List.getElem?_eq_getElem hq]
  exact of_decide_eq_true this
theorem J7 {L : List Int} (h : L.Pairwise (fun x y => decide (x ≤ y) = true)) {x : Int} : ∀ (k i j : Nat), j ≤ i + k → i ≤ j → j ≤ L.length → (∀ p, p < i → L.getD p 0 < x) → (∀ p, j ≤ p → p < L.length → ¬ L.getD p 0 < x) →
  (∀ p, p < bsF L x k i j → L.getD p 0 < x) ∧ (∀ p, bsF L x k i j ≤ p → p < L.length → ¬ L.getD p 0 < x)
 | 0, i, j, hk, hij, hj, h1, h2 => by
  unfold bsF
  exact ⟨h1, fun p hp => h2 p (by omega)⟩
 | k + 1, i, j, hk, hij, hj, h1, h2 => by
  unfold bsF
  by_cases hc : i < j
  ·rw [if_pos hc]
   by_cases g : L.getD ((i + j) / 2) 0 < x
   ·rw [if_pos g]
    refine J7 h k _ _ (by omega) (by omega) hj (fun p hp => ?_) h2
    have := GR h (p := p) (q := (i + j) / 2) (by omega) (by omega)
    omega
   ·rw [if_neg g]
    refine J7 h k _ _ (by omega) (by omega) (by omega) h1 (fun p hp hpl => ?_)
    have := GR h (p := (i + j) / 2) (q := p) hp hpl
    omega
  ·rw [if_neg hc]
   exact ⟨h1, fun p hp => h2 p (by omega)⟩
theorem bs_mem {L : List Int} (h : L.Pairwise (fun x y => decide (x ≤ y) = true)) {x : Int} (hx : x ∈ L) : bsF L x L.length 0 L.length < L.length ∧ L.getD (bsF L x L.length 0 L.length) 0 = x := by
 obtain ⟨h1, h2⟩ := J7 h (x := x) L.length 0 L.length (by omega) (by omega) (Nat.le_refl _) (fun p hp => by omega) (fun p hp hq => by omega)
 obtain ⟨p, hp, rfl⟩ := List.getElem_of_mem hx
 have e : L.getD p 0 = L[p] := by rw [List.getD_eq_getElem?_getD, List.getElem?_eq_getElem hp]; rfl
 have hr : bsF L L[p] L.length 0 L.length ≤ p := by
  rcases Nat.lt_or_ge p (bsF L L[p] L.length 0 L.length) with g | g
  ·have := h1 p g; omega
  ·exact g
 have g1 := GR h hr hp
 have g2 := h2 _ (Nat.le_refl _) (by omega)
 exact ⟨by omega, by omega⟩
theorem OM {k0 k1 t : Nat} {x y : It} (h : x.2 = y.2) : Fb k0 k1 t x = Fb k0 k1 t y := by unfold Fb; rw [h]
theorem hit_all {k0 k1 : Nat} (hk : Keys k0 k1) {U : List It} (ho : ∀ x ∈ U, CY x) {x : It} (hx : JG U x.2 = true) : hitI k0 k1 U.length (inL (nsN k0 k1 U)) x = true := by
 rw [Pj hk ho]
 have hl : ((Co k0 k1 (U.length * 784931) U).mergeSort (fun x y => decide (x ≤ y))).length = U.length := by rw [List.length_mergeSort]; simp [Co]
 obtain ⟨u, hu, he⟩ := List.any_eq_true.1 hx
 have he := of_decide_eq_true he
 have hm : (Fb k0 k1 (U.length * 784931) x : Int) ∈ (Co k0 k1 (U.length * 784931) U).mergeSort (fun x y => decide (x ≤ y)) := by
  rw [List.mem_mergeSort, OM he.symm]
  exact List.mem_map.2 ⟨u, hu, rfl⟩
 have := bs_mem (K5 _) hm
 rw [hl] at this
 exact decide_eq_true this
theorem NM {k0 k1 c : Nat} {L : List Int} : ∀ (l : List It) (i : Nat) (A : List Int), (∀ x ∈ l, hitI k0 k1 c L x = true) → (Jn k0 k1 c L i l A).length = A.length + l.length
 | [], i, A, _ => rfl
 | u :: l, i, A, h => by
  unfold Jn
  rw [if_pos (h u (by simp)), NM l (i + 1) _ (fun x hx => h x (List.mem_cons_of_mem _ hx)), List.length_append, List.length_singleton, List.length_cons]
  omega
theorem OW (l : List Nat) : (inL l).length = l.length := by simp [inL]
theorem OY {k0 k1 : Nat} {U : List It} (hU : U.length ≤ 1000) : Bytes (CJ k0 k1 U) := by
 unfold CJ
 refine Bytes.append ?_ (G5 (FE _ _))
 unfold Cb
 split
 ·exact Dk _ _
 ·exact (Dk _ _).append (Dk _ _)
theorem pc_anyB {nl nb : Bool} {k0 k1 : Nat} {U I : List It} (hk : Keys k0 k1) (hn : I.length ≤ 100000) (ho : ∀ x ∈ I, CY x) (hoU : ∀ x ∈ U, CY x) (hU : U.length ≤ 1000) (hnb : nb = false) : Pt 17 [] [.iarr .u64 2 [(k0 : Int), (k1 : Int)], .vec nb (.iarr .u8 (CJ k0 k1 U).length (CJ k0 k1 U)), .vec nl (.parr 1 I.length ish (I.map itB))] (aH (anyM k0 k1 (CJ k0 k1 U) I)) (aP (anyM k0 k1 (CJ k0 k1 U) I)) := by
 obtain ⟨e1, e2, e3⟩ := MZ hk hoU hU
 have hl := Jb hk hoU hU
 exact pc_any hk hn ho rfl (by omega) (OY hU) (fun x => by rw [hnb] at x; cases x) e1 (by rw [e3, e2, OW, CU])
theorem SL {k0 k1 : Nat} {U I : List It} (hk : Keys k0 k1) (hoU : ∀ x ∈ U, CY x) (hU : U.length ≤ 1000) (h : ∀ x ∈ I, JG U x.2 = true) : (anyM k0 k1 (CJ k0 k1 U) I).length = I.length := by
 obtain ⟨e1, e2, e3⟩ := MZ hk hoU hU
 unfold anyM
 rw [e2, e3]
 by_cases h0 : U.length = 0
 ·rw [if_pos h0]
  have hU0 : U = [] := List.eq_nil_of_length_eq_zero h0
  subst hU0
  cases I with
  | nil => rfl
  | cons x l => have := h x (by simp); cases this
 ·rw [if_neg h0, NM I 0 [] fun x hx => hit_all hk hoU (h x hx)]
  exact Nat.zero_add _
theorem QS {nb : Bool} {k0 k1 : Nat} {U : List It} {x : It} (hk : Keys k0 k1) (hx : CY x) (hoU : ∀ x ∈ U, CY x) (hU : U.length ≤ 1000) (hnb : nb = false) (h : JG U x.2 = true) : Pt 16 [] [.iarr .u64 2 [(k0 : Int), (k1 : Int)], .vec nb (.iarr .u8 (CJ k0 k1 U).length (CJ k0 k1 U)), .vec x.1 (.iarr .u8 x.2.length x.2)] [] (.tup [.bool true, .int .i64 0]) := by
 have c1 := pc_anyB (nl := false) (I := [x]) hk (by simp) (fun y hy => by rw [List.mem_singleton.1 hy]; exact hx) hoU hU hnb
 have hl := SL (I := [x]) hk hoU hU (fun y hy => by rw [List.mem_singleton.1 hy]; exact h)
 have hne : anyM k0 k1 (CJ k0 k1 U) [x] ≠ [] := fun e => by rw [e] at hl; cases hl
 unfold aH aP at c1
 rw [if_neg hne, if_neg hne] at c1
 exact W_mtY (by rw [hl]; simp) rfl (by rw [hl]; simp) c1
theorem JB : Pt 10 [] [] [] (.bool true) := by
 have hk : Keys 1 2 := ⟨by decide, by decide⟩
 have hx : CY (false, [1]) := ⟨fun y hy => by rw [List.mem_singleton.1 hy]; omega, fun h => (by cases h), by simp⟩
 have hI : ∀ x ∈ [((false, [1]) : It)], CY x := fun y hy => by rw [List.mem_singleton.1 hy]; exact hx
 have c1 := Nq (nl := true) (I := []) hk (by simp) (fun x hx => by cases hx) (by simp [Bn])
 have c2 := Nq (nl := false) (I := [(false, [1])]) hk (by simp) hI (by simp [Bn, JG])
 have e0 : bldM 1 2 [] = [0] := by
  show Cb 0 ++ pk (stB 0 (nsN 1 2 [])) = [0]
  rw [LK]
  rfl
 have eU : Bn [] [((false, [1]) : It)] = [(false, [1])] := rfl
 have c3 := QS (nb := false) (U := [(false, [1])]) (x := (false, [1])) hk hx hI (by simp) rfl rfl
 have eM : bldM 1 2 [((false, [1]) : It)] = CJ 1 2 [(false, [1])] := rfl
 rw [e0] at c1
 rw [eM] at c2
 have hlen : (CJ 1 2 [((false, [1]) : It)]).length = 4 := by
  unfold CJ
  have h1 := CU 1 2 [((false, [1]) : It)]
  have h2 := J4 hk hI
  generalize nsN 1 2 [((false, [1]) : It)] = r at *
  obtain ⟨v, rfl⟩ : ∃ v, r = [v] := List.length_eq_one_iff.1 h1
  have h3 := h2 v (by simp)
  have h4 : v < 784931 := by simpa using h3
  rw [List.length_append, Bi, Fy, stB, stB, List.append_nil, Di, if_pos (by simp)]
  omega
 have hget : (CJ 1 2 [((false, [1]) : It)]).getD 0 0 = 1 := rfl
 rw [hlen] at c2 c3
 exact W_aw (m := 4) hlen hget rfl c1 c2 c3
structure ItW (x : It) : Prop where
 b : Bytes x.2
 nl : x.1 = true → x.2 = []
theorem u8b {l : List Int} (h : ∀ x ∈ l, IntKind.u8.wrap x = x) : Bytes l := fun x hx => by
 have := h x hx
 rw [Aw] at this
 exact this
theorem it_of {q : PV} (hc : conf ish q = true) (hw : WF q) : ∃ x : It, q = itB x ∧ ItW x := by
 obtain ⟨nl, n, l, rfl⟩ : ∃ nl n l, q = .vec nl (.iarr .u8 n l) := ⟨_, _, _, (CB _ _ hc).symm⟩
 simp only [WF] at hw
 obtain ⟨⟨h1, h2⟩, _, h3⟩ := hw
 subst h1
 exact ⟨(nl, l), rfl, ⟨u8b h2, fun h => List.eq_nil_of_length_eq_zero (h3 h)⟩⟩
end Go.Proofs
namespace Go.Proofs
open Go Go.Pe Go.Pm
set_option maxRecDepth 100000
set_option linter.unusedVariables false
attribute [local irreducible] lv
theorem W_grBig {nl : Bool} {n : Nat} {b : Liz} (hn : 100 < n) (c1 : Pt 10 [] [] [] (.bool true)) :
  Pt 4 [] [.vec nl (.iarr .u8 n b)] [] (.bool true) := by
 refine pO Try.func4 (by kernel_rfl) ?_
 refine W.rtA [(3, aT), (4, c9 c1)] [] [decide ((n:Int) > 100) = true, _] (ac (dT (by omega)) (ao (c1)))
def dGR0 : DS := ⟨[(3, AV), (5, AV), (34, .int .i64 0), (35, .int .i64 0)], []⟩
def dGR (c i : Nat) (L : List Int) : DS := ⟨[(3, .ref 1 [] 1 0 c), (5, .ref 2 [] 1 0 c), (34, .int .i64 c), (35, .int .i64 i)], [(1, Ac c L), (2, Ac c L)]⟩
theorem W_grE {nl : Bool} {n e : Nat} {b : Liz} {s : ByteArray} {hout : Lrz} {res : PV} (hn : n ≤ 100) (hl : b.length = n) (hb : Bytes b) (es : strOf b = s) (he : e ≤ 100) (c1 : Pt 14 [] [.vec nl (.iarr .u8 n b)] [] (.tup [AV, .int .i64 e])) (c2 : Pt 15 [] [.str (strOf b)] [] (.tup [AV, .int .i64 e]))
  (hw : Wt Try.f4 [] hout res (Aa Try.f4 0) dGR0) :
  Pt 4 [] [.vec nl (.iarr .u8 n b)] hout res := by
 refine pO Try.func4 (by kernel_rfl) ?_
 unfold AV at c1 c2
 unfold dGR0 AV at hw
 refine W.sgA 0 [(3, aF), (5, c9 c1), (13, c9 c2), (21, aF), (24, aV (I6 0)), (26, aV (I6 0)), (30, aV (I6 0))] [] dGR0 [decide ((n:Int) > 100) = false, _, _, ((e:Int) != (e:Int)) = false, I6 ↑(0 : Nat) = I6 0, I6 ↑(0 : Nat) = I6 0, I6 ↑(0 : Nat) = I6 0] (ac (dF (by omega)) (ac (c1) (ac (c2) (ac (bne_eq_false_iff_eq.2 (by omega)) (ac (cg (by omega)) (ac (cg (by omega)) (ao (cg (by omega))))))))) ?_
 exact hw
theorem W_grIn {nl : Bool} {n c : Nat} {b L : Liz} {hout : Lrz} {res : PV} (hn : n ≤ 100) (hl : b.length = n) (hb : Bytes b) (hc : 0 < c) (hc2 : c ≤ 1000) (hL : L.length = c) (c1 : Pt 14 [] [.vec nl (.iarr .u8 n b)] [(1, Ac c L)] (.tup [.ref 1 [] 1 0 c, .int .i64 0])) (c2 : Pt 15 [] [.str (strOf b)] [(1, Ac c L)] (.tup [.ref 1 [] 1 0 c, .int .i64 0]))
  (hw : Wt Try.f4 [] hout res (Aa Try.f4 0) (dGR c 0 L)) :
  Pt 4 [] [.vec nl (.iarr .u8 n b)] hout res := by
 refine pO Try.func4 (by kernel_rfl) ?_
 refine W.sgA 0 [(3, aF), (5, c9 c1), (13, c9 c2), (27, aF)] [(145, 1), (273, 2)] (dGR c 0 L) [decide ((n:Int) > 100) = false, _, _, ((c:Int) != (c:Int)) = false] (ac (dF (by omega)) (ac (c1) (ac (c2) (ao (bne_eq_false_iff_eq.2 (by omega)))))) ?_
 exact hw
theorem Q6 (c1 : Pt 10 [] [] [] (.bool true)) : Wt Try.f4 [] [] (.bool true) (Aa Try.f4 0) dGR0 := by
 unfold dGR0 AV
 refine W.rtA [(1, c9 c1)] [] [_] (ao (c1))
theorem W_grX {c : Nat} {L : Liz} (hc2 : c ≤ 1000) (c1 : Pt 10 [] [] [] (.bool true)) : Wt Try.f4 [] [] (.bool true) (Aa Try.f4 0) (dGR c c L) := by
 refine W.rtA [(0, aF), (1, c9 c1)] [] [decide ((c:Int) < (c:Int)) = false, _] (ac (dF (by omega)) (ao (c1)))
theorem W_gr0 {c : Nat} {L : Liz} {hout : Lrz} {res : PV} (hc : 0 < c) (hc2 : c ≤ 1000) (hL : L.length = c)
  (hw : Wt Try.f4 [] hout res (Aa Try.f4 0) (dGR c 1 L)) :
  Wt Try.f4 [] hout res (Aa Try.f4 0) (dGR c 0 L) := by
 refine W.sgA 0 [(0, aT), (1, aV (I6 0)), (11, aF), (28, aV (I6 1))] (rI 2) (dGR c 1 L) [decide ((↑(0 : Nat) : Int) < (c:Int)) = true, I6 ↑(0 : Nat) = I6 0, (0 : Int) ≤ 0, 0 < (c:Int), 0 < c, (0 : Int) ≤ 0, 0 < (c:Int), 0 < c, (List.getD L 0 (0 : Int) != List.getD L 0 (0 : Int)) = false, I6 (IntKind.wrap .i64 ((↑(0 : Nat) : Int) + 1)) = I6 1] (ac (dT (by omega)) (ac (cg (by omega)) (ob4 (by omega) (ob2 (by omega) (ac (bne_eq_false_iff_eq.2 (by omega)) (ao (wj (by omega)))))))) ?_
 exact hw
theorem W_grS {c i : Nat} {x y : Int} {L : Liz} {hout : Lrz} {res : PV} (h0 : 0 < i) (hc : i < c) (hc2 : c ≤ 1000) (hL : L.length = c) (g1 : L.getD i 0 = x) (g2 : L.getD (i - 1) 0 = y) (hxy : y ≤ x)
  (hw : Wt Try.f4 [] hout res (Aa Try.f4 0) (dGR c (i + 1) L)) :
  Wt Try.f4 [] hout res (Aa Try.f4 0) (dGR c i L) := by
 have e : (i : Int) - 1 = ((i - 1 : Nat) : Int) := by omega
 refine W.sgA 0 [(0, aT), (5, aV (PV.at 1 [Stp.idx i 1])), (6, aV (U6 x)), (9, aV (PV.at 2 [Stp.idx i 1])), (10, aV (U6 x)), (11, aF), (14, aT), (18, aV (PV.at 1 [Stp.idx i 1])), (19, aV (U6 x)), (22, aV (I6 ↑(i - 1))), (23, aV (PV.at 1 [Stp.idx (i - 1) 1])), (24, aV (U6 y)), (25, aF), (28, aV (I6 ↑(i + 1)))] (rI 2) (dGR c (i + 1) L) [decide ((i:Int) < (c:Int)) = true, PV.at 1 [Stp.idx (0 + i) 1] = PV.at 1 [Stp.idx i 1], 0 ≤ (i:Int), (i:Int) < (c:Int), U6 (List.getD L i (0 : Int)) = U6 x, i < c, PV.at 2 [Stp.idx (0 + i) 1] = PV.at 2 [Stp.idx i 1], 0 ≤ (i:Int), (i:Int) < (c:Int), U6 (List.getD L i (0 : Int)) = U6 x, i < c, (x != x) = false, decide ((i:Int) > 0) = true, PV.at 1 [Stp.idx (0 + i) 1] = PV.at 1 [Stp.idx i 1], 0 ≤ (i:Int), (i:Int) < (c:Int), U6 (List.getD L i (0 : Int)) = U6 x, i < c, I6 (IntKind.wrap .i64 ((i:Int) - 1)) = I6 ↑(i - 1), PV.at 1 [Stp.idx (0 + Int.toNat (↑(i - 1) : Int)) 1] = PV.at 1 [Stp.idx (i - 1) 1], 0 ≤ (↑(i - 1) : Int), (↑(i - 1) : Int) < (c:Int), U6 (List.getD L (i - 1) (0 : Int)) = U6 y, i - 1 < c, decide (x < y) = false, I6 (IntKind.wrap .i64 ((i:Int) + 1)) = I6 ↑(i + 1)] (ac (dT (by omega)) (ac (by simp only [Nat.zero_add]) (ob2 (by omega) (ac (cg (g1)) (ac (by omega) (ac (by simp only [Nat.zero_add]) (ob2 (by omega) (ac (cg (g1)) (ac (by omega) (ac (bne_eq_false_iff_eq.2 (by omega)) (ac (dT (by omega)) (ac (by simp only [Nat.zero_add]) (ob2 (by omega) (ac (cg (g1)) (ac (by omega) (ac (cg (Ab e (by omega) (by omega))) (ac (by (rw [show Int.toNat (↑(i - 1) : Int) = i - 1 by omega]; simp only [Nat.zero_add])) (ob2 (by omega) (ac (cg (g2)) (ac (by omega) (ac (dF (by omega)) (ao (wj (by omega)))))))))))))))))))))))) ?_
 exact hw
end Go.Proofs
namespace Go.Proofs
open Go Go.Pe Go.Pm
set_option maxRecDepth 100000
attribute [local irreducible] lv
theorem MX {l : List Int} {n lim : Nat} : ∀ (k a s : Nat) (o : List Int), (vlF l n lim k a s o).2.2 = 0 → o.Pairwise (· ≤ ·) → (∀ x ∈ o, 0 ≤ x ∧ x ≤ (s : Int)) → s < lim →
  (vlF l n lim k a s o).1.length = o.length + k ∧ (vlF l n lim k a s o).1.Pairwise (· ≤ ·) ∧ (∀ x ∈ (vlF l n lim k a s o).1, 0 ≤ x ∧ x < (lim : Int))
 | 0, a, s, o, h, hp, hs, hl => ⟨rfl, hp, fun x hx => by have := hs x hx; omega⟩
 | k + 1, a, s, o, h, hp, hs, hl => by
  unfold vlF at h ⊢
  split at h
  ·rename_i he; exact absurd h he
  ·rename_i he
   rw [if_neg he]
   split at h
   ·cases h
   ·rename_i hlim
    rw [if_neg hlim]
    obtain ⟨a1, a2, a3⟩ := MX k (gA l n a) (s + gV l n a) (o ++ [((s + gV l n a : Nat) : Int)]) h
     (List.pairwise_append.2 ⟨hp, List.pairwise_singleton _ _, fun x hx y hy => by rw [List.mem_singleton] at hy; subst hy; have := hs x hx; omega⟩)
     (fun x hx => by
      rcases List.mem_append.1 hx with hx | hx
      ·have := hs x hx; omega
      ·rw [List.mem_singleton] at hx; subst hx; omega) (by omega)
    refine ⟨?_, a2, a3⟩
    rw [a1, List.length_append]
    simp only [List.length_singleton]
    omega
theorem QK {b : List Int} (h0 : BL b ≠ 0) (h : vE b = 0) : (Gb b).1.length = BL b ∧ (Gb b).1.Pairwise (· ≤ ·) ∧ (∀ x ∈ (Gb b).1, 0 ≤ x ∧ x < ((BL b * 784931 : Nat) : Int)) := by
 have hr : (Gb b).2.2 = 0 := by
  unfold vE at h
  split at h
  ·rename_i he; exact absurd h he
  ·unfold vlE at h
   split at h
   ·rename_i he; exact absurd h he
   ·rename_i he; exact Classical.not_not.1 he
 have := MX (l := vS b) (n := (vS b).length) (lim := BL b * 784931) (BL b) 0 0 [] hr List.Pairwise.nil (fun x hx => by cases hx) (by omega)
 rw [List.length_nil, Nat.zero_add] at this
 exact this
theorem pw_get {L : List Int} (h : L.Pairwise (· ≤ ·)) {i : Nat} (h0 : 0 < i) (hi : i < L.length) : L.getD (i - 1) 0 ≤ L.getD i 0 := by
 rw [List.getD_eq_getElem?_getD, List.getD_eq_getElem?_getD, List.getElem?_eq_getElem (by omega), List.getElem?_eq_getElem hi]
 exact List.pairwise_iff_getElem.1 h (i - 1) i (by omega) hi (by omega)
theorem W_grL {L : Liz} {c : Nat} (hc2 : c ≤ 1000) (hL : L.length = c) (hp : L.Pairwise (· ≤ ·)) : ∀ (k i : Nat), i + k = c → 0 < i →
  Wt Try.f4 [] [] (.bool true) (Aa Try.f4 0) (dGR c i L)
 | 0, i, h, h0 => by
  obtain rfl : i = c := by omega
  exact W_grX hc2 JB
 | k + 1, i, h, h0 => W_grS h0 (by omega) hc2 hL rfl rfl (pw_get hp h0 (by omega)) (W_grL hc2 hL hp k (i + 1) (by omega) (by omega))
theorem MW (b : List Int) : vE b ≤ 100 := by
 have hE : KE b ≤ 100 := by
  unfold KE Rd.ve
  split
  ·split
   ·omega
   ·split
    ·omega
    ·split <;> omega
  ·exact Nat.zero_le 100
 unfold vE
 split
 ·exact hE
 ·have hr : ∀ k a s o, (vlF (vS b) (vS b).length (BL b * 784931) k a s o).2.2 ≤ 100 := fun k => by
   induction k with
   | zero => intro a s o; exact Nat.zero_le _
   | succ k ih =>
    intro a s o
    unfold vlF
    split
    ·have := MN (l := vS b) (n := (vS b).length) (a := a); show gE _ _ _ ≤ 100; omega
    ·split
     ·show 5 ≤ 100; omega
     ·exact ih _ _ _
  unfold vlE
  split
  ·exact hr _ _ _ _
  ·split
   ·omega
   ·split <;> omega
theorem pc_gcsReads {nl : Bool} {m : Nat} {b : Liz} (hl : b.length = m) (hb : Bytes b) (hnl : nl = true → m = 0) :
  Pt 4 [] [.vec nl (.iarr .u8 m b)] [] (.bool true) := by
 by_cases hm : 100 < m
 ·exact W_grBig hm JB
 ·have c1 := Qa (nl := nl) hl (by omega) hb hnl
  have c2 := Sy (b := b) (by omega) hb
  by_cases h0 : BL b = 0
  ·rw [if_pos h0, if_pos h0] at c1 c2
   exact W_grE (by omega) hl hb rfl (MW b) c1 c2 (Q6 JB)
  ·rw [if_neg h0, if_neg h0] at c1 c2
   unfold vH vP at c1 c2
   by_cases he : vE b = 0
   ·rw [if_pos he, if_pos he] at c1 c2
    obtain ⟨s1, s2, _⟩ := QK h0 he
    have hc : BL b ≤ 1000 := Rd.PD _ _
    refine W_grIn (by omega) hl hb (by omega) hc s1 c1 c2 (W_gr0 (by omega) hc s1 ?_)
    obtain ⟨k, hk⟩ : ∃ k, BL b = 1 + k := ⟨BL b - 1, by omega⟩
    exact W_grL hc s1 s2 k 1 hk.symm (by omega)
   ·rw [if_neg he, if_neg he] at c1 c2
    exact W_grE (by omega) hl hb rfl (MW b) c1 c2 (Q6 JB)
end Go.Proofs
namespace Go.Pe
def NY (P : Program) (tot : Nat) : Nat → List Field → Bool
 | o, [] => Nat.beq o tot
 | o, f :: l => Nat.beq f.offset o && NY P tot (o + P.cellsOf f.type) l
def okT (P : Program) : Nat → TypeId → Bool
 | 0, _ => false
 | d + 1, t => match P.underlying t with
  | some .bool | some (.int _) | some .string => Nat.beq (P.cellsOf t) 1
  | some (.struct fs) => NY P (P.cellsOf t) 0 fs.toList && fs.toList.all fun f => okT P d f.type
  | some (.array n e) => Nat.beq (P.cellsOf t) (n * P.cellsOf e) && EF P e && okT P d e
  | some (.slice e) => Nat.beq (P.cellsOf t) 1 && EF P e && okT P d e
  | _ => false
theorem Cy (k : IntKind) : IntKind.same k k = true := by cases k <;> rfl
theorem beq_refl (s : Sh) : Sh.beq s s = true :=
 Sh.rec (motive_1 := fun s => Sh.beq s s = true) (motive_2 := fun l => Sh.L6 l l = true) rfl Cy rfl rfl (fun _ _ ih => by simp only [Sh.beq, Bool.and_eq_true]; exact ⟨Nat.beq_refl _, ih⟩)
  (fun k _ => by simp only [Sh.beq, Bool.and_eq_true]; exact ⟨Cy k, Nat.beq_refl _⟩) (fun _ _ _ ih => by simp only [Sh.beq, Bool.and_eq_true]; exact ⟨⟨Nat.beq_refl _, Nat.beq_refl _⟩, ih⟩)
  (fun _ _ ih => by simp only [Sh.beq, Bool.and_eq_true]; exact ⟨Nat.beq_refl _, ih⟩) rfl (fun _ _ h1 h2 => by simp only [Sh.L6, Bool.and_eq_true]; exact ⟨h1, h2⟩) s
structure Jh (P : Program) (w : World) (T : T2) (d : Nat) (t : TypeId) (cs : List Value) (p : PV) : Prop where
 conf : conf (Ci P d t) p = true
 wf : WF p
 noref : noref p = true
 untup : untup p = true
 size : size p = P.cellsOf t
 len : cs.length = P.cellsOf t
 agg : Pe.isAgg p = BJ P t
 rel : ∀ (j : Nat) (q : PV) (u : Value), (flat p)[j]? = some q → cs[j]? = some u → RC w T u q
theorem JJ {α β : Type} {g : α → Option β} : ∀ {l : List α} {xs : List β}, l.mapM g = some xs → ∀ i ∈ l, ∃ y, g i = some y
 | [], _, _, i, hi => by cases hi
 | a :: l, xs, h, i, hi => by
  rw [List.mapM_cons] at h
  simp only [Option.bind_eq_bind, Option.bind_eq_some_iff] at h
  obtain ⟨y, hy, ys, hys, _⟩ := h
  rcases List.mem_cons.1 hi with rfl | hi
  ·exact ⟨y, hy⟩
  ·exact JJ hys i hi
theorem Iu {s : Nat} (hs : 0 < s) : ∀ {l : List PV}, WFL l → (∀ q ∈ l, Pe.size q = s) → ∀ {j : Nat} {q : PV}, (Aj l)[j]? = some q → ∃ p, l[j / s]? = some p ∧ (flat p)[j % s]? = some q
 | [], _, _, j, q, h => by simp [Aj] at h
 | p :: l, hw, hz, j, q, h => by
  simp only [WFL] at hw
  have hl : (flat p).length = s := by rw [Ag p hw.1, hz p (by simp)]
  simp only [Aj] at h
  by_cases hj : j < s
  ·rw [List.getElem?_append_left (by omega)] at h
   refine ⟨p, by rw [Nat.div_eq_of_lt hj]; rfl, by rw [Nat.mod_eq_of_lt hj]; exact h⟩
  ·rw [List.getElem?_append_right (by omega), hl] at h
   obtain ⟨p', h1, h2⟩ := Iu hs hw.2 (fun q hq => hz q (by simp [hq])) h
   have e : j = (j - s) + s := by omega
   refine ⟨p', ?_, ?_⟩
   ·rw [e, Nat.add_div_right _ hs]
    simpa using h1
   ·rw [e, Nat.add_mod_right]; exact h2
def Ck (P : Program) (d : Nat) (e : TypeId) (l : List PV) : PV := match P.underlying e with
 | some (.int k) => .iarr k l.length (l.map PV.num)
 | _ => .parr (P.cellsOf e) l.length (Ci P d e) l
section
variable {P : Program} {w : World} {T : T2}
theorem Nb {d : Nat} {e : TypeId} {k : IntKind} (h : P.underlying e = some (.int k)) : Ci P (d + 1) e = .int k := by simp only [Ci, h]
theorem OJ {d : Nat} {t e : TypeId} (h : P.underlying t = some (.slice e)) : Ci P (d + 1) t = .vec (P.cellsOf e) (Ci P d e) := by simp only [Ci, h]
theorem GQ {d : Nat} {e : TypeId} {l : List PV} (hok : okT P d e = true) (hl : ∀ q ∈ l, Pe.conf (Ci P d e) q = true ∧ WF q ∧ Pe.noref q = true ∧ Pe.untup q = true ∧ Pe.size q = P.cellsOf e) :
  WF (Ck P d e l) ∧ BD (Ck P d e l) = true ∧ Ae (Ck P d e l) = l.length ∧ Aq (Ck P d e l) = P.cellsOf e ∧ Pe.untup (Ck P d e l) = true ∧ flat (Ck P d e l) = Aj l ∧ Pe.size (Ck P d e l) = l.length * P.cellsOf e := by
 have hut : BG l = true := by
  clear hok
  induction l with
  | nil => rfl
  | cons p l ih =>
   simp only [BG, Bool.and_eq_true]
   exact ⟨(hl p (by simp)).2.2.2.1, ih fun q hq => hl q (by simp [hq])⟩
 unfold Ck
 split
 ·rename_i k hu
  obtain ⟨d', rfl⟩ : ∃ d', d = d' + 1 := by cases d with
   | zero => simp [okT] at hok
   | succ d => exact ⟨d, rfl⟩
  have h1 : P.cellsOf e = 1 := by
   simp only [okT, hu] at hok
   exact Nat.eq_of_beq_eq_true hok
  have hq : ∀ q ∈ l, ∃ x, q = .int k x ∧ k.wrap x = x := by
   intro q hq
   have := hl q hq
   rw [Nb hu] at this
   cases q <;> simp only [Pe.conf, reduceCtorEq, false_and] at this
   rename_i k' x
   have hk := IntKind.same_eq this.1
   subst hk
   exact ⟨x, rfl, by simpa only [WF] using this.2.1⟩
  have hf : (l.map PV.num).map (PV.int k) = l := by
   rw [List.map_map]
   conv => rhs; rw [← List.map_id l]
   refine List.map_congr_left fun q hql => ?_
   obtain ⟨x, rfl, _⟩ := hq q hql
   rfl
  have hfl : Aj l = l := by
   clear hok hf
   induction l with
   | nil => rfl
   | cons p l ih =>
    obtain ⟨x, rfl, _⟩ := hq p (by simp)
    simp only [Aj, flat]
    rw [ih (by simp only [BG, Bool.and_eq_true] at hut; exact hut.2) (fun q hq' => hl q (by simp [hq'])) (fun q hq' => hq q (by simp [hq']))]
    rfl
  refine ⟨?_, rfl, rfl, by simp only [Aq]; omega, rfl, by simp only [flat]; rw [hf, hfl], by simp only [Pe.size]; rw [h1, Nat.mul_one]⟩
  simp only [WF, List.length_map, List.mem_map, true_and]
  rintro x ⟨q, hql, rfl⟩
  obtain ⟨x, rfl, hx⟩ := hq q hql
  exact hx
 ·refine ⟨?_, rfl, rfl, rfl, by simpa only [Pe.untup] using hut, rfl, rfl⟩
  simp only [WF]
  exact ⟨trivial, BQ fun q hq => (hl q hq).2.1, fun q hq => ⟨(hl q hq).2.2.2.2, (hl q hq).1, (hl q hq).2.2.1⟩⟩
theorem Nw {d n : Nat} {t e : TypeId} {cs : List Value} (hu : P.underlying t = some (.array n e)) (hc : P.cellsOf t = n * P.cellsOf e) (hok : okT P d e = true) (hs : 0 < P.cellsOf e) (hl : cs.length = P.cellsOf t)
  (h : ∀ i, i < n → ∃ p, Jh P w T d e ((cs.drop (i * P.cellsOf e)).take (P.cellsOf e)) p) : ∃ p, Jh P w T (d + 1) t cs p := by
 have hex : ∀ i, ∃ p, i < n → Jh P w T d e ((cs.drop (i * P.cellsOf e)).take (P.cellsOf e)) p := fun i => by
  by_cases hi : i < n
  ·obtain ⟨p, hp⟩ := h i hi; exact ⟨p, fun _ => hp⟩
  ·exact ⟨.undef, fun h => absurd h hi⟩
 obtain ⟨f, hf⟩ := Classical.axiomOfChoice hex
 have hmem : ∀ q ∈ (List.range n).map f, Pe.conf (Ci P d e) q = true ∧ WF q ∧ Pe.noref q = true ∧ Pe.untup q = true ∧ Pe.size q = P.cellsOf e := by
  intro q hq
  obtain ⟨i, hi, rfl⟩ := List.mem_map.1 hq
  have := hf i (by simpa using hi)
  exact ⟨this.conf, this.wf, this.noref, this.untup, this.size⟩
 obtain ⟨a1, a2, a3, a4, a5, a6, a7⟩ := GQ hok hmem
 have hlen : ((List.range n).map f).length = n := by simp
 refine ⟨Ck P d e ((List.range n).map f), ?_, a1, IE a2, a5, by rw [a7, hlen, hc], hl, ?_, fun j q u hq hu' => ?_⟩
 ·unfold Ck
  simp only [Ci, hu]
  cases hk : P.underlying e with
  | none =>
   simp only [Pe.conf, Bool.and_eq_true, hlen]
   exact ⟨⟨Nat.beq_refl _, Nat.beq_refl _⟩, beq_refl _⟩
  | some dsc => cases dsc with
  | int k =>
   simp only [Pe.conf, Bool.and_eq_true, hlen]
   exact ⟨Cy k, Nat.beq_refl _⟩
  | _ =>
   simp only [Pe.conf, Bool.and_eq_true, hlen]
   exact ⟨⟨Nat.beq_refl _, Nat.beq_refl _⟩, beq_refl _⟩
 ·have : Pe.isAgg (Ck P d e ((List.range n).map f)) = true := by unfold Ck; split <;> rfl
  rw [this]
  simp only [BJ, hu]
 ·rw [a6] at hq
  have hwl : WFL ((List.range n).map f) := BQ fun q hq => (hmem q hq).2.1
  obtain ⟨p, h1, h2⟩ := Iu hs hwl (fun q hq => (hmem q hq).2.2.2.2) hq
  have hjn : j / P.cellsOf e < n := by have := (List.getElem?_eq_some_iff.1 h1).1; simpa using this
  have hp : p = f (j / P.cellsOf e) := by simp [hjn] at h1; exact h1.symm
  subst hp
  refine (hf _ hjn).rel (j % P.cellsOf e) q u h2 ?_
  rw [List.getElem?_take, if_pos (Nat.mod_lt _ hs), List.getElem?_drop, ← hu']
  congr 1
  rw [Nat.mul_comm]
  exact Nat.div_add_mod j (P.cellsOf e)
theorem G9 {d tot : Nat} {cs : List Value} (hl : cs.length = tot) : ∀ {fs : List Field} {o : Nat}, NY P tot o fs = true → (∀ f ∈ fs, okT P d f.type = true ∧ ∃ p, Jh P w T d f.type ((cs.drop f.offset).take (P.cellsOf f.type)) p) →
  ∃ ps, Fe (fs.map fun f => Ci P d f.type) ps = true ∧ WFL ps ∧ Ct ps = true ∧ BG ps = true ∧ o + AA ps = tot ∧ ∀ (j : Nat) (q : PV) (u : Value), (Aj ps)[j]? = some q → cs[o + j]? = some u → RC w T u q
 | [], o, h, _ => by
  simp only [NY] at h
  exact ⟨[], rfl, by simp [WFL], rfl, rfl, by simp only [AA]; exact Nat.eq_of_beq_eq_true h, fun j q u hq => by simp [Aj] at hq⟩
 | f :: fs, o, h, hf => by
  simp only [NY, Bool.and_eq_true] at h
  obtain ⟨h1, h2⟩ := h
  have ho := Nat.eq_of_beq_eq_true h1
  obtain ⟨_, p, hp⟩ := hf f (by simp)
  obtain ⟨ps, g1, g2, g3, g4, g5, g6⟩ := G9 hl h2 fun x hx => hf x (by simp [hx])
  refine ⟨p :: ps, by simp only [List.map_cons, Fe, Bool.and_eq_true]; exact ⟨hp.conf, g1⟩, by simp only [WFL]; exact ⟨hp.wf, g2⟩, by simp only [Ct, Bool.and_eq_true]; exact ⟨hp.noref, g3⟩, by simp only [BG, Bool.and_eq_true]; exact ⟨hp.untup, g4⟩, by simp only [AA, hp.size]; omega, fun j q u hq hu => ?_⟩
  simp only [Aj] at hq
  have hlp : (flat p).length = P.cellsOf f.type := by rw [Ag p hp.wf, hp.size]
  by_cases hj : j < P.cellsOf f.type
  ·rw [List.getElem?_append_left (by omega)] at hq
   refine hp.rel j q u hq ?_
   rw [List.getElem?_take, if_pos hj, List.getElem?_drop, ho]
   exact hu
  ·rw [List.getElem?_append_right (by omega), hlp] at hq
   refine g6 _ q u hq ?_
   rw [← hu]
   congr 1
   omega
end
section
variable {H : Type} {enc : TypeId × Value → H} {P : Program} {w : World} {base : Nat} {spare : Nat → Bool} {held : Bool}
theorem I1 {a : Addr} {n : Nat} {cs : List Value} (h : w.cells? base a n = some cs) : cs.length = n ∧ ∀ j u, cs[j]? = some u → w.cell? (a.add j) = some u := by
 unfold World.cells? at h
 split at h
 ·have : ∀ {l : List Nat} {xs : List Value}, l.mapM (fun i => w.cell? (a.add i)) = some xs → xs.length = l.length ∧ ∀ (j : Nat) (i : Nat) (u : Value), l[j]? = some i → xs[j]? = some u → w.cell? (a.add i) = some u := by
   intro l
   induction l with
   | nil => intro xs h; simp at h; subst h; exact ⟨rfl, fun j i u hi => by simp at hi⟩
   | cons b l ih =>
    intro xs h
    rw [List.mapM_cons] at h
    simp only [Option.bind_eq_bind, Option.bind_eq_some_iff, Option.pure_def, Option.some.injEq] at h
    obtain ⟨y, hy, ys, hys, rfl⟩ := h
    obtain ⟨e1, e2⟩ := ih hys
    refine ⟨by simp [e1], fun j i u hi hu => ?_⟩
    cases j with
    | zero => simp at hi hu; subst hi; subst hu; exact hy
    | succ j => simp at hi hu; exact e2 j i u hi hu
  obtain ⟨e1, e2⟩ := this h
  refine ⟨by simpa using e1, fun j u hu => ?_⟩
  have hj : j < n := by have := (List.getElem?_eq_some_iff.1 hu).1; simp at e1; omega
  exact e2 j j u (by simp [hj]) hu
 ·cases h
theorem ER : ∀ (d : Nat) (t : TypeId) (fuel : Nat) (cs : List Value) (x : DataW H × List MemPlace), okT P d t = true → DataW.trod enc P w base spare held fuel t cs = some x → ∃ p, Jh P w (fun b _ => b < w.heap.size) d t cs p
 | 0, _, _, _, _, h, _ => by simp [okT] at h
 | d + 1, t, 0, cs, x, _, h => by simp [DataW.trod] at h
 | d + 1, t, fuel + 1, cs, x, hok, h => by
  have hsz : ∀ e, EF P e = true → 0 < P.cellsOf e := fun e he => Nat.pos_of_ne_zero (Bt he)
  simp only [okT] at hok
  split at hok
  ·rename_i hu
   have hc := Nat.eq_of_beq_eq_true hok
   obtain ⟨b, rfl, _⟩ := DataW.trod_bool hu h
   refine ⟨.bool b, by simp only [Ci, hu]; rfl, trivial, rfl, rfl, hc.symm, by rw [hc]; rfl, by simp only [BJ, hu]; rfl, fun j q u hq hu' => ?_⟩
   cases j with
   | zero => simp [flat] at hq hu'; subst hq; subst hu'; exact .bool b
   | succ j => simp [flat] at hq
  ·rename_i k hu
   have hc := Nat.eq_of_beq_eq_true hok
   obtain ⟨n, rfl, _, hwf⟩ := DataW.trod_int hu h
   have hw : k.wrap n = n := by
    rw [Aw]
    simpa [Lit.wf, IntKind.has] using hwf
   refine ⟨.int k n, by simp only [Ci, hu, conf]; cases k <;> rfl, by simp only [WF]; exact hw, rfl, rfl, hc.symm, by rw [hc]; rfl, by simp only [BJ, hu]; rfl, fun j q u hq hu' => ?_⟩
   cases j with
   | zero => simp [flat] at hq hu'; subst hq; subst hu'; exact .int k n
   | succ j => simp [flat] at hq
  ·rename_i hu
   have hc := Nat.eq_of_beq_eq_true hok
   obtain ⟨s, rfl, _, hs⟩ := DataW.trod_string hu h
   refine ⟨.str s, by simp only [Ci, hu]; rfl, trivial, rfl, rfl, hc.symm, by rw [hc]; rfl, by simp only [BJ, hu]; rfl, fun j q u hq hu' => ?_⟩
   cases j with
   | zero => simp [flat] at hq hu'; subst hq; subst hu'; exact .str s hs
   | succ j => simp [flat] at hq
  ·rename_i fs hu
   simp only [Bool.and_eq_true, List.all_eq_true] at hok
   simp only [DataW.trod, hu] at h
   split at h
   ·rename_i hl
    simp only [Option.map_eq_some_iff] at h
    obtain ⟨xs, hxs, _⟩ := h
    obtain ⟨ps, g1, g2, g3, g4, g5, g6⟩ := G9 (P := P) (w := w) (T := fun b _ => b < w.heap.size) (d := d) hl hok.1 (fun f hf => ⟨hok.2 f hf, by
     obtain ⟨y, hy⟩ := JJ hxs f hf
     exact ER d f.type fuel _ y (hok.2 f hf) hy⟩)
    refine ⟨.st (P.cellsOf t) ps, by simp only [Ci, hu, conf, Bool.and_eq_true]; exact ⟨Nat.beq_refl _, g1⟩, by simp only [WF]; exact ⟨by omega, g2⟩, by simp only [noref]; exact g3, by simp only [untup]; exact g4, rfl, hl, by simp only [BJ, hu]; rfl, fun j q u hq hu' => ?_⟩
    simp only [flat] at hq
    exact g6 j q u hq (by rw [Nat.zero_add]; exact hu')
   ·cases h
  ·rename_i n e hu
   simp only [Bool.and_eq_true] at hok
   have hc := Nat.eq_of_beq_eq_true hok.1.1
   simp only [DataW.trod, hu] at h
   split at h
   ·rename_i hl
    simp only [Option.map_eq_some_iff] at h
    obtain ⟨xs, hxs, _⟩ := h
    exact Nw hu hc hok.2 (hsz e hok.1.2) hl fun i hi => by
     obtain ⟨y, hy⟩ := JJ hxs i (by simpa using hi)
     exact ER d e fuel _ y hok.2 hy
   ·cases h
  ·rename_i e hu
   simp only [Bool.and_eq_true] at hok
   have hc := Nat.eq_of_beq_eq_true hok.1.1
   have hpos := hsz e hok.1.2
   have hone : ∀ (v : Value) (c : PV) (nl : Bool), cs = [v] → WF (.vec nl c) → Pe.conf (Ci P (d + 1) t) (.vec nl c) = true → RC w (fun b _ => b < w.heap.size) v (.vec nl c) → ∃ p, Jh P w (fun b _ => b < w.heap.size) (d + 1) t cs p := by
    rintro v c nl rfl h1 h2 h3
    refine ⟨.vec nl c, h2, h1, rfl, rfl, hc.symm, by rw [hc]; rfl, by simp only [BJ, hu]; rfl, fun j q u hq hu' => ?_⟩
    cases j with
    | zero => simp [flat] at hq hu'; subst hq; subst hu'; exact h3
    | succ j => simp [flat] at hq
   have hshape : ∀ l : List PV, ∀ nl, Pe.conf (Ci P (d + 1) t) (.vec nl (Ck P d e l)) = true := by
    intro l nl
    obtain ⟨d', rfl⟩ : ∃ d', d = d' + 1 := by cases d with
     | zero => simp [okT] at hok
     | succ d => exact ⟨d, rfl⟩
    have hsh : Ci P (d' + 1 + 1) t = .vec (P.cellsOf e) (Ci P (d' + 1) e) := OJ hu
    rw [hsh]
    by_cases hk : ∃ k, P.underlying e = some (.int k)
    ·obtain ⟨k, hk⟩ := hk
     have : Ck P (d' + 1) e l = .iarr k l.length (l.map PV.num) := by simp only [Ck, hk]
     rw [this, Nb hk]
     simp only [Pe.conf]
     exact Cy k
    ·have : Ck P (d' + 1) e l = .parr (P.cellsOf e) l.length (Ci P (d' + 1) e) l := by
      unfold Ck
      split
      ·rename_i k hk'; exact absurd ⟨k, hk'⟩ hk
      ·rfl
     rw [this]
     have hni : Sh.isInt (Ci P (d' + 1) e) = false := by
      cases he : P.underlying e with
      | none => simp only [Ci, he, Sh.isInt]
      | some dsc => cases dsc with
       | int k => exact absurd ⟨k, he⟩ hk
       | array n e' =>
        simp only [Ci, he]
        split <;> rfl
       | _ => simp only [Ci, he, Sh.isInt]
     cases hs2 : Ci P (d' + 1) e with
     | int k => rw [hs2] at hni; simp [Sh.isInt] at hni
     | _ => simp only [Pe.conf, Bool.and_eq_true, Sh.isInt, Bool.not_false, true_and]; exact ⟨Nat.beq_refl _, beq_refl _⟩
   rcases DataW.trod_slice hu h with ⟨hx, _⟩ | ⟨a, len, cap, elems, rest, n, hf, hx, _, _, h1, h2, h3, h4, _⟩
   ·obtain ⟨a1, a2, a3, _⟩ := GQ (P := P) (d := d) (e := e) (l := []) hok.2 (fun q hq => by cases hq)
    exact hone _ (Ck P d e []) true hx (by simp only [WF]; exact ⟨a1, a2, fun _ => a3⟩) (hshape [] true) (.vec0 _ _ _ _ a3 rfl (fun _ => rfl))
   ·have hfu : n = fuel := by omega
    subst hfu
    have hex : ∀ i, ∃ p, i < len → ∃ cs', w.cells? base (a.add (i * P.cellsOf e)) (P.cellsOf e) = some cs' ∧ Jh P w (fun b _ => b < w.heap.size) d e cs' p := fun i => by
     by_cases hi : i < len
     ·have := h4 i hi
      rw [List.getElem?_eq_getElem (by omega), Option.bind_eq_some_iff] at this
      obtain ⟨cs', c1, c2⟩ := this
      obtain ⟨p, hp⟩ := ER d e n cs' _ hok.2 c2
      exact ⟨p, fun _ => ⟨cs', c1, hp⟩⟩
     ·exact ⟨.undef, fun h => absurd h hi⟩
    obtain ⟨f, hf⟩ := Classical.axiomOfChoice hex
    have hmem : ∀ q ∈ (List.range len).map f, Pe.conf (Ci P d e) q = true ∧ WF q ∧ Pe.noref q = true ∧ Pe.untup q = true ∧ Pe.size q = P.cellsOf e := by
     intro q hq
     obtain ⟨i, hi, rfl⟩ := List.mem_map.1 hq
     obtain ⟨cs', _, hp⟩ := hf i (by simpa using hi)
     exact ⟨hp.conf, hp.wf, hp.noref, hp.untup, hp.size⟩
    obtain ⟨a1, a2, a3, a4, a5, a6, a7⟩ := GQ hok.2 hmem
    have hlen : ((List.range len).map f).length = len := by simp
    rw [hlen] at a3
    rcases Nat.eq_zero_or_pos len with h0 | h0
    ·subst h0
     exact hone _ (Ck P d e ((List.range 0).map f)) false hx (by simp only [WF]; exact ⟨a1, a2, fun e => by cases e⟩) (hshape _ false) (.vec0 _ _ _ _ a3 rfl (fun e => by cases e))
    ·have hsp : a.spot = none := by
      obtain ⟨cs', c1, hp⟩ := hf 0 h0
      obtain ⟨e1, e2⟩ := I1 c1
      have := e2 0 cs'[0] (List.getElem?_eq_getElem (by omega))
      unfold World.cell? at this
      split at this
      ·split at this
       ·cases this
       ·rename_i hs
        simpa [Addr.add] using hs
      ·cases this
     obtain ⟨bk, o, sp⟩ := a
     simp only at hsp
     subst hsp
     have hcell : ∀ j, ∃ u, ∀ q, (flat (Ck P d e ((List.range len).map f)))[j]? = some q → w.cell? ⟨bk, o + j, none⟩ = some u ∧ RC w (fun b _ => b < w.heap.size) u q := by
      intro j
      cases hj : (flat (Ck P d e ((List.range len).map f)))[j]? with
      | none => exact ⟨Go.undef, fun q hq => by cases hq⟩
      | some q =>
       rw [a6] at hj
       obtain ⟨p, p1, p2⟩ := Iu hpos (BQ fun q hq => (hmem q hq).2.1) (fun q hq => (hmem q hq).2.2.2.2) hj
       have hjn : j / P.cellsOf e < len := by have := (List.getElem?_eq_some_iff.1 p1).1; simpa using this
       have hp : p = f (j / P.cellsOf e) := by simp [hjn] at p1; exact p1.symm
       subst hp
       obtain ⟨cs', c1, hp⟩ := hf _ hjn
       obtain ⟨e1, e2⟩ := I1 c1
       have hm : j % P.cellsOf e < cs'.length := by rw [e1]; exact Nat.mod_lt _ hpos
       refine ⟨cs'[j % P.cellsOf e], fun q' hq' => ?_⟩
       cases hq'
       refine ⟨?_, hp.rel _ q _ p2 (List.getElem?_eq_getElem hm)⟩
       have := e2 _ _ (List.getElem?_eq_getElem hm)
       rw [Bo, Bo] at this
       rw [← this]
       congr 2
       rw [Nat.add_assoc, Nat.mul_comm, Nat.div_add_mod]
     obtain ⟨us, hus⟩ := Classical.axiomOfChoice hcell
     exact hone _ (Ck P d e ((List.range len).map f)) false hx (by simp only [WF]; exact ⟨a1, a2, fun e => by cases e⟩) (hshape _ false)
      (.vec1 _ _ _ _ _ us a3 h1 h2 (fun j q hq => ⟨DZ (hus j q hq).1, (hus j q hq).1⟩) (fun j q hq => (hus j q hq).2))
  ·cases hok
end
end Go.Pe
namespace Go.Pe
open Go.ChangeShapes Go.WideShapes Go.ChangeAt Go.RowKit
section
variable {H : Type} {enc : TypeId × Value → H} {P : Program}
theorem OU {f : Func} {s : ChangeSpec} {apart fresh handsOn again : Bool} {W W' : World} {args : Array Value} {v : Value} {ds gs : List (DataW H)} {before pa pv : List MemPlace}
  (hW : DataW.Whole enc P f.params.toList s.vars apart W args.toList ds gs before)
  (hres : ∀ (b : Nat) (sp : Nat → Bool) (hd : Bool), DataW.TrodAll enc P W' b sp hd f.resultTypes.toList (v.resultList f.resultTypes.size) (s.fn H (ds ++ gs)).results [])
  (hargs : ∀ sp : Nat → Bool, (∀ p ∈ before, sp p.block = true) → DataW.TrodAll enc P W' 0 sp true f.params.toList args.toList (s.fn H (ds ++ gs)).args pa)
  (hvars : ∀ sp : Nat → Bool, (∀ p ∈ before, sp p.block = true) → DataW.TrodVars enc P W' sp s.vars (s.fn H (ds ++ gs)).vars pv)
  (hps : before = pa ++ pv) (hb : Below W.heap.size W W')
  (hok : ∀ (j : Nat) (t : TypeId) (r : Value), f.resultTypes[j]? = some t → (v.resultList f.resultTypes.size)[j]? = some r → Value.okWide P W' .any 0 t r) :
  s.post enc P f apart fresh handsOn again W args v W' := by
 have hlt : ∀ p ∈ before, p.block < W.heap.size := fun p hp => hW.lt p hp
 have hold : ∀ p ∈ before, (fun b => decide (b < W.heap.size)) p.block = true := fun p hp => by simpa using hlt p hp
 refine ⟨ds, gs, before, [], pa, pv, hW, hres _ _ _, hargs _ hold, hvars _ hold, World.keptBut_mono (fun p hp => ⟨hp, ?_⟩) (hb.frame (· ∈ before)), fun _ => ?_⟩
 ·rw [hps, List.mem_append] at hp
  exact Or.inr hp
 ·obtain ⟨_, _, _, _, _, hz, hn⟩ := hW
  refine ⟨hok, _, _, ([] ++ pa) ++ pv, ⟨[] ++ pa, pv, trodAll_append (hargs _ (fun _ _ => rfl)) (hres _ _ _), hvars _ (fun _ _ => rfl), rfl, ?_, ?_⟩, ?_⟩
  ·intro b off hp
   have hin : MemPlace.cell b off ∈ before := by rw [hps]; simpa using hp
   rw [hb.frozen (hlt _ hin)]
   exact hz b off hin
  ·intro ha
   have := hn ha
   rw [hps] at this
   simpa using this
  ·intro p hp _
   rw [hps]
   simpa using hp
theorem Gm (hl : laidOutB P = true) {W W' : World} (hb : Below W.heap.size W W') {sp : Nat → Bool} : ∀ {ts : List TypeId} {vs : List Value} {ds : List (DataW H)} {ps : List MemPlace}, (∀ t ∈ ts, P.readableRec t = true ∧ t < P.types.size) →
  DataW.TrodAll enc P W 0 (fun _ => true) true ts vs ds ps → (∀ p ∈ ps, sp p.block = true) → DataW.TrodAll enc P W' 0 sp true ts vs ds ps
 | [], [], [], _, _, h, _ => h
 | t :: ts, v :: vs, d :: ds, ps, ht, h, hs => by
  have hlt := h.lt
  obtain ⟨p, q, h1, h2, rfl⟩ := h
  exact ⟨p, q, WideElems.Trod_stays hl (ht t (by simp)).1 (ht t (by simp)).2 h1 (fun x hx => hb.same (hlt x (by simp [hx]))) (fun x hx => hs x (by simp [hx])),
   Gm hl hb (fun t ht' => ht t (by simp [ht'])) h2 (fun x hx => hs x (by simp [hx])), rfl⟩
 | [], _ :: _, _, _, _, h, _ => by simp [DataW.TrodAll] at h
 | [], [], _ :: _, _, _, h, _ => by simp [DataW.TrodAll] at h
 | _ :: _, [], _, _, _, h, _ => by simp [DataW.TrodAll] at h
 | _ :: _, _ :: _, [], _, _, h, _ => by simp [DataW.TrodAll] at h
structure Ins (P : Program) (ts : List TypeId) (ps : List PV) : Prop where
 conf : Fe (ts.map (Ci P 9)) ps = true
 wf : WFL ps
 untup : BG ps = true
theorem Rs {W : World} {base : Nat} {t : TypeId} {v : Value} {p : PV} (hv : Value.okWide P W .any base t v) (h : Jh P W (fun b _ => b < W.heap.size) 9 t v.cells.toList p) : RV W (fun b _ => b < W.heap.size) (fun _ => none) v p := by
 have hnt : ∀ vs, p ≠ .tup vs := fun vs e => by have := h.untup; subst e; simp [Pe.untup] at this
 cases ha : Pe.isAgg p with
 | true =>
  have hat : BJ P t = true := by rw [← h.agg]; exact ha
  have : ∃ cs, v = .agg cs := by
   unfold BJ at hat
   unfold Value.okWide at hv
   split at hat
   ·rename_i fs hu
    rw [hu] at hv
    obtain ⟨cs, hc, _⟩ := hv
    exact ⟨cs, hc⟩
   ·rename_i n e hu
    rw [hu] at hv
    obtain ⟨cs, hc, _⟩ := hv
    exact ⟨cs, hc⟩
   ·cases hat
  obtain ⟨cs, rfl⟩ := this
  refine RV.Ib ha h.wf ⟨cs, rfl, ?_, fun j q u hq hu => RO.BA (h.rel j q u hq ?_)⟩
  ·have := h.len
   simp only [Value.cells, Array.length_toList] at this
   rw [this, h.size]
  ·simpa [Value.cells] using hu
 | false =>
  have hl : Pe.leaf p = true := by rw [Pe.leaf_agg, ha]; rfl
  have hone : v.cells = #[v] := by
   have hnagg : ∀ cs, v ≠ .agg cs := by
    rintro cs rfl
    have hat : BJ P t = false := by rw [← h.agg]; exact ha
    unfold Value.okWide at hv
    unfold BJ at hat
    split at hv
    ·rename_i fs hu; rw [hu] at hat; cases hat
    ·rename_i n e hu; rw [hu] at hat; cases hat
    ·unfold Cell.okWide at hv
     split at hv <;> simp_all [Cell.ok]
   cases v <;> first | rfl | exact absurd rfl (hnagg _)
  refine RV.AJ hl hnt h.wf (RO.BA (h.rel 0 p v (by rw [Ez hl]; rfl) (by rw [hone]; rfl)))
theorem Tw {W : World} {base : Nat} : ∀ {ts : List TypeId} {vs : List Value} {ds : List (DataW H)} {ps : List MemPlace}, (∀ t ∈ ts, okT P 9 t = true) → (∀ (j : Nat) t v, ts[j]? = some t → vs[j]? = some v → Value.okWide P W .any base t v) →
  DataW.TrodAll enc P W 0 (fun _ => true) true ts vs ds ps → ∃ qs, Ins P ts qs ∧ qs.length = vs.length ∧ ∀ (j : Nat) (p : PV) (v : Value), qs[j]? = some p → vs[j]? = some v → RV W (fun b _ => b < W.heap.size) (fun _ => none) v p
 | [], [], [], _, _, _, _ => ⟨[], ⟨rfl, by simp [WFL], rfl⟩, rfl, fun j p v hp => by simp at hp⟩
 | t :: ts, v :: vs, d :: ds, ps, ht, hv, h => by
  obtain ⟨p, q, ⟨fuel, h1⟩, h2, rfl⟩ := h
  obtain ⟨x, hx⟩ := ER 9 t fuel _ _ (ht t (by simp)) h1
  obtain ⟨qs, g1, g2, g3⟩ := Tw (fun t' h' => ht t' (by simp [h'])) (fun j t' v' hj hj' => hv (j + 1) t' v' (by simpa using hj) (by simpa using hj')) h2
  refine ⟨x :: qs, ⟨by simp only [List.map_cons, Fe, Bool.and_eq_true]; exact ⟨hx.conf, g1.conf⟩, by simp only [WFL]; exact ⟨hx.wf, g1.wf⟩, by simp only [BG, Bool.and_eq_true]; exact ⟨hx.untup, g1.untup⟩⟩, by simp [g2], fun j p' v' hp hv' => ?_⟩
  cases j with
  | zero =>
   simp at hp hv'
   subst hp; subst hv'
   exact Rs (hv 0 t v rfl rfl) hx
  | succ j => simp at hp hv'; exact g3 j p' v' hp hv'
 | [], _ :: _, _, _, _, _, h => by simp [DataW.TrodAll] at h
 | [], [], _ :: _, _, _, _, h => by simp [DataW.TrodAll] at h
 | _ :: _, [], _, _, _, _, h => by simp [DataW.TrodAll] at h
 | _ :: _, _ :: _, [], _, _, _, h => by simp [DataW.TrodAll] at h
theorem NH {w w' : World} {M : T2} (hM : ∀ b o, ¬ M b o) (h : FR M w w') : Below w.heap.size w w' := by
 refine ⟨h.os, h.tape, h.output, h.size, fun k hk => ?_⟩
 rcases h.block k hk with e | ⟨_, _, _, _, _, _, m3⟩ | ⟨cs, cs', t, fz, e1, e2, e3, e4⟩
 ·exact e.symm
 ·exact absurd m3 (hM k 0)
 ·rw [e1, e2]
  have : cs' = cs := by
   apply Array.ext_getElem?
   intro i
   exact e4 i (hM k i)
  rw [this]
theorem law_calls {f : FuncId} {fn : Func} {s : ChangeSpec} {apart fresh handsOn again : Bool} {tb : TypeId} (hl : laidOutB P = true) (hvars : s.vars = []) (hr : fn.resultTypes = #[tb]) (hb : P.underlying tb = some .bool)
  (hbody : Mg P f) (hspec : ∀ ds : List (DataW H), ds.length = fn.params.toList.length → s.fn H ds = { results := [.lit (.bool true)], args := ds })
  (ht : fn.params.toList.all (fun t => okT P 9 t && P.readableRec t && Nat.blt t P.types.size) = true)
  (hpc : ∀ ps, Ins P fn.params.toList ps → PC P (fun _ => none) f [] ps [] (.bool true))
  {W : World} {base : Nat} {args : Array Value} {ds gs : List (DataW H)} {before : List MemPlace}
  (hval : ∀ (j : Nat) t v, fn.params[j]? = some t → args[j]? = some v → Value.okWide P W .any base t v)
  (hW : DataW.Whole enc P fn.params.toList s.vars apart W args.toList ds gs before) :
  Calls P f args W fun e W' => ∃ v, e = .returned v ∧ s.post enc P fn apart fresh handsOn again W args v W' := by
 have ht' : ∀ t ∈ fn.params.toList, okT P 9 t = true ∧ P.readableRec t = true ∧ t < P.types.size := by
  intro t h
  have := List.all_eq_true.1 ht t h
  simp only [Bool.and_eq_true] at this
  exact ⟨this.1.1, this.1.2, Nat.blt_eq ▸ this.2⟩
 have hW' := hW
 obtain ⟨p, q, hA, hV, rfl, hz, hn⟩ := hW
 rw [hvars] at hV
 obtain ⟨rfl, rfl⟩ := trodVars_none hV
 obtain ⟨l1, l2⟩ := trodAll_length hA
 obtain ⟨qs, g1, g2, g3⟩ := Tw (base := base) (fun t h => (ht' t h).1) (fun j t v h1 h2 => hval j t v (by rw [← Array.getElem?_toList]; exact h1) (by rw [← Array.getElem?_toList]; exact h2)) hA
 have hM : ∀ b o, ¬ Mut (fun _ => none) (Ad ([] : List (Nat × Row))) b o := by
  rintro b o ⟨i, r, pl, h1, _⟩
  simp [Ad] at h1
 have hc := hpc qs g1
 refine Calls.mono (Enters.calls hbody (hc (fun b _ => b < W.heap.size) (fun _ => none) W args (fun b o _ => hM b o) ⟨fun i r hi => by simp [Ad] at hi, fun i i' r r' pl pl' _ h1 => by simp [Ad] at h1⟩ (fun _ _ => rfl) (fun g c hg => by cases hg)
  (by rw [g2]; simp) (fun j p v hp hv _ => g3 j p v hp (by rw [Array.getElem?_toList]; exact hv)))) fun e W' he => ?_
 obtain ⟨v, ρ', rfl, r1, _, _, r4, _⟩ := he
 have hvb : v = .bool true := by
  have := r1.AZ rfl (fun _ e => by cases e)
  simp only [RO] at this
  cases this
  rfl
 subst hvb
 have hbel := NH hM r4
 have hsp := hspec ds l2
 refine ⟨_, rfl, OU (pa := p) (pv := []) hW' ?_ ?_ ?_ (by simp) hbel ?_⟩
 ·intro b sp hd
  rw [List.append_nil, hsp, hr]
  exact trodAll_mk1 (shut_bool hb true)
 ·intro sp hs
  rw [List.append_nil, hsp]
  exact Gm hl hbel (fun t h => (ht' t h).2) hA (fun x hx => hs x (by simp [hx]))
 ·intro sp hs
  rw [List.append_nil, hsp, hvars]
  rfl
 ·rw [hr]
  exact ok_one (f := { fn with resultTypes := #[tb] }) rfl rfl (okWide_bool_mk hb true)
end
end Go.Pe
