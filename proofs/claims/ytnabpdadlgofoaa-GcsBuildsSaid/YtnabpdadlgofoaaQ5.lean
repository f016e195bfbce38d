/- Merged texts: the pure machine and what the walks show. Conditions: as each statement says. -/
import Derived.Carry
import Derived.ChangeArms
import Derived.ChangeSame
import Derived.ChangeCalls
import Derived.JoinedOf
import Derived.Handed
import Derived.OpenShut
import Derived.RowKit
import Derived.ProofKit
import Derived.Test.YtnabpdadlgofoaaQ4
set_option linter.unusedSimpArgs false
set_option linter.unusedVariables false
namespace Go.Proofs
open Go Go.Pe Go.Pm
set_option maxRecDepth 100000
set_option linter.unusedVariables false
attribute [local irreducible] lv
def bwR (id k n : Nat) : Row := ⟨.st 2 [.ref id [] 1 0 k, .int .i64 n], false⟩
def bwE : Row := ⟨.st 2 [.vec true (.iarr .u8 0 []), .int .i64 0], false⟩
def bwB (k : Nat) (l : List Int) : Row := ⟨.iarr .u8 k l, false⟩
def bwS (n x : Nat) (l : List Int) : List Int := l.set (n / 8) (((at0 l (n / 8) ||| x % 2 * 2 ^ (7 - n % 8) % 256 : Nat) : Nat) : Int)
theorem Sc : Pt 47 [] [] [(0, bwE)] (.at 0 []) := by
 refine pO Try.func47 (by kernel_rfl) ?_
 refine W.rtA [] [(96, 0)] [] trivial
theorem pc_oneC {n k x : Nat} {l : Liz} (hb : Bytes l) (hl : l.length = k) (hn : n ≤ 10000000) (h8 : n % 8 ≠ 0) (hk : n / 8 < k) (hx : x < 18446744073709551616) :
  Pt 88 [(0, bwR 1 k n), (1, bwB k l)] [.at 0 [], .int .u64 x] [(0, bwR 1 k (n + 1)), (1, bwB k (bwS n x l))] (.tup []) := by
 refine pO Try.func88 (by kernel_rfl) ?_
 obtain ⟨e, h1⟩ := hb.get (n / 8)
 have he : (7 : Int) - ((n % 8 : Nat) : Int) = ((7 - n % 8 : Nat) : Int) := by omega
 have h2 : x % 2 * 2 ^ (7 - n % 8) % 256 < 256 := Nat.mod_lt _ (by decide)
 have h7 : n % 8 < 8 := Nat.mod_lt _ (by decide)
 have h3 : at0 l (n / 8) ||| x % 2 * 2 ^ (7 - n % 8) % 256 < 256 := Nat.or_lt_two_pow (n := 8) h1 h2
 unfold bwS
 generalize 7 - n % 8 = j at *
 generalize at0 l (n / 8) = b at *
 refine W.rtA [(4, aV (I6 ↑(n % 8))), (5, aF), (14, aV (I6 ↑(n / 8))), (15, aV (PV.at 1 [Stp.idx (n / 8) 1])), (16, aV (U8 b)), (18, aV (U6 ↑(x % 2))), (19, aV (U8 ↑(x % 2))), (24, aV (I6 ↑(n % 8))), (25, aV (I6 j)), (26, aV (U8 ↑(x % 2 * 2 ^ j % 256))), (27, aV (U8 ↑(b ||| x % 2 * 2 ^ j % 256))), (28, aV (PV.at 1 [Stp.idx (n / 8) 1])), (34, aV (I6 ↑(n + 1)))] [(0, 0), (1, 1)] [I6 (Int.tmod (n:Int) (8 : Int)) = I6 ↑(n % 8), (8 : Int) ≠ 0, ((↑(n % 8) : Int) == 0) = false, I6 (IntKind.wrap .i64 (Int.tdiv (n:Int) (8 : Int))) = I6 ↑(n / 8), (8 : Int) ≠ 0, PV.at 1 [Stp.idx (0 + Int.toNat (↑(n / 8) : Int)) 1] = PV.at 1 [Stp.idx (n / 8) 1], 0 ≤ (↑(n / 8) : Int), (↑(n / 8) : Int) < (k:Int), U8 (List.getD l (n / 8) (0 : Int)) = U8 b, n / 8 < k, U6 (bits BinOp.and .u64 (x:Int) (1 : Int)) = U6 ↑(x % 2), U8 (IntKind.wrap .u8 (↑(x % 2) : Int)) = U8 ↑(x % 2), I6 (Int.tmod (n:Int) (8 : Int)) = I6 ↑(n % 8), (8 : Int) ≠ 0, I6 (IntKind.wrap .i64 (7 - (↑(n % 8) : Int))) = I6 j, U8 (IntKind.wrap .u8 ((↑(x % 2) : Int) * (2 : Int) ^ min j 8)) = U8 ↑(x % 2 * 2 ^ j % 256), 0 ≤ (j:Int), U8 (bits BinOp.or .u8 (b:Int) (↑(x % 2 * 2 ^ j % 256) : Int)) = U8 ↑(b ||| x % 2 * 2 ^ j % 256), PV.at 1 [Stp.idx (0 + Int.toNat (↑(n / 8) : Int)) 1] = PV.at 1 [Stp.idx (n / 8) 1], 0 ≤ (↑(n / 8) : Int), (↑(n / 8) : Int) < (k:Int), n / 8 < k, I6 (IntKind.wrap .i64 ((n:Int) + 1)) = I6 ↑(n + 1)] (ac (cg rfl) (ac (by omega) (ac (dF (by omega)) (ac (wj (by omega)) (ac (by omega) (ac (by (rw [show Int.toNat (↑(n / 8) : Int) = n / 8 by omega]; simp only [Nat.zero_add])) (ob2 (by omega) (ac (cg (e)) (ac (by omega) (ac (cg (DX 1 rfl rfl (by omega) (by decide))) (ac (cg (KX rfl (by omega) (by omega))) (ac (cg rfl) (ac (by omega) (ac (cg (Ab he (by omega) (by omega))) (ac (cg (shl_u8 (y := ((j : Nat) : Int)) rfl rfl)) (ac (by omega) (ac (cg (Pb rfl rfl (by omega) (by omega))) (ac (by (rw [show Int.toNat (↑(n / 8) : Int) = n / 8 by omega]; simp only [Nat.zero_add])) (ob3 (by omega) (ao (wj (by omega))))))))))))))))))))))
theorem pc_oneA {x : Nat} (hx : x < 18446744073709551616) :
  Pt 88 [(0, bwE)] [.at 0 [], .int .u64 x] [(0, bwR 1 1 1), (1, bwB 1 [((x % 2 * 128 : Nat) : Int)])] (.tup []) := by
 refine pO Try.func88 (by kernel_rfl) ?_
 have h0 : bits .or .u8 0 (((x % 2 : Nat) : Int) * 2 ^ 7) = ((x % 2 * 128 : Nat) : Int) := by
  have := Pb (x := 0) (y := ((x % 2 : Nat) : Int) * 2 ^ 7) (a := 0) (b := x % 2 * 128) rfl (by omega) (by omega) (by omega)
  rw [Nat.zero_or] at this
  exact this
 refine W.rtA [(4, aV (I6 ↑(0 % 8))), (24, aV (I6 ↑(0 / 8 : Nat))), (28, aV (U6 ↑(x % 2))), (29, aV (U8 ↑(x % 2))), (34, aV (I6 ↑(0 % 8))), (35, aV (I6 7)), (36, aV (U8 ((↑(x % 2) : Int) * (2 : Int) ^ 7))), (37, aV (U8 ↑(x % 2 * 128))), (44, aV (I6 1))] [(0, 0), (256, 1)] [I6 (Int.tmod (0 : Int) (8 : Int)) = I6 ↑(0 : Nat), (8 : Int) ≠ 0, 1 ≤ 1, 0 < 1, 1 ≤ 140737488355328, 1 ≤ 9223372036854775807, I6 (IntKind.wrap .i64 (Int.tdiv (0 : Int) (8 : Int))) = I6 ↑(0 : Nat), (8 : Int) ≠ 0, 0 ≤ (↑(0 : Nat) : Int), (↑(0 : Nat) : Int) < (↑(1 : Nat) : Int), 0 < 1, U6 (bits BinOp.and .u64 (x:Int) (1 : Int)) = U6 ↑(x % 2), U8 (IntKind.wrap .u8 (↑(x % 2) : Int)) = U8 ↑(x % 2), I6 (Int.tmod (0 : Int) (8 : Int)) = I6 ↑(0 : Nat), (8 : Int) ≠ 0, I6 (IntKind.wrap .i64 (7 - (↑(0 : Nat) : Int))) = I6 7, U8 (IntKind.wrap .u8 ((↑(x % 2) : Int) * (2 : Int) ^ 7)) = U8 ((↑(x % 2) : Int) * (2 : Int) ^ 7), (0 : Int) ≤ 7, U8 (bits BinOp.or .u8 (0 : Int) ((↑(x % 2) : Int) * (2 : Int) ^ 7)) = U8 ↑(x % 2 * 128), 0 ≤ (↑(0 : Nat) : Int), (↑(0 : Nat) : Int) < (↑(1 : Nat) : Int), 0 < 1, I6 (IntKind.wrap .i64 ((0 : Int) + (1 : Int))) = I6 1] (ac rfl (ob4 (by omega) (ac (by omega) (ac rfl (ob4 (by omega) (ac (cg (DX 1 rfl rfl (by omega) (by decide))) (ac (cg (KX rfl (by omega) (by omega))) (ac rfl (ac (by omega) (ac (wj (by omega)) (ac (cg (KX rfl (by omega) (by omega))) (ac (by omega) (ac (cg (h0)) (ob3 (by omega) (ao (wj (by omega)))))))))))))))))
theorem pc_oneB {n k x : Nat} {l : Liz} (hb : Bytes l) (hl : l.length = k) (hn : k ≤ 1000000) (h8 : n = 8 * k) (hk : 0 < k) (hx : x < 18446744073709551616) :
  Pt 88 [(0, bwR 1 k n), (1, bwB k l)] [.at 0 [], .int .u64 x] [(0, bwR 2 (k + 1) (n + 1)), (2, bwB (k + 1) (l ++ [((x % 2 * 128 : Nat) : Int)]))] (.tup []) := by
 refine pO Try.func88 (by kernel_rfl) ?_
 have h0 : bits .or .u8 0 (((x % 2 : Nat) : Int) * 2 ^ 7) = ((x % 2 * 128 : Nat) : Int) := by
  have := Pb (x := 0) (y := ((x % 2 : Nat) : Int) * 2 ^ 7) (a := 0) (b := x % 2 * 128) rfl (by omega) (by omega) (by omega)
  rw [Nat.zero_or] at this
  exact this
 have e1 : ((n % 8 : Nat) : Int) = 0 := by omega
 have e2 : ((n / 8 : Nat) : Int) = (k : Int) := by omega
 have e3 : (l ++ [(0 : Int)]).getD k 0 = 0 := by simp [List.getD_eq_getElem?_getD, ← hl]
 have e4 : (l ++ [(0 : Int)]).set k ((x % 2 * 128 : Nat) : Int) = l ++ [((x % 2 * 128 : Nat) : Int)] := by rw [← hl]; simp
 refine W.ret [(4, aV (I6 0)), (12, Ans.ups [(1, none), (256, some (Row.mk (B8 (k + 1) (l ++ [0])) false))]), (24, aV (I6 k)), (25, aV (PV.at 256 [Stp.idx k 1])), (26, aV (U8 0)), (28, aV (U6 ↑(x % 2))), (29, aV (U8 ↑(x % 2))), (34, aV (I6 0)), (35, aV (I6 7)), (36, aV (U8 ((↑(x % 2) : Int) * (2 : Int) ^ 7))), (37, aV (U8 ↑(x % 2 * 128))), (38, aV (PV.at 256 [Stp.idx k 1])), (44, aV (I6 ↑(n + 1)))] [(0, 0), (1, 1), (256, 2)] [I6 (Int.tmod (n:Int) (8 : Int)) = I6 0, (8 : Int) ≠ 0, ([(1, none), (256, some (Row.mk (B8 (k + 1) (List.take k l ++ [0])) false))] : List (Nat × Option Row)) = [(1, none), (256, some (Row.mk (B8 (k + 1) (l ++ [0])) false))], 1 ≤ 1, 0 + k = k, (k + 1) * 1 ≤ 140737488355328, k + 1 ≤ 9223372036854775807, I6 (IntKind.wrap .i64 (Int.tdiv (n:Int) (8 : Int))) = I6 k, (8 : Int) ≠ 0, PV.at 256 [Stp.idx (0 + k) 1] = PV.at 256 [Stp.idx k 1], 0 ≤ (k:Int), (k:Int) < (↑(k + 1) : Int), U8 (List.getD (l ++ [0]) k (0 : Int)) = U8 0, k < k + 1, U6 (bits BinOp.and .u64 (x:Int) (1 : Int)) = U6 ↑(x % 2), U8 (IntKind.wrap .u8 (↑(x % 2) : Int)) = U8 ↑(x % 2), I6 (Int.tmod (n:Int) (8 : Int)) = I6 0, (8 : Int) ≠ 0, I6 (IntKind.wrap .i64 ((7 : Int) - (0 : Int))) = I6 7, U8 (IntKind.wrap .u8 ((↑(x % 2) : Int) * (2 : Int) ^ 7)) = U8 ((↑(x % 2) : Int) * (2 : Int) ^ 7), (0 : Int) ≤ 7, U8 (bits BinOp.or .u8 (0 : Int) ((↑(x % 2) : Int) * (2 : Int) ^ 7)) = U8 ↑(x % 2 * 128), PV.at 256 [Stp.idx (0 + k) 1] = PV.at 256 [Stp.idx k 1], 0 ≤ (k:Int), (k:Int) < (↑(k + 1) : Int), k < k + 1, I6 (IntKind.wrap .i64 ((n:Int) + 1)) = I6 ↑(n + 1), rr (PV.st 2 [PV.ref 2 [] 1 0 (k + 1), I6 ↑(n + 1)]), B8 (k + 1) (List.set (l ++ [0]) k (↑(x % 2 * 128) : Int)) = B8 (k + 1) (l ++ [(↑(x % 2 * 128) : Int)]), rr (PV.tup [])] (by kernel_rfl) (ac (cg (e1)) (ac (by omega) (ac (by rw [List.take_of_length_le (show List.length l ≤ k by omega)]) (ac (by omega) (ac (by omega) (ob2 (by omega) (ac (cg (Ab e2 (by omega) (by omega))) (ac (by omega) (ac (by simp only [Nat.zero_add]) (ob2 (by omega) (ac (cg (e3)) (ac (by omega) (ac (cg (DX 1 rfl rfl (by omega) (by decide))) (ac (cg (KX rfl (by omega) (by omega))) (ac (cg (e1)) (ac (by omega) (ac (wj (by omega)) (ac (cg (KX rfl (by omega) (by omega))) (ac (by omega) (ac (cg (h0)) (ac (by simp only [Nat.zero_add]) (ob3 (by omega) (ac (wj (by omega)) (ac rfl (ac (by (simp [*]; done)) (ao rfl))))))))))))))))))))))))))
 all_goals rw [e4]
end Go.Proofs
namespace Go.Proofs
open Go Go.Pe Go.Pm
set_option maxRecDepth 100000
set_option linter.unusedVariables false
attribute [local irreducible] lv
theorem TI {q i : Nat} {n k n2 k2 : Nat} {l l2 : Liz} {hout : Lrz} (hi : i < q) (hq : q ≤ 65536) (hn : n ≤ 10000000) (hn2 : n2 ≤ 10000000) (c1 : Pt 88 [(0, bwE)] [.at 0 [], .int .u64 1] [(0, bwR 1 k2 n2), (1, bwB k2 l2)] (.tup [])) (hw : Wt Try.f76 [0] hout (.tup []) (Aa Try.f76 0) (⟨[(0, .at 0 []), (6, .int .i64 q), (7, .int .i64 ((i + 1 : Nat) : Int))], [(0, bwR 1 k2 n2), (1, bwB k2 l2)]⟩ : DS)) : Wt Try.f76 [0] hout (.tup []) (Aa Try.f76 0) (⟨[(0, .at 0 []), (6, .int .i64 q), (7, .int .i64 (i : Int))], [(0, bwE)]⟩ : DS) := by
 refine W.sgA 0 [(0, aT), (2, cC true [(0, 0)] c1), (3, aV (I6 ↑(i + 1)))] [(0, 0), (97, 1)] (⟨[(0, .at 0 []), (6, .int .i64 q), (7, .int .i64 ((i + 1 : Nat) : Int))], [(0, bwR 1 k2 n2), (1, bwB k2 l2)]⟩ : DS) [decide ((i:Int) < (q:Int)) = true, _, I6 (IntKind.wrap .i64 ((i:Int) + 1)) = I6 ↑(i + 1)] (ac (dT (by omega)) (ac (c1) (ao (wj (by omega))))) ?_
 exact hw
theorem Ry {q i : Nat} {n k n2 k2 : Nat} {l l2 : Liz} {hout : Lrz} (hi : i < q) (hq : q ≤ 65536) (hn : n ≤ 10000000) (hn2 : n2 ≤ 10000000) (c1 : Pt 88 [(0, bwR 1 k n), (1, bwB k l)] [.at 0 [], .int .u64 1] [(0, bwR 1 k2 n2), (1, bwB k2 l2)] (.tup [])) (hw : Wt Try.f76 [0] hout (.tup []) (Aa Try.f76 0) (⟨[(0, .at 0 []), (6, .int .i64 q), (7, .int .i64 ((i + 1 : Nat) : Int))], [(0, bwR 1 k2 n2), (1, bwB k2 l2)]⟩ : DS)) : Wt Try.f76 [0] hout (.tup []) (Aa Try.f76 0) (⟨[(0, .at 0 []), (6, .int .i64 q), (7, .int .i64 (i : Int))], [(0, bwR 1 k n), (1, bwB k l)]⟩ : DS) := by
 refine W.sgA 0 [(0, aT), (2, cC true [(0, 0), (1, 1)] c1), (3, aV (I6 ↑(i + 1)))] [(0, 0), (1, 1)] (⟨[(0, .at 0 []), (6, .int .i64 q), (7, .int .i64 ((i + 1 : Nat) : Int))], [(0, bwR 1 k2 n2), (1, bwB k2 l2)]⟩ : DS) [decide ((i:Int) < (q:Int)) = true, _, I6 (IntKind.wrap .i64 ((i:Int) + 1)) = I6 ↑(i + 1)] (ac (dT (by omega)) (ac (c1) (ao (wj (by omega))))) ?_
 exact hw
theorem SB {q i : Nat} {n k n2 k2 : Nat} {l l2 : Liz} {hout : Lrz} (hi : i < q) (hq : q ≤ 65536) (hn : n ≤ 10000000) (hn2 : n2 ≤ 10000000) (c1 : Pt 88 [(0, bwR 1 k n), (1, bwB k l)] [.at 0 [], .int .u64 1] [(0, bwR 2 k2 n2), (2, bwB k2 l2)] (.tup [])) (hw : Wt Try.f76 [0] hout (.tup []) (Aa Try.f76 0) (⟨[(0, .at 0 []), (6, .int .i64 q), (7, .int .i64 ((i + 1 : Nat) : Int))], [(0, bwR 1 k2 n2), (1, bwB k2 l2)]⟩ : DS)) : Wt Try.f76 [0] hout (.tup []) (Aa Try.f76 0) (⟨[(0, .at 0 []), (6, .int .i64 q), (7, .int .i64 (i : Int))], [(0, bwR 1 k n), (1, bwB k l)]⟩ : DS) := by
 refine W.sgA 0 [(0, aT), (2, cC true [(0, 0), (1, 1)] c1), (3, aV (I6 ↑(i + 1)))] [(0, 0), (98, 1)] (⟨[(0, .at 0 []), (6, .int .i64 q), (7, .int .i64 ((i + 1 : Nat) : Int))], [(0, bwR 1 k2 n2), (1, bwB k2 l2)]⟩ : DS) [decide ((i:Int) < (q:Int)) = true, _, I6 (IntKind.wrap .i64 ((i:Int) + 1)) = I6 ↑(i + 1)] (ac (dT (by omega)) (ac (c1) (ao (wj (by omega))))) ?_
 exact hw
theorem Ou {q i : Nat} {n k n2 k2 : Nat} {l l2 : Liz} {hout : Lrz} (hi : i < q) (hq : q ≤ 65536) (hn : n ≤ 10000000) (hn2 : n2 ≤ 10000000) (c1 : Pt 88 [(0, bwR 1 k n), (1, bwB k l)] [.at 0 [], .int .u64 1] [(0, bwR 1 k2 n2), (1, bwB k2 l2)] (.tup [])) (hw : Wt Try.f76 [0, 1] hout (.tup []) (Aa Try.f76 0) (⟨[(0, .at 0 []), (6, .int .i64 q), (7, .int .i64 ((i + 1 : Nat) : Int))], [(0, bwR 1 k2 n2), (1, bwB k2 l2)]⟩ : DS)) : Wt Try.f76 [0, 1] hout (.tup []) (Aa Try.f76 0) (⟨[(0, .at 0 []), (6, .int .i64 q), (7, .int .i64 (i : Int))], [(0, bwR 1 k n), (1, bwB k l)]⟩ : DS) := by
 refine W.sgA 0 [(0, aT), (2, cC true [(0, 0), (1, 1)] c1), (3, aV (I6 ↑(i + 1)))] [(0, 0), (1, 1)] (⟨[(0, .at 0 []), (6, .int .i64 q), (7, .int .i64 ((i + 1 : Nat) : Int))], [(0, bwR 1 k2 n2), (1, bwB k2 l2)]⟩ : DS) [decide ((i:Int) < (q:Int)) = true, _, I6 (IntKind.wrap .i64 ((i:Int) + 1)) = I6 ↑(i + 1)] (ac (dT (by omega)) (ac (c1) (ao (wj (by omega))))) ?_
 exact hw
theorem RX {q i : Nat} {n k n2 k2 : Nat} {l l2 : Liz} {hout : Lrz} (hi : i < q) (hq : q ≤ 65536) (hn : n ≤ 10000000) (hn2 : n2 ≤ 10000000) (c1 : Pt 88 [(0, bwR 1 k n), (1, bwB k l)] [.at 0 [], .int .u64 1] [(0, bwR 2 k2 n2), (2, bwB k2 l2)] (.tup [])) (hw : Wt Try.f76 [0, 1] hout (.tup []) (Aa Try.f76 0) (⟨[(0, .at 0 []), (6, .int .i64 q), (7, .int .i64 ((i + 1 : Nat) : Int))], [(0, bwR 2 k2 n2), (2, bwB k2 l2)]⟩ : DS)) : Wt Try.f76 [0, 1] hout (.tup []) (Aa Try.f76 0) (⟨[(0, .at 0 []), (6, .int .i64 q), (7, .int .i64 (i : Int))], [(0, bwR 1 k n), (1, bwB k l)]⟩ : DS) := by
 refine W.sgA 0 [(0, aT), (2, cC true [(0, 0), (1, 1)] c1), (3, aV (I6 ↑(i + 1)))] [(0, 0), (1, 1), (98, 2)] (⟨[(0, .at 0 []), (6, .int .i64 q), (7, .int .i64 ((i + 1 : Nat) : Int))], [(0, bwR 2 k2 n2), (2, bwB k2 l2)]⟩ : DS) [decide ((i:Int) < (q:Int)) = true, _, I6 (IntKind.wrap .i64 ((i:Int) + 1)) = I6 ↑(i + 1)] (ac (dT (by omega)) (ac (c1) (ao (wj (by omega))))) ?_
 exact hw
theorem TM {q i : Nat} {n k n2 k2 : Nat} {l l2 : Liz} {hout : Lrz} (hi : i < q) (hq : q ≤ 65536) (hn : n ≤ 10000000) (hn2 : n2 ≤ 10000000) (c1 : Pt 88 [(0, bwR 1 k n), (1, bwB k l)] [.at 0 [], .int .u64 1] [(0, bwR 1 k2 n2), (1, bwB k2 l2)] (.tup [])) (hw : Wt Try.f76 [0, 1] hout (.tup []) (Aa Try.f76 0) (⟨[(0, .at 0 []), (6, .int .i64 q), (7, .int .i64 ((i + 1 : Nat) : Int))], [(0, bwR 2 k2 n2), (2, bwB k2 l2)]⟩ : DS)) : Wt Try.f76 [0, 1] hout (.tup []) (Aa Try.f76 0) (⟨[(0, .at 0 []), (6, .int .i64 q), (7, .int .i64 (i : Int))], [(0, bwR 2 k n), (2, bwB k l)]⟩ : DS) := by
 refine W.sgA 0 [(0, aT), (2, cC true [(0, 0), (2, 1)] c1), (3, aV (I6 ↑(i + 1)))] [(0, 0), (1, 1), (2, 2)] (⟨[(0, .at 0 []), (6, .int .i64 q), (7, .int .i64 ((i + 1 : Nat) : Int))], [(0, bwR 2 k2 n2), (2, bwB k2 l2)]⟩ : DS) [decide ((i:Int) < (q:Int)) = true, _, I6 (IntKind.wrap .i64 ((i:Int) + 1)) = I6 ↑(i + 1)] (ac (dT (by omega)) (ac (c1) (ao (wj (by omega))))) ?_
 exact hw
theorem TC {q i : Nat} {n k n2 k2 : Nat} {l l2 : Liz} {hout : Lrz} (hi : i < q) (hq : q ≤ 65536) (hn : n ≤ 10000000) (hn2 : n2 ≤ 10000000) (c1 : Pt 88 [(0, bwR 1 k n), (1, bwB k l)] [.at 0 [], .int .u64 1] [(0, bwR 2 k2 n2), (2, bwB k2 l2)] (.tup [])) (hw : Wt Try.f76 [0, 1] hout (.tup []) (Aa Try.f76 0) (⟨[(0, .at 0 []), (6, .int .i64 q), (7, .int .i64 ((i + 1 : Nat) : Int))], [(0, bwR 2 k2 n2), (2, bwB k2 l2)]⟩ : DS)) : Wt Try.f76 [0, 1] hout (.tup []) (Aa Try.f76 0) (⟨[(0, .at 0 []), (6, .int .i64 q), (7, .int .i64 (i : Int))], [(0, bwR 2 k n), (2, bwB k l)]⟩ : DS) := by
 refine W.sgA 0 [(0, aT), (2, cC true [(0, 0), (2, 1)] c1), (3, aV (I6 ↑(i + 1)))] [(0, 0), (1, 1), (98, 2)] (⟨[(0, .at 0 []), (6, .int .i64 q), (7, .int .i64 ((i + 1 : Nat) : Int))], [(0, bwR 2 k2 n2), (2, bwB k2 l2)]⟩ : DS) [decide ((i:Int) < (q:Int)) = true, _, I6 (IntKind.wrap .i64 ((i:Int) + 1)) = I6 ↑(i + 1)] (ac (dT (by omega)) (ac (c1) (ao (wj (by omega))))) ?_
 exact hw
theorem W_bwOXE {q : Nat} {n k : Nat} {l : Liz} : Wt Try.f76 [0] [(0, bwE)] (.tup []) (Aa Try.f76 0) (⟨[(0, .at 0 []), (6, .int .i64 q), (7, .int .i64 (q : Int))], [(0, bwE)]⟩ : DS) := by
 refine W.rtA [(0, aF)] [(0, 0)] [decide ((q:Int) < (q:Int)) = false] (ao (dF (by omega)))
theorem W_bwOX0 {q : Nat} {n k : Nat} {l : Liz} : Wt Try.f76 [0] [(0, bwR 1 k n), (1, bwB k l)] (.tup []) (Aa Try.f76 0) (⟨[(0, .at 0 []), (6, .int .i64 q), (7, .int .i64 (q : Int))], [(0, bwR 1 k n), (1, bwB k l)]⟩ : DS) := by
 refine W.rtA [(0, aF)] [(0, 0), (1, 1)] [decide ((q:Int) < (q:Int)) = false] (ao (dF (by omega)))
theorem W_bwOX1 {q : Nat} {n k : Nat} {l : Liz} : Wt Try.f76 [0, 1] [(0, bwR 1 k n), (1, bwB k l)] (.tup []) (Aa Try.f76 0) (⟨[(0, .at 0 []), (6, .int .i64 q), (7, .int .i64 (q : Int))], [(0, bwR 1 k n), (1, bwB k l)]⟩ : DS) := by
 refine W.rtA [(0, aF)] [(0, 0), (1, 1)] [decide ((q:Int) < (q:Int)) = false] (ao (dF (by omega)))
theorem W_bwOX2 {q : Nat} {n k : Nat} {l : Liz} : Wt Try.f76 [0, 1] [(0, bwR 2 k n), (2, bwB k l)] (.tup []) (Aa Try.f76 0) (⟨[(0, .at 0 []), (6, .int .i64 q), (7, .int .i64 (q : Int))], [(0, bwR 2 k n), (2, bwB k l)]⟩ : DS) := by
 refine W.rtA [(0, aF)] [(0, 0), (1, 1), (2, 2)] [decide ((q:Int) < (q:Int)) = false] (ao (dF (by omega)))
theorem Lx {q n k : Nat} {l : Liz} {hout : Lrz} (hq : q ≤ 65536) (hw : Wt Try.f76 [0] hout (.tup []) (Aa Try.f76 0) (⟨[(0, .at 0 []), (6, .int .i64 q), (7, .int .i64 0)], [(0, bwE)]⟩ : DS)) : Pt 76 [(0, bwE)] [.at 0 [], .int .i64 q] hout (.tup []) := by
 refine pO Try.func76 (by kernel_rfl) ?_
 have hx : mx (q : Int) 0 = (q : Int) := by unfold mx; split <;> omega
 have hy : mn (q : Int) 65536 = (q : Int) := by unfold mn; split <;> omega
 refine W.sgA 0 [(1, aV (I6 q)), (2, aV (I6 q))] [(0, 0)] (⟨[(0, .at 0 []), (6, .int .i64 q), (7, .int .i64 0)], [(0, bwE)]⟩ : DS) [I6 (mx (q:Int) (0 : Int)) = I6 q, I6 (mn (q:Int) (65536 : Int)) = I6 q] (ac (cg (hx)) (ao (cg (hy)))) ?_
 exact hw
theorem K4 {q n k : Nat} {l : Liz} {hout : Lrz} (hq : q ≤ 65536) (hw : Wt Try.f76 [0, 1] hout (.tup []) (Aa Try.f76 0) (⟨[(0, .at 0 []), (6, .int .i64 q), (7, .int .i64 0)], [(0, bwR 1 k n), (1, bwB k l)]⟩ : DS)) : Pt 76 [(0, bwR 1 k n), (1, bwB k l)] [.at 0 [], .int .i64 q] hout (.tup []) := by
 refine pO Try.func76 (by kernel_rfl) ?_
 have hx : mx (q : Int) 0 = (q : Int) := by unfold mx; split <;> omega
 have hy : mn (q : Int) 65536 = (q : Int) := by unfold mn; split <;> omega
 refine W.sgA 0 [(1, aV (I6 q)), (2, aV (I6 q))] [(0, 0), (1, 1)] (⟨[(0, .at 0 []), (6, .int .i64 q), (7, .int .i64 0)], [(0, bwR 1 k n), (1, bwB k l)]⟩ : DS) [I6 (mx (q:Int) (0 : Int)) = I6 q, I6 (mn (q:Int) (65536 : Int)) = I6 q] (ac (cg (hx)) (ao (cg (hy)))) ?_
 exact hw
theorem Te {v i : Nat} {n k n2 k2 : Nat} {l l2 : Liz} {hout : Lrz} (hi : i < 64) (hv : v < 18446744073709551616) (hn : n ≤ 10000000) (hn2 : n2 ≤ 10000000) (c1 : Pt 88 [(0, bwE)] [.at 0 [], .int .u64 ((v / 2 ^ i : Nat) : Int)] [(0, bwR 1 k2 n2), (1, bwB k2 l2)] (.tup [])) (hw : Wt Try.f77 [0] hout (.tup []) (Aa Try.f77 0) (⟨[(0, .at 0 []), (1, .int .u64 v), (6, .int .i64 ((i : Int) - 1))], [(0, bwR 1 k2 n2), (1, bwB k2 l2)]⟩ : DS)) : Wt Try.f77 [0] hout (.tup []) (Aa Try.f77 0) (⟨[(0, .at 0 []), (1, .int .u64 v), (6, .int .i64 (i : Int))], [(0, bwE)]⟩ : DS) := by
 have hx : v / 2 ^ i < 18446744073709551616 := Nat.lt_of_le_of_lt (Nat.div_le_self _ _) hv
 refine W.sgA 0 [(5, aV (U6 ↑(v / 2 ^ i))), (6, cC true [(0, 0)] c1), (8, aV (I6 ((i:Int) - 1)))] [(0, 0), (161, 1)] (⟨[(0, .at 0 []), (1, .int .u64 v), (6, .int .i64 ((i : Int) - 1))], [(0, bwR 1 k2 n2), (1, bwB k2 l2)]⟩ : DS) [U6 (Int.fdiv (v:Int) ((2 : Int) ^ min i 64)) = U6 ↑(v / 2 ^ i), 0 ≤ (i:Int), _, I6 (IntKind.wrap .i64 ((i:Int) - 1)) = I6 ((i:Int) - 1)] (ac (cg (C8 rfl rfl (by omega))) (ac (by omega) (ac (c1) (ao (wj (by omega)))))) ?_
 exact hw
theorem Tp {v i : Nat} {n k n2 k2 : Nat} {l l2 : Liz} {hout : Lrz} (hi : i < 64) (hv : v < 18446744073709551616) (hn : n ≤ 10000000) (hn2 : n2 ≤ 10000000) (c1 : Pt 88 [(0, bwR 1 k n), (1, bwB k l)] [.at 0 [], .int .u64 ((v / 2 ^ i : Nat) : Int)] [(0, bwR 1 k2 n2), (1, bwB k2 l2)] (.tup [])) (hw : Wt Try.f77 [0] hout (.tup []) (Aa Try.f77 0) (⟨[(0, .at 0 []), (1, .int .u64 v), (6, .int .i64 ((i : Int) - 1))], [(0, bwR 1 k2 n2), (1, bwB k2 l2)]⟩ : DS)) : Wt Try.f77 [0] hout (.tup []) (Aa Try.f77 0) (⟨[(0, .at 0 []), (1, .int .u64 v), (6, .int .i64 (i : Int))], [(0, bwR 1 k n), (1, bwB k l)]⟩ : DS) := by
 have hx : v / 2 ^ i < 18446744073709551616 := Nat.lt_of_le_of_lt (Nat.div_le_self _ _) hv
 refine W.sgA 0 [(5, aV (U6 ↑(v / 2 ^ i))), (6, cC true [(0, 0), (1, 1)] c1), (8, aV (I6 ((i:Int) - 1)))] [(0, 0), (1, 1)] (⟨[(0, .at 0 []), (1, .int .u64 v), (6, .int .i64 ((i : Int) - 1))], [(0, bwR 1 k2 n2), (1, bwB k2 l2)]⟩ : DS) [U6 (Int.fdiv (v:Int) ((2 : Int) ^ min i 64)) = U6 ↑(v / 2 ^ i), 0 ≤ (i:Int), _, I6 (IntKind.wrap .i64 ((i:Int) - 1)) = I6 ((i:Int) - 1)] (ac (cg (C8 rfl rfl (by omega))) (ac (by omega) (ac (c1) (ao (wj (by omega)))))) ?_
 exact hw
theorem RF {v i : Nat} {n k n2 k2 : Nat} {l l2 : Liz} {hout : Lrz} (hi : i < 64) (hv : v < 18446744073709551616) (hn : n ≤ 10000000) (hn2 : n2 ≤ 10000000) (c1 : Pt 88 [(0, bwR 1 k n), (1, bwB k l)] [.at 0 [], .int .u64 ((v / 2 ^ i : Nat) : Int)] [(0, bwR 2 k2 n2), (2, bwB k2 l2)] (.tup [])) (hw : Wt Try.f77 [0] hout (.tup []) (Aa Try.f77 0) (⟨[(0, .at 0 []), (1, .int .u64 v), (6, .int .i64 ((i : Int) - 1))], [(0, bwR 1 k2 n2), (1, bwB k2 l2)]⟩ : DS)) : Wt Try.f77 [0] hout (.tup []) (Aa Try.f77 0) (⟨[(0, .at 0 []), (1, .int .u64 v), (6, .int .i64 (i : Int))], [(0, bwR 1 k n), (1, bwB k l)]⟩ : DS) := by
 have hx : v / 2 ^ i < 18446744073709551616 := Nat.lt_of_le_of_lt (Nat.div_le_self _ _) hv
 refine W.sgA 0 [(5, aV (U6 ↑(v / 2 ^ i))), (6, cC true [(0, 0), (1, 1)] c1), (8, aV (I6 ((i:Int) - 1)))] [(0, 0), (162, 1)] (⟨[(0, .at 0 []), (1, .int .u64 v), (6, .int .i64 ((i : Int) - 1))], [(0, bwR 1 k2 n2), (1, bwB k2 l2)]⟩ : DS) [U6 (Int.fdiv (v:Int) ((2 : Int) ^ min i 64)) = U6 ↑(v / 2 ^ i), 0 ≤ (i:Int), _, I6 (IntKind.wrap .i64 ((i:Int) - 1)) = I6 ((i:Int) - 1)] (ac (cg (C8 rfl rfl (by omega))) (ac (by omega) (ac (c1) (ao (wj (by omega)))))) ?_
 exact hw
theorem NH {v i : Nat} {n k n2 k2 : Nat} {l l2 : Liz} {hout : Lrz} (hi : i < 64) (hv : v < 18446744073709551616) (hn : n ≤ 10000000) (hn2 : n2 ≤ 10000000) (c1 : Pt 88 [(0, bwR 1 k n), (1, bwB k l)] [.at 0 [], .int .u64 ((v / 2 ^ i : Nat) : Int)] [(0, bwR 1 k2 n2), (1, bwB k2 l2)] (.tup [])) (hw : Wt Try.f77 [0, 1] hout (.tup []) (Aa Try.f77 0) (⟨[(0, .at 0 []), (1, .int .u64 v), (6, .int .i64 ((i : Int) - 1))], [(0, bwR 1 k2 n2), (1, bwB k2 l2)]⟩ : DS)) : Wt Try.f77 [0, 1] hout (.tup []) (Aa Try.f77 0) (⟨[(0, .at 0 []), (1, .int .u64 v), (6, .int .i64 (i : Int))], [(0, bwR 1 k n), (1, bwB k l)]⟩ : DS) := by
 have hx : v / 2 ^ i < 18446744073709551616 := Nat.lt_of_le_of_lt (Nat.div_le_self _ _) hv
 refine W.sgA 0 [(5, aV (U6 ↑(v / 2 ^ i))), (6, cC true [(0, 0), (1, 1)] c1), (8, aV (I6 ((i:Int) - 1)))] [(0, 0), (1, 1)] (⟨[(0, .at 0 []), (1, .int .u64 v), (6, .int .i64 ((i : Int) - 1))], [(0, bwR 1 k2 n2), (1, bwB k2 l2)]⟩ : DS) [U6 (Int.fdiv (v:Int) ((2 : Int) ^ min i 64)) = U6 ↑(v / 2 ^ i), 0 ≤ (i:Int), _, I6 (IntKind.wrap .i64 ((i:Int) - 1)) = I6 ((i:Int) - 1)] (ac (cg (C8 rfl rfl (by omega))) (ac (by omega) (ac (c1) (ao (wj (by omega)))))) ?_
 exact hw
theorem RS {v i : Nat} {n k n2 k2 : Nat} {l l2 : Liz} {hout : Lrz} (hi : i < 64) (hv : v < 18446744073709551616) (hn : n ≤ 10000000) (hn2 : n2 ≤ 10000000) (c1 : Pt 88 [(0, bwR 1 k n), (1, bwB k l)] [.at 0 [], .int .u64 ((v / 2 ^ i : Nat) : Int)] [(0, bwR 2 k2 n2), (2, bwB k2 l2)] (.tup [])) (hw : Wt Try.f77 [0, 1] hout (.tup []) (Aa Try.f77 0) (⟨[(0, .at 0 []), (1, .int .u64 v), (6, .int .i64 ((i : Int) - 1))], [(0, bwR 2 k2 n2), (2, bwB k2 l2)]⟩ : DS)) : Wt Try.f77 [0, 1] hout (.tup []) (Aa Try.f77 0) (⟨[(0, .at 0 []), (1, .int .u64 v), (6, .int .i64 (i : Int))], [(0, bwR 1 k n), (1, bwB k l)]⟩ : DS) := by
 have hx : v / 2 ^ i < 18446744073709551616 := Nat.lt_of_le_of_lt (Nat.div_le_self _ _) hv
 refine W.sgA 0 [(5, aV (U6 ↑(v / 2 ^ i))), (6, cC true [(0, 0), (1, 1)] c1), (8, aV (I6 ((i:Int) - 1)))] [(0, 0), (1, 1), (162, 2)] (⟨[(0, .at 0 []), (1, .int .u64 v), (6, .int .i64 ((i : Int) - 1))], [(0, bwR 2 k2 n2), (2, bwB k2 l2)]⟩ : DS) [U6 (Int.fdiv (v:Int) ((2 : Int) ^ min i 64)) = U6 ↑(v / 2 ^ i), 0 ≤ (i:Int), _, I6 (IntKind.wrap .i64 ((i:Int) - 1)) = I6 ((i:Int) - 1)] (ac (cg (C8 rfl rfl (by omega))) (ac (by omega) (ac (c1) (ao (wj (by omega)))))) ?_
 exact hw
theorem Sb {v i : Nat} {n k n2 k2 : Nat} {l l2 : Liz} {hout : Lrz} (hi : i < 64) (hv : v < 18446744073709551616) (hn : n ≤ 10000000) (hn2 : n2 ≤ 10000000) (c1 : Pt 88 [(0, bwR 1 k n), (1, bwB k l)] [.at 0 [], .int .u64 ((v / 2 ^ i : Nat) : Int)] [(0, bwR 1 k2 n2), (1, bwB k2 l2)] (.tup [])) (hw : Wt Try.f77 [0, 1] hout (.tup []) (Aa Try.f77 0) (⟨[(0, .at 0 []), (1, .int .u64 v), (6, .int .i64 ((i : Int) - 1))], [(0, bwR 2 k2 n2), (2, bwB k2 l2)]⟩ : DS)) : Wt Try.f77 [0, 1] hout (.tup []) (Aa Try.f77 0) (⟨[(0, .at 0 []), (1, .int .u64 v), (6, .int .i64 (i : Int))], [(0, bwR 2 k n), (2, bwB k l)]⟩ : DS) := by
 have hx : v / 2 ^ i < 18446744073709551616 := Nat.lt_of_le_of_lt (Nat.div_le_self _ _) hv
 refine W.sgA 0 [(5, aV (U6 ↑(v / 2 ^ i))), (6, cC true [(0, 0), (2, 1)] c1), (8, aV (I6 ((i:Int) - 1)))] [(0, 0), (1, 1), (2, 2)] (⟨[(0, .at 0 []), (1, .int .u64 v), (6, .int .i64 ((i : Int) - 1))], [(0, bwR 2 k2 n2), (2, bwB k2 l2)]⟩ : DS) [U6 (Int.fdiv (v:Int) ((2 : Int) ^ min i 64)) = U6 ↑(v / 2 ^ i), 0 ≤ (i:Int), _, I6 (IntKind.wrap .i64 ((i:Int) - 1)) = I6 ((i:Int) - 1)] (ac (cg (C8 rfl rfl (by omega))) (ac (by omega) (ac (c1) (ao (wj (by omega)))))) ?_
 exact hw
theorem RD {v i : Nat} {n k n2 k2 : Nat} {l l2 : Liz} {hout : Lrz} (hi : i < 64) (hv : v < 18446744073709551616) (hn : n ≤ 10000000) (hn2 : n2 ≤ 10000000) (c1 : Pt 88 [(0, bwR 1 k n), (1, bwB k l)] [.at 0 [], .int .u64 ((v / 2 ^ i : Nat) : Int)] [(0, bwR 2 k2 n2), (2, bwB k2 l2)] (.tup [])) (hw : Wt Try.f77 [0, 1] hout (.tup []) (Aa Try.f77 0) (⟨[(0, .at 0 []), (1, .int .u64 v), (6, .int .i64 ((i : Int) - 1))], [(0, bwR 2 k2 n2), (2, bwB k2 l2)]⟩ : DS)) : Wt Try.f77 [0, 1] hout (.tup []) (Aa Try.f77 0) (⟨[(0, .at 0 []), (1, .int .u64 v), (6, .int .i64 (i : Int))], [(0, bwR 2 k n), (2, bwB k l)]⟩ : DS) := by
 have hx : v / 2 ^ i < 18446744073709551616 := Nat.lt_of_le_of_lt (Nat.div_le_self _ _) hv
 refine W.sgA 0 [(5, aV (U6 ↑(v / 2 ^ i))), (6, cC true [(0, 0), (2, 1)] c1), (8, aV (I6 ((i:Int) - 1)))] [(0, 0), (1, 1), (162, 2)] (⟨[(0, .at 0 []), (1, .int .u64 v), (6, .int .i64 ((i : Int) - 1))], [(0, bwR 2 k2 n2), (2, bwB k2 l2)]⟩ : DS) [U6 (Int.fdiv (v:Int) ((2 : Int) ^ min i 64)) = U6 ↑(v / 2 ^ i), 0 ≤ (i:Int), _, I6 (IntKind.wrap .i64 ((i:Int) - 1)) = I6 ((i:Int) - 1)] (ac (cg (C8 rfl rfl (by omega))) (ac (by omega) (ac (c1) (ao (wj (by omega)))))) ?_
 exact hw
theorem W_bwPX0 {v : Nat} {n k : Nat} {l : Liz} : Wt Try.f77 [0] [(0, bwR 1 k n), (1, bwB k l)] (.tup []) (Aa Try.f77 0) (⟨[(0, .at 0 []), (1, .int .u64 v), (6, .int .i64 (-1))], [(0, bwR 1 k n), (1, bwB k l)]⟩ : DS) := by
 refine W.rtA [] [(0, 0), (1, 1)] [] trivial
theorem W_bwPX1 {v : Nat} {n k : Nat} {l : Liz} : Wt Try.f77 [0, 1] [(0, bwR 1 k n), (1, bwB k l)] (.tup []) (Aa Try.f77 0) (⟨[(0, .at 0 []), (1, .int .u64 v), (6, .int .i64 (-1))], [(0, bwR 1 k n), (1, bwB k l)]⟩ : DS) := by
 refine W.rtA [] [(0, 0), (1, 1)] [] trivial
theorem W_bwPX2 {v : Nat} {n k : Nat} {l : Liz} : Wt Try.f77 [0, 1] [(0, bwR 2 k n), (2, bwB k l)] (.tup []) (Aa Try.f77 0) (⟨[(0, .at 0 []), (1, .int .u64 v), (6, .int .i64 (-1))], [(0, bwR 2 k n), (2, bwB k l)]⟩ : DS) := by
 refine W.rtA [] [(0, 0), (1, 1), (2, 2)] [] trivial
theorem Rc {v w n k : Nat} {l : Liz} {hout : Lrz} (hw0 : w + 1 ≤ 64) (hw : Wt Try.f77 [0] hout (.tup []) (Aa Try.f77 0) (⟨[(0, .at 0 []), (1, .int .u64 v), (6, .int .i64 (w : Int))], [(0, bwE)]⟩ : DS)) : Pt 77 [(0, bwE)] [.at 0 [], .int .u64 v, .int .i64 ((w + 1 : Nat) : Int)] hout (.tup []) := by
 refine pO Try.func77 (by kernel_rfl) ?_
 have hx : mx ((w + 1 : Nat) : Int) 0 = ((w + 1 : Nat) : Int) := by unfold mx; split <;> omega
 have hy : mn ((w + 1 : Nat) : Int) 64 = ((w + 1 : Nat) : Int) := by unfold mn; split <;> omega
 refine W.sgA 0 [(1, aV (I6 ↑(w + 1))), (2, aV (I6 ↑(w + 1))), (3, aV (I6 w))] [(0, 0)] (⟨[(0, .at 0 []), (1, .int .u64 v), (6, .int .i64 (w : Int))], [(0, bwE)]⟩ : DS) [I6 (mx (↑(w + 1) : Int) (0 : Int)) = I6 ↑(w + 1), I6 (mn (↑(w + 1) : Int) (64 : Int)) = I6 ↑(w + 1), I6 (IntKind.wrap .i64 ((↑(w + 1) : Int) - 1)) = I6 w] (ac (cg (hx)) (ac (cg (hy)) (ao (cg (Ab (by omega) (by omega) (by omega)))))) ?_
 exact hw
theorem IE {v w n k : Nat} {l : Liz} {hout : Lrz} (hw0 : w + 1 ≤ 64) (hw : Wt Try.f77 [0, 1] hout (.tup []) (Aa Try.f77 0) (⟨[(0, .at 0 []), (1, .int .u64 v), (6, .int .i64 (w : Int))], [(0, bwR 1 k n), (1, bwB k l)]⟩ : DS)) : Pt 77 [(0, bwR 1 k n), (1, bwB k l)] [.at 0 [], .int .u64 v, .int .i64 ((w + 1 : Nat) : Int)] hout (.tup []) := by
 refine pO Try.func77 (by kernel_rfl) ?_
 have hx : mx ((w + 1 : Nat) : Int) 0 = ((w + 1 : Nat) : Int) := by unfold mx; split <;> omega
 have hy : mn ((w + 1 : Nat) : Int) 64 = ((w + 1 : Nat) : Int) := by unfold mn; split <;> omega
 refine W.sgA 0 [(1, aV (I6 ↑(w + 1))), (2, aV (I6 ↑(w + 1))), (3, aV (I6 w))] [(0, 0), (1, 1)] (⟨[(0, .at 0 []), (1, .int .u64 v), (6, .int .i64 (w : Int))], [(0, bwR 1 k n), (1, bwB k l)]⟩ : DS) [I6 (mx (↑(w + 1) : Int) (0 : Int)) = I6 ↑(w + 1), I6 (mn (↑(w + 1) : Int) (64 : Int)) = I6 ↑(w + 1), I6 (IntKind.wrap .i64 ((↑(w + 1) : Int) - 1)) = I6 w] (ac (cg (hx)) (ac (cg (hy)) (ao (cg (Ab (by omega) (by omega) (by omega)))))) ?_
 exact hw
end Go.Proofs
namespace Go.Proofs
open Go Go.Pe Go.Pm
set_option linter.unusedVariables false
def byt (g : Nat → Nat) : Nat := g 0 * 128 + g 1 * 64 + g 2 * 32 + g 3 * 16 + g 4 * 8 + g 5 * 4 + g 6 * 2 + g 7
def pk (B : List Nat) : List Int := (List.range ((B.length + 7) / 8)).map fun i => ((byt fun j => B.getD (8 * i + j) 0 : Nat) : Int)
def Bits (B : List Nat) : Prop := ∀ i, B.getD i 0 < 2
theorem Bits.nil : Bits [] := fun i => by simp
theorem Bits.append {A B : List Nat} (hA : Bits A) (hB : Bits B) : Bits (A ++ B) := fun i => by
 rcases Nat.lt_or_ge i A.length with h | h
 ·rw [List.getD_eq_getElem?_getD, List.getElem?_append_left h, ← List.getD_eq_getElem?_getD]; exact hA i
 ·rw [List.getD_eq_getElem?_getD, List.getElem?_append_right h, ← List.getD_eq_getElem?_getD]; exact hB _
theorem Bits.one (x : Nat) : Bits [x % 2] := fun i => by
 cases i with
 | zero => exact Nat.mod_lt _ (by decide)
 | succ i => simp
theorem Bf (B : List Nat) : (pk B).length = (B.length + 7) / 8 := by simp [pk]
theorem OP {g : Nat → Nat} (h : ∀ j, g j < 2) : byt g < 256 := by
 have h0 := h 0; have h1 := h 1; have h2 := h 2; have h3 := h 3; have h4 := h 4; have h5 := h 5; have h6 := h 6; have h7 := h 7
 unfold byt
 omega
theorem H7 {B : List Nat} (h : Bits B) : Bytes (pk B) := fun x hx => by
 unfold pk at hx
 obtain ⟨i, -, rfl⟩ := List.mem_map.1 hx
 have := OP fun j => h (8 * i + j)
 omega
theorem GG (B : List Nat) {i : Nat} (hi : i < (B.length + 7) / 8) : (pk B)[i]? = some ((byt fun j => B.getD (8 * i + j) 0 : Nat) : Int) := by
 simp [pk, hi]
theorem Gc (B : List Nat) (b i : Nat) : (B ++ [b]).getD i 0 = if i = B.length then b else B.getD i 0 := by
 rcases Nat.lt_trichotomy i B.length with h | h | h
 ·rw [if_neg (by omega), List.getD_eq_getElem?_getD, List.getElem?_append_left h, ← List.getD_eq_getElem?_getD]
 ·subst h; simp
 ·rw [if_neg (by omega)]
  rw [List.getD_eq_getElem?_getD, List.getD_eq_getElem?_getD, List.getElem?_eq_none (by simp; omega), List.getElem?_eq_none (by omega)]
theorem EG {f g : Nat → Nat} (h : ∀ j, j < 8 → f j = g j) : byt f = byt g := by
 unfold byt
 rw [h 0 (by omega), h 1 (by omega), h 2 (by omega), h 3 (by omega), h 4 (by omega), h 5 (by omega), h 6 (by omega), h 7 (by omega)]
theorem Dv {B : List Nat} {i : Nat} (h : B.length ≤ i) : B.getD i 0 = 0 := by
 rw [List.getD_eq_getElem?_getD, List.getElem?_eq_none h]
 rfl
theorem N9 {B : List Nat} (b : Nat) (h : B.length % 8 = 0) : pk (B ++ [b]) = pk B ++ [((b * 128 : Nat) : Int)] := by
 apply List.ext_getElem?
 intro i
 have hl := Bf B
 have hl2 := Bf (B ++ [b])
 rw [List.length_append, List.length_singleton] at hl2
 rcases Nat.lt_trichotomy i ((B.length + 7) / 8) with hi | hi | hi
 ·rw [List.getElem?_append_left (by omega), GG B hi, GG _ (by rw [List.length_append, List.length_singleton]; omega)]
  congr 2
  refine EG fun j hj => ?_
  rw [Gc, if_neg (by omega)]
 ·rw [List.getElem?_append_right (by omega), show i - (pk B).length = 0 by omega, GG _ (by rw [List.length_append, List.length_singleton]; omega)]
  show some _ = some _
  congr 2
  unfold byt
  simp only [Gc]
  rw [if_pos (by omega), if_neg (by omega), if_neg (by omega), if_neg (by omega), if_neg (by omega), if_neg (by omega), if_neg (by omega), if_neg (by omega)]
  rw [Dv (by omega), Dv (by omega), Dv (by omega), Dv (by omega), Dv (by omega), Dv (by omega), Dv (by omega)]
  omega
 ·rw [List.getElem?_eq_none (by omega), List.getElem?_eq_none (by rw [List.length_append, List.length_singleton]; omega)]
theorem Gy {i a b : Nat} (h : b < 2 ^ i) : 2 ^ i * a ||| b = 2 ^ i * a + b := (Nat.two_pow_add_eq_or_of_lt h a).symm
theorem byt_or {g : Nat → Nat} {r b : Nat} (hr : r < 8) (hg : ∀ j, r ≤ j → g j = 0) (hb : b < 2) : byt (fun j => if j = r then b else g j) = byt g ||| b * 2 ^ (7 - r) % 256 := by
 unfold byt
 dsimp only
 match r, hr with
 | 0, _ =>
  rw [hg 0 (by omega), hg 1 (by omega), hg 2 (by omega), hg 3 (by omega), hg 4 (by omega), hg 5 (by omega), hg 6 (by omega), hg 7 (by omega)]
  simp only [if_true, show ¬ (1 : Nat) = 0 by omega, show ¬ (2 : Nat) = 0 by omega, show ¬ (3 : Nat) = 0 by omega, show ¬ (4 : Nat) = 0 by omega, show ¬ (5 : Nat) = 0 by omega, show ¬ (6 : Nat) = 0 by omega, show ¬ (7 : Nat) = 0 by omega, if_false]
  have : b = 0 ∨ b = 1 := by omega
  rcases this with rfl | rfl <;> rfl
 | 1, _ =>
  rw [hg 1 (by omega), hg 2 (by omega), hg 3 (by omega), hg 4 (by omega), hg 5 (by omega), hg 6 (by omega), hg 7 (by omega)]
  have e := Gy (i := 7) (a := g 0) (b := b * 2 ^ (7 - 1) % 256) (by omega)
  simp only [if_true, show ¬ (0 : Nat) = 1 by omega, show ¬ (2 : Nat) = 1 by omega, show ¬ (3 : Nat) = 1 by omega, show ¬ (4 : Nat) = 1 by omega, show ¬ (5 : Nat) = 1 by omega, show ¬ (6 : Nat) = 1 by omega, show ¬ (7 : Nat) = 1 by omega, if_false]
  rw [show g 0 * 128 + 0 * 64 + 0 * 32 + 0 * 16 + 0 * 8 + 0 * 4 + 0 * 2 + 0 = 2 ^ 7 * g 0 by omega, e]
  omega
 | 2, _ =>
  rw [hg 2 (by omega), hg 3 (by omega), hg 4 (by omega), hg 5 (by omega), hg 6 (by omega), hg 7 (by omega)]
  have e := Gy (i := 6) (a := g 0 * 2 + g 1) (b := b * 2 ^ (7 - 2) % 256) (by omega)
  simp only [if_true, show ¬ (0 : Nat) = 2 by omega, show ¬ (1 : Nat) = 2 by omega, show ¬ (3 : Nat) = 2 by omega, show ¬ (4 : Nat) = 2 by omega, show ¬ (5 : Nat) = 2 by omega, show ¬ (6 : Nat) = 2 by omega, show ¬ (7 : Nat) = 2 by omega, if_false]
  rw [show g 0 * 128 + g 1 * 64 + 0 * 32 + 0 * 16 + 0 * 8 + 0 * 4 + 0 * 2 + 0 = 2 ^ 6 * (g 0 * 2 + g 1) by omega, e]
  omega
 | 3, _ =>
  rw [hg 3 (by omega), hg 4 (by omega), hg 5 (by omega), hg 6 (by omega), hg 7 (by omega)]
  have e := Gy (i := 5) (a := g 0 * 4 + g 1 * 2 + g 2) (b := b * 2 ^ (7 - 3) % 256) (by omega)
  simp only [if_true, show ¬ (0 : Nat) = 3 by omega, show ¬ (1 : Nat) = 3 by omega, show ¬ (2 : Nat) = 3 by omega, show ¬ (4 : Nat) = 3 by omega, show ¬ (5 : Nat) = 3 by omega, show ¬ (6 : Nat) = 3 by omega, show ¬ (7 : Nat) = 3 by omega, if_false]
  rw [show g 0 * 128 + g 1 * 64 + g 2 * 32 + 0 * 16 + 0 * 8 + 0 * 4 + 0 * 2 + 0 = 2 ^ 5 * (g 0 * 4 + g 1 * 2 + g 2) by omega, e]
  omega
 | 4, _ =>
  rw [hg 4 (by omega), hg 5 (by omega), hg 6 (by omega), hg 7 (by omega)]
  have e := Gy (i := 4) (a := g 0 * 8 + g 1 * 4 + g 2 * 2 + g 3) (b := b * 2 ^ (7 - 4) % 256) (by omega)
  simp only [if_true, show ¬ (0 : Nat) = 4 by omega, show ¬ (1 : Nat) = 4 by omega, show ¬ (2 : Nat) = 4 by omega, show ¬ (3 : Nat) = 4 by omega, show ¬ (5 : Nat) = 4 by omega, show ¬ (6 : Nat) = 4 by omega, show ¬ (7 : Nat) = 4 by omega, if_false]
  rw [show g 0 * 128 + g 1 * 64 + g 2 * 32 + g 3 * 16 + 0 * 8 + 0 * 4 + 0 * 2 + 0 = 2 ^ 4 * (g 0 * 8 + g 1 * 4 + g 2 * 2 + g 3) by omega, e]
  omega
 | 5, _ =>
  rw [hg 5 (by omega), hg 6 (by omega), hg 7 (by omega)]
  have e := Gy (i := 3) (a := g 0 * 16 + g 1 * 8 + g 2 * 4 + g 3 * 2 + g 4) (b := b * 2 ^ (7 - 5) % 256) (by omega)
  simp only [if_true, show ¬ (0 : Nat) = 5 by omega, show ¬ (1 : Nat) = 5 by omega, show ¬ (2 : Nat) = 5 by omega, show ¬ (3 : Nat) = 5 by omega, show ¬ (4 : Nat) = 5 by omega, show ¬ (6 : Nat) = 5 by omega, show ¬ (7 : Nat) = 5 by omega, if_false]
  rw [show g 0 * 128 + g 1 * 64 + g 2 * 32 + g 3 * 16 + g 4 * 8 + 0 * 4 + 0 * 2 + 0 = 2 ^ 3 * (g 0 * 16 + g 1 * 8 + g 2 * 4 + g 3 * 2 + g 4) by omega, e]
  omega
 | 6, _ =>
  rw [hg 6 (by omega), hg 7 (by omega)]
  have e := Gy (i := 2) (a := g 0 * 32 + g 1 * 16 + g 2 * 8 + g 3 * 4 + g 4 * 2 + g 5) (b := b * 2 ^ (7 - 6) % 256) (by omega)
  simp only [if_true, show ¬ (0 : Nat) = 6 by omega, show ¬ (1 : Nat) = 6 by omega, show ¬ (2 : Nat) = 6 by omega, show ¬ (3 : Nat) = 6 by omega, show ¬ (4 : Nat) = 6 by omega, show ¬ (5 : Nat) = 6 by omega, show ¬ (7 : Nat) = 6 by omega, if_false]
  rw [show g 0 * 128 + g 1 * 64 + g 2 * 32 + g 3 * 16 + g 4 * 8 + g 5 * 4 + 0 * 2 + 0 = 2 ^ 2 * (g 0 * 32 + g 1 * 16 + g 2 * 8 + g 3 * 4 + g 4 * 2 + g 5) by omega, e]
  omega
 | 7, _ =>
  rw [hg 7 (by omega)]
  have e := Gy (i := 1) (a := g 0 * 64 + g 1 * 32 + g 2 * 16 + g 3 * 8 + g 4 * 4 + g 5 * 2 + g 6) (b := b * 2 ^ (7 - 7) % 256) (by omega)
  simp only [if_true, show ¬ (0 : Nat) = 7 by omega, show ¬ (1 : Nat) = 7 by omega, show ¬ (2 : Nat) = 7 by omega, show ¬ (3 : Nat) = 7 by omega, show ¬ (4 : Nat) = 7 by omega, show ¬ (5 : Nat) = 7 by omega, show ¬ (6 : Nat) = 7 by omega, if_false]
  rw [show g 0 * 128 + g 1 * 64 + g 2 * 32 + g 3 * 16 + g 4 * 8 + g 5 * 4 + g 6 * 2 + 0 = 2 ^ 1 * (g 0 * 64 + g 1 * 32 + g 2 * 16 + g 3 * 8 + g 4 * 4 + g 5 * 2 + g 6) by omega, e]
  omega
theorem Sq {B : List Nat} {i : Nat} (hi : i < (B.length + 7) / 8) : at0 (pk B) i = byt fun j => B.getD (8 * i + j) 0 := by
 unfold at0
 rw [List.getD_eq_getElem?_getD, GG B hi]
 rfl
theorem TB {B : List Nat} (x : Nat) (h : B.length % 8 ≠ 0) : pk (B ++ [x % 2]) = bwS B.length x (pk B) := by
 have hl := Bf B
 have hl2 := Bf (B ++ [x % 2])
 rw [List.length_append, List.length_singleton] at hl2
 apply List.ext_getElem?
 intro i
 unfold bwS
 rw [List.getElem?_set]
 rcases Nat.lt_trichotomy i (B.length / 8) with hi | hi | hi
 ·rw [if_neg (by omega), GG B (by omega), GG _ (by rw [List.length_append, List.length_singleton]; omega)]
  congr 2
  refine EG fun j hj => ?_
  rw [Gc, if_neg (by omega)]
 ·rw [if_pos hi.symm, if_pos (by omega), GG _ (by rw [List.length_append, List.length_singleton]; omega), Sq (by omega)]
  congr 2
  rw [← byt_or (g := fun j => B.getD (8 * (B.length / 8) + j) 0) (r := B.length % 8) (b := x % 2) (Nat.mod_lt _ (by decide)) (fun j hj => Dv (by omega)) (Nat.mod_lt _ (by decide))]
  refine EG fun j hj => ?_
  rw [Gc, hi]
  by_cases hjr : j = B.length % 8
  ·rw [if_pos (by omega), if_pos hjr]
  ·rw [if_neg (by omega), if_neg hjr]
 ·rw [if_neg (by omega), List.getElem?_eq_none (by omega), List.getElem?_eq_none (by omega)]
theorem pk_one (x : Nat) : pk [x % 2] = [((x % 2 * 128 : Nat) : Int)] := by
 have := N9 (B := []) (x % 2) rfl
 exact this
def Ba (v : Nat) : Nat → List Nat
 | 0 => []
 | w + 1 => v / 2 ^ w % 2 :: Ba v w
theorem D5 (v : Nat) : ∀ w, Bits (Ba v w)
 | 0 => Bits.nil
 | w + 1 => Bits.append (Bits.one (v / 2 ^ w)) (D5 v w)
theorem Bj (v : Nat) : ∀ w, (Ba v w).length = w
 | 0 => rfl
 | w + 1 => by rw [Ba, List.length_cons, Bj]
theorem EQ : ∀ q, Bits (List.replicate q 1)
 | 0 => Bits.nil
 | q + 1 => Bits.append (A := [1 % 2]) (Bits.one 1) (EQ q)
end Go.Proofs
namespace Go.Proofs
open Go Go.Pe Go.Pm
set_option maxRecDepth 100000
set_option linter.unusedVariables false
def bwF (id : Nat) (B : List Nat) : List (Nat × Row) := [(0, bwR id (pk B).length B.length), (id, bwB (pk B).length (pk B))]
theorem pk_ne {B : List Nat} (h : B ≠ []) : 0 < (pk B).length := by
 have := Bf B
 have := List.length_pos_iff.2 h
 omega
theorem one_E {x : Nat} (hx : x < 18446744073709551616) : Pt 88 [(0, bwE)] [.at 0 [], .int .u64 x] (bwF 1 [x % 2]) (.tup []) := by
 unfold bwF
 rw [pk_one]
 exact pc_oneA hx
theorem Jc {x : Nat} {B : List Nat} (hx : x < 18446744073709551616) (hB : Bits B) (hl : B.length ≤ 1000000) (h : B.length % 8 ≠ 0) : Pt 88 (bwF 1 B) [.at 0 [], .int .u64 x] (bwF 1 (B ++ [x % 2])) (.tup []) := by
 have h1 := Bf B
 have e : (bwS B.length x (pk B)).length = (pk B).length := by unfold bwS; rw [List.length_set]
 unfold bwF
 rw [TB x h, e, List.length_append, List.length_singleton]
 exact pc_oneC (H7 hB) rfl (by omega) h (by omega) hx
theorem K9 {x : Nat} {B : List Nat} (hx : x < 18446744073709551616) (hB : Bits B) (hl : B.length ≤ 1000000) (h : B.length % 8 = 0) (h0 : B ≠ []) : Pt 88 (bwF 1 B) [.at 0 [], .int .u64 x] (bwF 2 (B ++ [x % 2])) (.tup []) := by
 have h1 := Bf B
 unfold bwF
 rw [N9 (x % 2) h, List.length_append, List.length_append, List.length_singleton, List.length_singleton]
 exact pc_oneB (H7 hB) rfl (by omega) (by omega) (pk_ne h0) hx
abbrev Wo (pins : List Nat) (q i : Nat) (id : Nat) (B B' : List Nat) (id' : Nat) : Prop := Wt Try.f76 pins (bwF id' B') (.tup []) (Aa Try.f76 0) ⟨[(0, .at 0 []), (6, .int .i64 q), (7, .int .i64 i)], bwF id B⟩
theorem Kh (B : List Nat) (r : Nat) : B ++ List.replicate (r + 1) 1 = (B ++ [1 % 2]) ++ List.replicate r 1 := by rw [List.replicate_succ, List.append_assoc]; rfl
theorem W_bo0 {q : Nat} (hq : q ≤ 65536) : ∀ (r i : Nat) (B : List Nat), i + r = q → Bits B → B ≠ [] → B.length + r ≤ 1000000 → Wo [0] q i 1 B (B ++ List.replicate r 1) 1
 | 0, i, B, hk, hB, h0, hl => by
  obtain rfl : i = q := by omega
  rw [List.replicate_zero, List.append_nil]
  exact W_bwOX0
 | r + 1, i, B, hk, hB, h0, hl => by
  have hl2 : (B ++ [1 % 2]).length = B.length + 1 := by simp
  rw [Kh]
  have ih := W_bo0 hq r (i + 1) (B ++ [1 % 2]) (by omega) (hB.append (Bits.one 1)) (by simp) (by omega)
  by_cases h : B.length % 8 = 0
  ·exact SB (by omega) hq (by omega) (by omega) (K9 (x := 1) (by decide) hB (by omega) h h0) ih
  ·exact Ry (by omega) hq (by omega) (by omega) (Jc (x := 1) (by decide) hB (by omega) h) ih
theorem W_bo2 {q : Nat} (hq : q ≤ 65536) : ∀ (r i : Nat) (B : List Nat), i + r = q → Bits B → B ≠ [] → B.length + r ≤ 1000000 → Wo [0, 1] q i 2 B (B ++ List.replicate r 1) 2
 | 0, i, B, hk, hB, h0, hl => by
  obtain rfl : i = q := by omega
  rw [List.replicate_zero, List.append_nil]
  exact W_bwOX2
 | r + 1, i, B, hk, hB, h0, hl => by
  have hl2 : (B ++ [1 % 2]).length = B.length + 1 := by simp
  rw [Kh]
  have ih := W_bo2 hq r (i + 1) (B ++ [1 % 2]) (by omega) (hB.append (Bits.one 1)) (by simp) (by omega)
  by_cases h : B.length % 8 = 0
  ·exact TC (by omega) hq (by omega) (by omega) (K9 (x := 1) (by decide) hB (by omega) h h0) ih
  ·exact TM (by omega) hq (by omega) (by omega) (Jc (x := 1) (by decide) hB (by omega) h) ih
theorem W_bo1 {q : Nat} (hq : q ≤ 65536) : ∀ (r i : Nat) (B : List Nat), i + r = q → Bits B → B ≠ [] → B.length + r ≤ 1000000 → Wo [0, 1] q i 1 B (B ++ List.replicate r 1) 1 ∨ Wo [0, 1] q i 1 B (B ++ List.replicate r 1) 2
 | 0, i, B, hk, hB, h0, hl => by
  obtain rfl : i = q := by omega
  rw [List.replicate_zero, List.append_nil]
  exact .inl W_bwOX1
 | r + 1, i, B, hk, hB, h0, hl => by
  have hl2 : (B ++ [1 % 2]).length = B.length + 1 := by simp
  rw [Kh]
  by_cases h : B.length % 8 = 0
  ·exact .inr (RX (by omega) hq (by omega) (by omega) (K9 (x := 1) (by decide) hB (by omega) h h0) (W_bo2 hq r (i + 1) (B ++ [1 % 2]) (by omega) (hB.append (Bits.one 1)) (by simp) (by omega)))
  ·rcases W_bo1 hq r (i + 1) (B ++ [1 % 2]) (by omega) (hB.append (Bits.one 1)) (by simp) (by omega) with ih | ih
   ·exact .inl (Ou (by omega) hq (by omega) (by omega) (Jc (x := 1) (by decide) hB (by omega) h) ih)
   ·exact .inr (Ou (by omega) hq (by omega) (by omega) (Jc (x := 1) (by decide) hB (by omega) h) ih)
theorem Rz {q : Nat} {B : List Nat} (hq : q ≤ 65536) (hB : Bits B) (h0 : B ≠ []) (hl : B.length + q ≤ 1000000) : Pt 76 (bwF 1 B) [.at 0 [], .int .i64 q] (bwF 1 (B ++ List.replicate q 1)) (.tup []) ∨ Pt 76 (bwF 1 B) [.at 0 [], .int .i64 q] (bwF 2 (B ++ List.replicate q 1)) (.tup []) := by
 rcases W_bo1 hq q 0 B (by omega) hB h0 hl with h | h
 ·exact .inl (K4 hq h)
 ·exact .inr (K4 hq h)
theorem QW : Pt 76 [(0, bwE)] [.at 0 [], .int .i64 0] [(0, bwE)] (.tup []) := Lx (q := 0) (n := 0) (k := 0) (l := []) (by omega) (W_bwOXE (q := 0) (n := 0) (k := 0) (l := []))
theorem NK {q : Nat} (hq : q + 1 ≤ 65536) : Pt 76 [(0, bwE)] [.at 0 [], .int .i64 ((q + 1 : Nat) : Int)] (bwF 1 (List.replicate (q + 1) 1)) (.tup []) := by
 refine Lx (n := 0) (k := 0) (l := []) hq ?_
 have hw := W_bo0 hq q 1 [1 % 2] (by omega) (Bits.one 1) (by simp) (by simp; omega)
 exact TI (i := 0) (n := 0) (k := 0) (l := []) (by omega) hq (by omega) (n2 := 1) (by omega) (one_E (x := 1) (by decide)) hw
abbrev Wp (pins : List Nat) (v : Nat) (i : Int) (id : Nat) (B B' : List Nat) (id' : Nat) : Prop := Wt Try.f77 pins (bwF id' B') (.tup []) (Aa Try.f77 0) ⟨[(0, .at 0 []), (1, .int .u64 v), (6, .int .i64 i)], bwF id B⟩
theorem Ig (B : List Nat) (v r : Nat) : B ++ Ba v (r + 1) = (B ++ [v / 2 ^ r % 2]) ++ Ba v r := by rw [Ba, List.append_assoc]; rfl
theorem Dg {v : Nat} (hv : v < 18446744073709551616) (r : Nat) : v / 2 ^ r < 18446744073709551616 := Nat.lt_of_le_of_lt (Nat.div_le_self _ _) hv
theorem W_bq0 {v : Nat} (hv : v < 18446744073709551616) : ∀ (r : Nat) (B : List Nat), r ≤ 64 → Bits B → B ≠ [] → B.length + r ≤ 1000000 → Wp [0] v ((r : Int) - 1) 1 B (B ++ Ba v r) 1
 | 0, B, hr, hB, h0, hl => by
  rw [Ba, List.append_nil]
  exact W_bwPX0 (v := v)
 | r + 1, B, hr, hB, h0, hl => by
  have hl2 : (B ++ [v / 2 ^ r % 2]).length = B.length + 1 := by simp
  rw [Ig, show (((r + 1 : Nat) : Int) - 1) = (r : Int) by omega]
  have ih := W_bq0 hv r (B ++ [v / 2 ^ r % 2]) (by omega) (hB.append (Bits.one _)) (by simp) (by omega)
  by_cases h : B.length % 8 = 0
  ·exact RF (by omega) hv (by omega) (by omega) (K9 (Dg hv r) hB (by omega) h h0) ih
  ·exact Tp (by omega) hv (by omega) (by omega) (Jc (Dg hv r) hB (by omega) h) ih
theorem W_bq2 {v : Nat} (hv : v < 18446744073709551616) : ∀ (r : Nat) (B : List Nat), r ≤ 64 → Bits B → B ≠ [] → B.length + r ≤ 1000000 → Wp [0, 1] v ((r : Int) - 1) 2 B (B ++ Ba v r) 2
 | 0, B, hr, hB, h0, hl => by
  rw [Ba, List.append_nil]
  exact W_bwPX2 (v := v)
 | r + 1, B, hr, hB, h0, hl => by
  have hl2 : (B ++ [v / 2 ^ r % 2]).length = B.length + 1 := by simp
  rw [Ig, show (((r + 1 : Nat) : Int) - 1) = (r : Int) by omega]
  have ih := W_bq2 hv r (B ++ [v / 2 ^ r % 2]) (by omega) (hB.append (Bits.one _)) (by simp) (by omega)
  by_cases h : B.length % 8 = 0
  ·exact RD (by omega) hv (by omega) (by omega) (K9 (Dg hv r) hB (by omega) h h0) ih
  ·exact Sb (by omega) hv (by omega) (by omega) (Jc (Dg hv r) hB (by omega) h) ih
theorem W_bq1 {v : Nat} (hv : v < 18446744073709551616) : ∀ (r : Nat) (B : List Nat), r ≤ 64 → Bits B → B ≠ [] → B.length + r ≤ 1000000 → ((B.length % 8 ≠ 0 → r < 8 - B.length % 8 + 1) ∧ (B.length % 8 = 0 → r = 0)) ∧ Wp [0, 1] v ((r : Int) - 1) 1 B (B ++ Ba v r) 1 ∨ Wp [0, 1] v ((r : Int) - 1) 1 B (B ++ Ba v r) 2
 | 0, B, hr, hB, h0, hl => by
  rw [Ba, List.append_nil]
  exact .inl ⟨⟨fun _ => by omega, fun _ => rfl⟩, W_bwPX1 (v := v)⟩
 | r + 1, B, hr, hB, h0, hl => by
  have hl2 : (B ++ [v / 2 ^ r % 2]).length = B.length + 1 := by simp
  rw [Ig, show (((r + 1 : Nat) : Int) - 1) = (r : Int) by omega]
  by_cases h : B.length % 8 = 0
  ·exact .inr (RS (by omega) hv (by omega) (by omega) (K9 (Dg hv r) hB (by omega) h h0) (W_bq2 hv r (B ++ [v / 2 ^ r % 2]) (by omega) (hB.append (Bits.one _)) (by simp) (by omega)))
  ·rcases W_bq1 hv r (B ++ [v / 2 ^ r % 2]) (by omega) (hB.append (Bits.one _)) (by simp) (by omega) with ⟨hc, ih⟩ | ih
   ·refine .inl ⟨⟨fun _ => ?_, fun x => absurd x h⟩, NH (by omega) hv (by omega) (by omega) (Jc (Dg hv r) hB (by omega) h) ih⟩
    by_cases h9 : (B.length + 1) % 8 = 0
    ·have := hc.2 (by rw [hl2]; exact h9)
     omega
    ·have := hc.1 (by rw [hl2]; exact h9)
     rw [hl2] at this
     omega
   ·exact .inr (NH (by omega) hv (by omega) (by omega) (Jc (Dg hv r) hB (by omega) h) ih)
theorem pc_putE {v w : Nat} (hv : v < 18446744073709551616) (hw : w + 1 ≤ 64) : Pt 77 [(0, bwE)] [.at 0 [], .int .u64 v, .int .i64 ((w + 1 : Nat) : Int)] (bwF 1 (Ba v (w + 1))) (.tup []) := by
 refine Rc (n := 0) (k := 0) (l := []) hw ?_
 have h := W_bq0 hv w [v / 2 ^ w % 2] (by omega) (Bits.one _) (by simp) (by simp; omega)
 exact Te (i := w) (n := 0) (k := 0) (l := []) (by omega) hv (by omega) (n2 := 1) (by omega) (one_E (Dg hv w)) h
theorem PZ {v w : Nat} {B : List Nat} (hv : v < 18446744073709551616) (hw : w + 1 ≤ 64) (hB : Bits B) (h0 : B ≠ []) (hl : B.length + (w + 1) ≤ 1000000) : Pt 77 (bwF 1 B) [.at 0 [], .int .u64 v, .int .i64 ((w + 1 : Nat) : Int)] (bwF 1 (B ++ Ba v (w + 1))) (.tup []) ∨ Pt 77 (bwF 1 B) [.at 0 [], .int .u64 v, .int .i64 ((w + 1 : Nat) : Int)] (bwF 2 (B ++ Ba v (w + 1))) (.tup []) := by
 rcases W_bq1 hv (w + 1) B hw hB h0 hl with ⟨-, h⟩ | h
 ·rw [show (((w + 1 : Nat) : Int) - 1) = (w : Int) by omega] at h
  exact .inl (IE hw h)
 ·rw [show (((w + 1 : Nat) : Int) - 1) = (w : Int) by omega] at h
  exact .inr (IE hw h)
theorem Mm {v w : Nat} {B : List Nat} (hv : v < 18446744073709551616) (hw : w + 1 ≤ 64) (h8 : 8 ≤ w + 1) (hB : Bits B) (h0 : B ≠ []) (hl : B.length + (w + 1) ≤ 1000000) : Pt 77 (bwF 1 B) [.at 0 [], .int .u64 v, .int .i64 ((w + 1 : Nat) : Int)] (bwF 2 (B ++ Ba v (w + 1))) (.tup []) := by
 rcases W_bq1 hv (w + 1) B hw hB h0 hl with ⟨h, -⟩ | h
 ·by_cases g : B.length % 8 = 0
  ·have := h.2 g; omega
  ·have := h.1 g; omega
 ·rw [show (((w + 1 : Nat) : Int) - 1) = (w : Int) by omega] at h
  exact IE hw h
end Go.Proofs
namespace Go.Proofs
open Go Go.Pe Go.Pm
set_option maxRecDepth 100000
set_option linter.unusedVariables false
attribute [local irreducible] lv
theorem W_rpEE1 {v q k0 n0 k1 n1 k2 n2 k3 n3 : Nat} {l0 l1 l2 l3 : Liz} (hv : v < 18446744073709551616) (hq : v / 524288 = q) (hq2 : q ≤ 65536) (c1 : Pt 76 [(0, bwE)] [.at 0 [], .int .i64 q] [(0, bwE)] (.tup [])) (c2 : Pt 77 [(0, bwE)] [.at 0 [], .int .u64 0, .int .i64 1] [(0, bwR 1 k2 n2), (1, bwB k2 l2)] (.tup [])) (c3 : Pt 77 [(0, bwR 1 k2 n2), (1, bwB k2 l2)] [.at 0 [], .int .u64 v, .int .i64 19] [(0, bwR 2 k3 n3), (2, bwB k3 l3)] (.tup [])) : Pt 48 [(0, bwE)] [.at 0 [], .int .i64 19, .int .u64 v] [(0, bwR 1 k3 n3), (1, bwB k3 l3)] (.int .i64 0) := by
 refine pO Try.func48 (by kernel_rfl) ?_
 have d0 := Cj (p := 19) (by omega)
 have hq3 : ((v / 524288 : Nat) : Int) = (q : Int) := by rw [hq]
 clear hq
 refine W.rtA [(2, c9 d0), (3, aV (I6 19)), (6, aV (U6 ↑(v / 524288))), (7, aV (U6 q)), (9, aF), (12, aV (I6 q)), (13, cC true [(0, 0)] c1), (15, cC true [(0, 0)] c2), (19, cC true [(0, 0), (305, 1)] c3)] [(0, 0), (370, 1)] [_, I6 ↑(19 : Nat) = I6 19, U6 (Int.fdiv (v:Int) ((2 : Int) ^ 19)) = U6 ↑(v / 524288), (0 : Int) ≤ 19, U6 ↑(v / 524288) = U6 q, decide ((q:Int) > 65536) = false, I6 (IntKind.wrap .i64 (q:Int)) = I6 q, _, _, _] (ac (d0) (ac (cg (by omega)) (ac (cg (Bb (y := 19) (s := 19) rfl rfl (by decide) (by omega))) (ac (by omega) (ac (cg (hq3)) (ac (dF (by omega)) (ac (wj (by omega)) (ac (c1) (ac (c2) (ao (c3)))))))))))
theorem W_rpE11 {v q k0 n0 k1 n1 k2 n2 k3 n3 : Nat} {l0 l1 l2 l3 : Liz} (hv : v < 18446744073709551616) (hq : v / 524288 = q) (hq2 : q ≤ 65536) (c1 : Pt 76 [(0, bwE)] [.at 0 [], .int .i64 q] [(0, bwR 1 k1 n1), (1, bwB k1 l1)] (.tup [])) (c2 : Pt 77 [(0, bwR 1 k1 n1), (1, bwB k1 l1)] [.at 0 [], .int .u64 0, .int .i64 1] [(0, bwR 1 k2 n2), (1, bwB k2 l2)] (.tup [])) (c3 : Pt 77 [(0, bwR 1 k2 n2), (1, bwB k2 l2)] [.at 0 [], .int .u64 v, .int .i64 19] [(0, bwR 2 k3 n3), (2, bwB k3 l3)] (.tup [])) : Pt 48 [(0, bwE)] [.at 0 [], .int .i64 19, .int .u64 v] [(0, bwR 1 k3 n3), (1, bwB k3 l3)] (.int .i64 0) := by
 refine pO Try.func48 (by kernel_rfl) ?_
 have d0 := Cj (p := 19) (by omega)
 have hq3 : ((v / 524288 : Nat) : Int) = (q : Int) := by rw [hq]
 clear hq
 refine W.rtA [(2, c9 d0), (3, aV (I6 19)), (6, aV (U6 ↑(v / 524288))), (7, aV (U6 q)), (9, aF), (12, aV (I6 q)), (13, cC true [(0, 0)] c1), (15, cC true [(0, 0), (273, 1)] c2), (19, cC true [(0, 0), (273, 1)] c3)] [(0, 0), (370, 1)] [_, I6 ↑(19 : Nat) = I6 19, U6 (Int.fdiv (v:Int) ((2 : Int) ^ 19)) = U6 ↑(v / 524288), (0 : Int) ≤ 19, U6 ↑(v / 524288) = U6 q, decide ((q:Int) > 65536) = false, I6 (IntKind.wrap .i64 (q:Int)) = I6 q, _, _, _] (ac (d0) (ac (cg (by omega)) (ac (cg (Bb (y := 19) (s := 19) rfl rfl (by decide) (by omega))) (ac (by omega) (ac (cg (hq3)) (ac (dF (by omega)) (ac (wj (by omega)) (ac (c1) (ac (c2) (ao (c3)))))))))))
theorem W_rpE12 {v q k0 n0 k1 n1 k2 n2 k3 n3 : Nat} {l0 l1 l2 l3 : Liz} (hv : v < 18446744073709551616) (hq : v / 524288 = q) (hq2 : q ≤ 65536) (c1 : Pt 76 [(0, bwE)] [.at 0 [], .int .i64 q] [(0, bwR 1 k1 n1), (1, bwB k1 l1)] (.tup [])) (c2 : Pt 77 [(0, bwR 1 k1 n1), (1, bwB k1 l1)] [.at 0 [], .int .u64 0, .int .i64 1] [(0, bwR 2 k2 n2), (2, bwB k2 l2)] (.tup [])) (c3 : Pt 77 [(0, bwR 1 k2 n2), (1, bwB k2 l2)] [.at 0 [], .int .u64 v, .int .i64 19] [(0, bwR 2 k3 n3), (2, bwB k3 l3)] (.tup [])) : Pt 48 [(0, bwE)] [.at 0 [], .int .i64 19, .int .u64 v] [(0, bwR 1 k3 n3), (1, bwB k3 l3)] (.int .i64 0) := by
 refine pO Try.func48 (by kernel_rfl) ?_
 have d0 := Cj (p := 19) (by omega)
 have hq3 : ((v / 524288 : Nat) : Int) = (q : Int) := by rw [hq]
 clear hq
 refine W.rtA [(2, c9 d0), (3, aV (I6 19)), (6, aV (U6 ↑(v / 524288))), (7, aV (U6 q)), (9, aF), (12, aV (I6 q)), (13, cC true [(0, 0)] c1), (15, cC true [(0, 0), (273, 1)] c2), (19, cC true [(0, 0), (306, 1)] c3)] [(0, 0), (370, 1)] [_, I6 ↑(19 : Nat) = I6 19, U6 (Int.fdiv (v:Int) ((2 : Int) ^ 19)) = U6 ↑(v / 524288), (0 : Int) ≤ 19, U6 ↑(v / 524288) = U6 q, decide ((q:Int) > 65536) = false, I6 (IntKind.wrap .i64 (q:Int)) = I6 q, _, _, _] (ac (d0) (ac (cg (by omega)) (ac (cg (Bb (y := 19) (s := 19) rfl rfl (by decide) (by omega))) (ac (by omega) (ac (cg (hq3)) (ac (dF (by omega)) (ac (wj (by omega)) (ac (c1) (ac (c2) (ao (c3)))))))))))
theorem W_rpF11 {v q k0 n0 k1 n1 k2 n2 k3 n3 : Nat} {l0 l1 l2 l3 : Liz} (hv : v < 18446744073709551616) (hq : v / 524288 = q) (hq2 : q ≤ 65536) (c1 : Pt 76 [(0, bwR 1 k0 n0), (1, bwB k0 l0)] [.at 0 [], .int .i64 q] [(0, bwR 1 k1 n1), (1, bwB k1 l1)] (.tup [])) (c2 : Pt 77 [(0, bwR 1 k1 n1), (1, bwB k1 l1)] [.at 0 [], .int .u64 0, .int .i64 1] [(0, bwR 1 k2 n2), (1, bwB k2 l2)] (.tup [])) (c3 : Pt 77 [(0, bwR 1 k2 n2), (1, bwB k2 l2)] [.at 0 [], .int .u64 v, .int .i64 19] [(0, bwR 2 k3 n3), (2, bwB k3 l3)] (.tup [])) : Pt 48 [(0, bwR 1 k0 n0), (1, bwB k0 l0)] [.at 0 [], .int .i64 19, .int .u64 v] [(0, bwR 2 k3 n3), (2, bwB k3 l3)] (.int .i64 0) := by
 refine pO Try.func48 (by kernel_rfl) ?_
 have d0 := Cj (p := 19) (by omega)
 have hq3 : ((v / 524288 : Nat) : Int) = (q : Int) := by rw [hq]
 clear hq
 refine W.rtA [(2, c9 d0), (3, aV (I6 19)), (6, aV (U6 ↑(v / 524288))), (7, aV (U6 q)), (9, aF), (12, aV (I6 q)), (13, cC true [(0, 0), (1, 1)] c1), (15, cC true [(0, 0), (1, 1)] c2), (19, cC true [(0, 0), (1, 1)] c3)] [(0, 0), (1, 1), (370, 2)] [_, I6 ↑(19 : Nat) = I6 19, U6 (Int.fdiv (v:Int) ((2 : Int) ^ 19)) = U6 ↑(v / 524288), (0 : Int) ≤ 19, U6 ↑(v / 524288) = U6 q, decide ((q:Int) > 65536) = false, I6 (IntKind.wrap .i64 (q:Int)) = I6 q, _, _, _] (ac (d0) (ac (cg (by omega)) (ac (cg (Bb (y := 19) (s := 19) rfl rfl (by decide) (by omega))) (ac (by omega) (ac (cg (hq3)) (ac (dF (by omega)) (ac (wj (by omega)) (ac (c1) (ac (c2) (ao (c3)))))))))))
theorem W_rpF12 {v q k0 n0 k1 n1 k2 n2 k3 n3 : Nat} {l0 l1 l2 l3 : Liz} (hv : v < 18446744073709551616) (hq : v / 524288 = q) (hq2 : q ≤ 65536) (c1 : Pt 76 [(0, bwR 1 k0 n0), (1, bwB k0 l0)] [.at 0 [], .int .i64 q] [(0, bwR 1 k1 n1), (1, bwB k1 l1)] (.tup [])) (c2 : Pt 77 [(0, bwR 1 k1 n1), (1, bwB k1 l1)] [.at 0 [], .int .u64 0, .int .i64 1] [(0, bwR 2 k2 n2), (2, bwB k2 l2)] (.tup [])) (c3 : Pt 77 [(0, bwR 1 k2 n2), (1, bwB k2 l2)] [.at 0 [], .int .u64 v, .int .i64 19] [(0, bwR 2 k3 n3), (2, bwB k3 l3)] (.tup [])) : Pt 48 [(0, bwR 1 k0 n0), (1, bwB k0 l0)] [.at 0 [], .int .i64 19, .int .u64 v] [(0, bwR 2 k3 n3), (2, bwB k3 l3)] (.int .i64 0) := by
 refine pO Try.func48 (by kernel_rfl) ?_
 have d0 := Cj (p := 19) (by omega)
 have hq3 : ((v / 524288 : Nat) : Int) = (q : Int) := by rw [hq]
 clear hq
 refine W.rtA [(2, c9 d0), (3, aV (I6 19)), (6, aV (U6 ↑(v / 524288))), (7, aV (U6 q)), (9, aF), (12, aV (I6 q)), (13, cC true [(0, 0), (1, 1)] c1), (15, cC true [(0, 0), (1, 1)] c2), (19, cC true [(0, 0), (306, 1)] c3)] [(0, 0), (1, 1), (370, 2)] [_, I6 ↑(19 : Nat) = I6 19, U6 (Int.fdiv (v:Int) ((2 : Int) ^ 19)) = U6 ↑(v / 524288), (0 : Int) ≤ 19, U6 ↑(v / 524288) = U6 q, decide ((q:Int) > 65536) = false, I6 (IntKind.wrap .i64 (q:Int)) = I6 q, _, _, _] (ac (d0) (ac (cg (by omega)) (ac (cg (Bb (y := 19) (s := 19) rfl rfl (by decide) (by omega))) (ac (by omega) (ac (cg (hq3)) (ac (dF (by omega)) (ac (wj (by omega)) (ac (c1) (ac (c2) (ao (c3)))))))))))
theorem W_rpF21 {v q k0 n0 k1 n1 k2 n2 k3 n3 : Nat} {l0 l1 l2 l3 : Liz} (hv : v < 18446744073709551616) (hq : v / 524288 = q) (hq2 : q ≤ 65536) (c1 : Pt 76 [(0, bwR 1 k0 n0), (1, bwB k0 l0)] [.at 0 [], .int .i64 q] [(0, bwR 2 k1 n1), (2, bwB k1 l1)] (.tup [])) (c2 : Pt 77 [(0, bwR 1 k1 n1), (1, bwB k1 l1)] [.at 0 [], .int .u64 0, .int .i64 1] [(0, bwR 1 k2 n2), (1, bwB k2 l2)] (.tup [])) (c3 : Pt 77 [(0, bwR 1 k2 n2), (1, bwB k2 l2)] [.at 0 [], .int .u64 v, .int .i64 19] [(0, bwR 2 k3 n3), (2, bwB k3 l3)] (.tup [])) : Pt 48 [(0, bwR 1 k0 n0), (1, bwB k0 l0)] [.at 0 [], .int .i64 19, .int .u64 v] [(0, bwR 2 k3 n3), (2, bwB k3 l3)] (.int .i64 0) := by
 refine pO Try.func48 (by kernel_rfl) ?_
 have d0 := Cj (p := 19) (by omega)
 have hq3 : ((v / 524288 : Nat) : Int) = (q : Int) := by rw [hq]
 clear hq
 refine W.rtA [(2, c9 d0), (3, aV (I6 19)), (6, aV (U6 ↑(v / 524288))), (7, aV (U6 q)), (9, aF), (12, aV (I6 q)), (13, cC true [(0, 0), (1, 1)] c1), (15, cC true [(0, 0), (274, 1)] c2), (19, cC true [(0, 0), (274, 1)] c3)] [(0, 0), (1, 1), (370, 2)] [_, I6 ↑(19 : Nat) = I6 19, U6 (Int.fdiv (v:Int) ((2 : Int) ^ 19)) = U6 ↑(v / 524288), (0 : Int) ≤ 19, U6 ↑(v / 524288) = U6 q, decide ((q:Int) > 65536) = false, I6 (IntKind.wrap .i64 (q:Int)) = I6 q, _, _, _] (ac (d0) (ac (cg (by omega)) (ac (cg (Bb (y := 19) (s := 19) rfl rfl (by decide) (by omega))) (ac (by omega) (ac (cg (hq3)) (ac (dF (by omega)) (ac (wj (by omega)) (ac (c1) (ac (c2) (ao (c3)))))))))))
theorem W_rpF22 {v q k0 n0 k1 n1 k2 n2 k3 n3 : Nat} {l0 l1 l2 l3 : Liz} (hv : v < 18446744073709551616) (hq : v / 524288 = q) (hq2 : q ≤ 65536) (c1 : Pt 76 [(0, bwR 1 k0 n0), (1, bwB k0 l0)] [.at 0 [], .int .i64 q] [(0, bwR 2 k1 n1), (2, bwB k1 l1)] (.tup [])) (c2 : Pt 77 [(0, bwR 1 k1 n1), (1, bwB k1 l1)] [.at 0 [], .int .u64 0, .int .i64 1] [(0, bwR 2 k2 n2), (2, bwB k2 l2)] (.tup [])) (c3 : Pt 77 [(0, bwR 1 k2 n2), (1, bwB k2 l2)] [.at 0 [], .int .u64 v, .int .i64 19] [(0, bwR 2 k3 n3), (2, bwB k3 l3)] (.tup [])) : Pt 48 [(0, bwR 1 k0 n0), (1, bwB k0 l0)] [.at 0 [], .int .i64 19, .int .u64 v] [(0, bwR 2 k3 n3), (2, bwB k3 l3)] (.int .i64 0) := by
 refine pO Try.func48 (by kernel_rfl) ?_
 have d0 := Cj (p := 19) (by omega)
 have hq3 : ((v / 524288 : Nat) : Int) = (q : Int) := by rw [hq]
 clear hq
 refine W.rtA [(2, c9 d0), (3, aV (I6 19)), (6, aV (U6 ↑(v / 524288))), (7, aV (U6 q)), (9, aF), (12, aV (I6 q)), (13, cC true [(0, 0), (1, 1)] c1), (15, cC true [(0, 0), (274, 1)] c2), (19, cC true [(0, 0), (306, 1)] c3)] [(0, 0), (1, 1), (370, 2)] [_, I6 ↑(19 : Nat) = I6 19, U6 (Int.fdiv (v:Int) ((2 : Int) ^ 19)) = U6 ↑(v / 524288), (0 : Int) ≤ 19, U6 ↑(v / 524288) = U6 q, decide ((q:Int) > 65536) = false, I6 (IntKind.wrap .i64 (q:Int)) = I6 q, _, _, _] (ac (d0) (ac (cg (by omega)) (ac (cg (Bb (y := 19) (s := 19) rfl rfl (by decide) (by omega))) (ac (by omega) (ac (cg (hq3)) (ac (dF (by omega)) (ac (wj (by omega)) (ac (c1) (ac (c2) (ao (c3)))))))))))
def BD (v : Nat) : List Nat := List.replicate (v / 524288) 1 ++ Ba 0 1 ++ Ba v 19
theorem CS (v : Nat) : Bits (BD v) := ((EQ _).append (D5 0 1)).append (D5 v 19)
theorem Ct (v : Nat) : (BD v).length = v / 524288 + 20 := by
 unfold BD
 rw [List.length_append, List.length_append, Bj, Bj, List.length_replicate]
theorem Mo {A B : List Nat} (h : B ≠ []) : A ++ B ≠ [] := fun e => h (List.append_eq_nil_iff.1 e).2
theorem Jv (v w : Nat) : Ba v (w + 1) ≠ [] := by rw [Ba]; exact List.cons_ne_nil _ _
theorem Rx {v : Nat} (hv : v < 18446744073709551616) (hq : v / 524288 ≤ 65536) : Pt 48 [(0, bwE)] [.at 0 [], .int .i64 19, .int .u64 v] (bwF 1 (BD v)) (.int .i64 0) := by
 have hB0 : Bits (Ba 0 1) := D5 0 1
 unfold BD
 by_cases h0 : v / 524288 = 0
 ·rw [h0, List.replicate_zero, List.nil_append]
  exact W_rpEE1 (k0 := 0) (n0 := 0) (l0 := []) (k1 := 0) (n1 := 0) (l1 := []) hv h0 (by omega) QW (pc_putE (v := 0) (w := 0) (by decide) (by omega)) (Mm (w := 18) hv (by omega) (by omega) hB0 (Jv 0 0) (by rw [Bj]; omega))
 ·obtain ⟨q, hq1⟩ : ∃ q, v / 524288 = q + 1 := ⟨v / 524288 - 1, by omega⟩
  rw [hq1]
  have hne : List.replicate (q + 1) 1 ≠ [] := by rw [List.replicate_succ]; exact List.cons_ne_nil _ _
  have hb1 := EQ (q + 1)
  have c3 := Mm (v := v) (w := 18) (B := List.replicate (q + 1) 1 ++ Ba 0 1) hv (by omega) (by omega) (hb1.append hB0) (Mo (Jv 0 0)) (by rw [List.length_append, Bj, List.length_replicate]; omega)
  rcases PZ (v := 0) (w := 0) (by decide) (by omega) hb1 hne (by rw [List.length_replicate]; omega) with c2 | c2
  ·exact W_rpE11 (k0 := 0) (n0 := 0) (l0 := []) hv hq1 (by omega) (NK (by omega)) c2 c3
  ·exact W_rpE12 (k0 := 0) (n0 := 0) (l0 := []) hv hq1 (by omega) (NK (by omega)) c2 c3
theorem SA {v : Nat} {B : List Nat} (hv : v < 18446744073709551616) (hq : v / 524288 ≤ 65536) (hB : Bits B) (hne : B ≠ []) (hl : B.length ≤ 900000) : Pt 48 (bwF 1 B) [.at 0 [], .int .i64 19, .int .u64 v] (bwF 2 (B ++ BD v)) (.int .i64 0) := by
 have hB0 : Bits (Ba 0 1) := D5 0 1
 unfold BD
 rw [← List.append_assoc, ← List.append_assoc]
 generalize hqq : v / 524288 = q at *
 have hb1 := hB.append (EQ q)
 have hne1 : B ++ List.replicate q 1 ≠ [] := fun e => hne (List.append_eq_nil_iff.1 e).1
 have hl1 : (B ++ List.replicate q 1).length = B.length + q := by rw [List.length_append, List.length_replicate]
 have c3 := Mm (v := v) (w := 18) (B := B ++ List.replicate q 1 ++ Ba 0 1) hv (by omega) (by omega) (hb1.append hB0) (Mo (Jv 0 0)) (by rw [List.length_append, Bj]; omega)
 rcases Rz hq hB hne (by omega) with c1 | c1 <;> rcases PZ (v := 0) (w := 0) (by decide) (by omega) hb1 hne1 (by omega) with c2 | c2
 ·exact W_rpF11 hv hqq hq c1 c2 c3
 ·exact W_rpF12 hv hqq hq c1 c2 c3
 ·exact W_rpF21 hv hqq hq c1 c2 c3
 ·exact W_rpF22 hv hqq hq c1 c2 c3
def dS0 (nl : Bool) (n : Nat) (L : List Int) : DS := ⟨[(0, .int .i64 19), (6, .at 0 []), (7, .int .u64 0), (12, .vec nl (.iarr .u64 n L)), (13, .int .i64 n), (14, .int .i64 0)], [(0, bwE)]⟩
def dS1 (nl : Bool) (n i s k m : Nat) (L l : List Int) : DS := ⟨[(0, .int .i64 19), (6, .at 0 []), (7, .int .u64 s), (12, .vec nl (.iarr .u64 n L)), (13, .int .i64 n), (14, .int .i64 i)], [(0, bwR 1 k m), (1, bwB k l)]⟩
theorem Sk {nl : Bool} {n : Nat} {L : Liz} {hout : Lrz} {res : PV} (hw : Wt Try.f22 [] hout res (Aa Try.f22 0) (dS0 nl n L)) : Pt 22 [] [.int .i64 19, .vec nl (.iarr .u64 n L)] hout res := by
 refine pO Try.func22 (by kernel_rfl) ?_
 have c1 := Sc
 refine W.sgA 0 [(2, c9 c1)] [(96, 0)] (dS0 nl n L) [_] (ao (c1)) ?_
 exact hw
theorem W_st0 {nl : Bool} {n x k m : Nat} {L l : Liz} {hout : Lrz} {res : PV} (hn : n ≤ 100000) (h0 : 0 < n) (g : L.getD 0 0 = (x : Int)) (hx : x < 18446744073709551616) (c1 : Pt 48 [(0, bwE)] [.at 0 [], .int .i64 19, .int .u64 x] [(0, bwR 1 k m), (1, bwB k l)] (.int .i64 0))
  (hw : Wt Try.f22 [] hout res (Aa Try.f22 0) (dS1 nl n 1 x k m L l)) : Wt Try.f22 [] hout res (Aa Try.f22 0) (dS0 nl n L) := by
 refine W.sgA 0 [(0, aT), (2, aV (U6 x)), (11, aV (U6 x)), (12, cC true [(0, 0)] c1), (18, aV (I6 1))] [(0, 0), (257, 1)] (dS1 nl n 1 x k m L l) [decide (0 < (n:Int)) = true, (0 : Int) ≤ 0, 0 < (n:Int), U6 (List.getD L 0 (0 : Int)) = U6 x, 0 < n, U6 (IntKind.wrap .u64 ((x:Int) - 0)) = U6 x, _, I6 (IntKind.wrap .i64 ((0 : Int) + (1 : Int))) = I6 1] (ac (dT (by omega)) (ob2 (by omega) (ac (cg (g)) (ac (by omega) (ac (cg (Aj rfl (by omega) (by omega))) (ac (c1) (ao (wj (by omega))))))))) ?_
 exact hw
theorem W_st1 {nl : Bool} {n i s d k m k2 m2 : Nat} {L l l2 : Liz} {hout : Lrz} {res : PV} (hn : n ≤ 100000) (hi : i < n) (g : L.getD i 0 = ((s + d : Nat) : Int)) (hx : s + d < 18446744073709551616) (c1 : Pt 48 [(0, bwR 1 k m), (1, bwB k l)] [.at 0 [], .int .i64 19, .int .u64 d] [(0, bwR 2 k2 m2), (2, bwB k2 l2)] (.int .i64 0))
  (hw : Wt Try.f22 [] hout res (Aa Try.f22 0) (dS1 nl n (i + 1) (s + d) k2 m2 L l2)) : Wt Try.f22 [] hout res (Aa Try.f22 0) (dS1 nl n i s k m L l) := by
 refine W.sgA 0 [(0, aT), (2, aV (U6 ↑(s + d))), (6, aF), (11, aV (U6 d)), (12, cC true [(0, 0), (1, 1)] c1), (18, aV (I6 ↑(i + 1)))] [(0, 0), (258, 1)] (dS1 nl n (i + 1) (s + d) k2 m2 L l2) [decide ((i:Int) < (n:Int)) = true, 0 ≤ (i:Int), (i:Int) < (n:Int), U6 (List.getD L i (0 : Int)) = U6 ↑(s + d), i < n, decide ((↑(s + d) : Int) < (s:Int)) = false, U6 (IntKind.wrap .u64 ((↑(s + d) : Int) - (s:Int))) = U6 d, _, I6 (IntKind.wrap .i64 ((i:Int) + 1)) = I6 ↑(i + 1)] (ac (dT (by omega)) (ob2 (by omega) (ac (cg (g)) (ac (by omega) (ac (dF (by omega)) (ac (cg (Aj (by omega) (by omega) (by omega))) (ac (c1) (ao (wj (by omega)))))))))) ?_
 exact hw
theorem Oy {k m : Nat} {l : Liz} (hl : l.length = k) (hk : k ≤ 1000000) : Pt 49 [(0, bwR 1 k m), (1, bwB k l)] [.at 0 []] [(0, bwR 1 k m), (1, ⟨.iarr .u8 k l, true⟩)] (.vec false (.iarr .u8 k l)) := by
 refine pO Try.func49 (by kernel_rfl) ?_
 have c1 := Ez (nl := false) (show k ≤ 1000000000 by omega) hl (fun x => by cases x)
 have ht : l.take k = l := List.take_of_length_le (by omega)
 refine W.rtA [(5, cL false [] c1)] [(0, 0), (1, 1)] [0 + k ≤ k, rr ([] : List (Nat × Row)), ([PV.vec false (B8 k (List.take k l))] : List PV) = [PV.vec false (B8 k l)], _] (ac (by omega) (ac rfl (ac (by rw [List.take_of_length_le (show List.length l ≤ k by omega)]) (ao (c1)))))
theorem ND : Pt 49 [(0, bwE)] [.at 0 []] [(0, bwE)] (.vec true (.iarr .u8 0 [])) := by
 refine pO Try.func49 (by kernel_rfl) ?_
 have c1 := Ez (nl := true) (n := 0) (l := []) (by omega) rfl (fun _ => rfl)
 refine W.rtA [(5, c9 c1)] [(0, 0)] [_] (ao (c1))
theorem W_stE {nl : Bool} {n s k m : Nat} {L l : Liz} (hl : l.length = k) (hk : k ≤ 1000000) : Wt Try.f22 [] [] (.tup [.vec false (.iarr .u8 k l), .int .i64 0]) (Aa Try.f22 0) (dS1 nl n n s k m L l) := by
 have c1 := Oy (m := m) hl hk
 refine W.rtA [(0, aF), (2, cC false [(0, 0), (1, 1)] c1)] [] [decide ((n:Int) < (n:Int)) = false, _] (ac (dF (by omega)) (ao (c1)))
theorem W_stE0 {nl : Bool} {L : Liz} : Wt Try.f22 [] [] (.tup [.vec true (.iarr .u8 0 []), .int .i64 0]) (Aa Try.f22 0) (dS0 nl 0 L) := by
 have c1 := ND
 refine W.rtA [(2, cC true [(0, 0)] c1)] [] [_] (ao (c1))
def inL (l : List Nat) : List Int := l.map fun x : Nat => (x : Int)
def stB : Nat → List Nat → List Nat
 | _, [] => []
 | s, x :: l => BD (x - s) ++ stB x l
def Jo : Nat → List Nat → Prop
 | _, [] => True
 | s, x :: l => s ≤ x ∧ Jo x l
theorem PU (v : Nat) : BD v ≠ [] := Mo (Jv v 18)
theorem FN : ∀ (l : List Nat) (s : Nat), Bits (stB s l)
 | [], s => Bits.nil
 | x :: l, s => (CS _).append (FN l x)
theorem W_st {nl : Bool} {n : Nat} {L : Liz} (hn : n ≤ 2000) : ∀ (r : List Nat) (i s : Nat) (B : List Nat), i + r.length = n → L.drop i = inL r → Jo s r → (∀ x ∈ r, x < 1073741824) → Bits B → B ≠ [] → B.length ≤ 20 * i + s / 524288 → s < 1073741824 →
  Wt Try.f22 [] [] (.tup [.vec false (.iarr .u8 (pk (B ++ stB s r)).length (pk (B ++ stB s r))), .int .i64 0]) (Aa Try.f22 0) (dS1 nl n i s (pk B).length B.length L (pk B))
 | [], i, s, B, hi, hL, hr, hx, hB, h0, hb, hs => by
  obtain rfl : i = n := by simpa using hi
  have := Bf B
  rw [stB, List.append_nil]
  exact W_stE rfl (by omega)
 | x :: r, i, s, B, hi, hL, hr, hx, hB, h0, hb, hs => by
  rw [List.length_cons] at hi
  have hin : i < L.length := by
   rcases Nat.lt_or_ge i L.length with h | h
   ·exact h
   ·rw [List.drop_of_length_le h] at hL; cases hL
  have e1 : L.drop i = L[i] :: L.drop (i + 1) := List.drop_eq_getElem_cons hin
  rw [e1] at hL
  obtain ⟨g1, g2⟩ := List.cons.inj hL
  have g : L.getD i 0 = ((s + (x - s) : Nat) : Int) := by
   rw [List.getD_eq_getElem?_getD, List.getElem?_eq_getElem hin, show s + (x - s) = x by have := hr.1; omega]
   exact g1
  have hxx := hx x (by simp)
  have hlen := Ct (x - s)
  have hd : (x - s) / 524288 + s / 524288 ≤ x / 524288 := by have := hr.1; omega
  have c1 := SA (v := x - s) (by omega) (by omega) hB h0 (by omega)
  have ih := W_st (nl := nl) (L := L) hn r (i + 1) x (B ++ BD (x - s)) (by omega) g2 hr.2 (fun y hy => hx y (by simp [hy])) (hB.append (CS _)) (Mo (PU _)) (by rw [List.length_append, hlen]; omega) hxx
  rw [stB, ← List.append_assoc]
  have ih2 := W_st1 (n := n) (s := s) (d := x - s) (by omega) (by omega) g (by omega) c1 (by rw [show s + (x - s) = x by have := hr.1; omega]; exact ih)
  exact ih2
theorem Tg {nl : Bool} {n : Nat} {r : List Nat} (hn : n ≤ 2000) (hl : r.length = n) (h0 : 0 < n) (hr : Jo 0 r) (hx : ∀ x ∈ r, x < 1073741824) : Pt 22 [] [.int .i64 19, .vec nl (.iarr .u64 n (inL r))] [] (.tup [.vec false (.iarr .u8 (pk (stB 0 r)).length (pk (stB 0 r))), .int .i64 0]) := by
 cases r with
 | nil => rw [List.length_nil] at hl; omega
 | cons x r =>
  rw [List.length_cons] at hl
  have hxx := hx x (by simp)
  have hlen := Ct x
  have c1 := Rx (v := x) (by omega) (by omega)
  have hw := W_st (nl := nl) (n := n) (L := inL (x :: r)) hn r 1 x (BD x) (by omega) rfl hr.2 (fun y hy => hx y (by simp [hy])) (CS _) (PU _) (by omega) hxx
  rw [stB, Nat.sub_zero]
  exact Sk (W_st0 (by omega) h0 rfl (by omega) c1 hw)
theorem QT {nl : Bool} : Pt 22 [] [.int .i64 19, .vec nl (.iarr .u64 0 [])] [] (.tup [.vec true (.iarr .u8 0 []), .int .i64 0]) := Sk W_stE0
end Go.Proofs
namespace Go.Proofs
open Go Go.Pe Go.Pm
set_option maxRecDepth 100000
set_option linter.unusedVariables false
attribute [local irreducible] lv
theorem Rb {x : Nat} (hx : x < 253) : Pt 21 [(0, wrN)] [.at 0 [], .int .u64 x] [(0, wrR 2 1), (2, BF 1 (le x 1))] (.tup []) := by
 refine pO Try.func21 (by kernel_rfl) ?_
 have c1 := LV (x := x) (w := 1) (by omega) (by omega) (by omega)
 refine W.rtA [(1, aT), (5, cC true [(0, 0)] c1)] [(0, 0), (146, 2)] [decide ((x:Int) < 253) = true, _] (ac (dT (by omega)) (ao (c1)))
theorem QG {x : Nat} (hx : ¬ x < 253) (hx2 : x < 65536) : Pt 21 [(0, wrN)] [.at 0 [], .int .u64 x] [(0, wrR 2 3), (2, BF 3 (le 253 1 ++ le x 2))] (.tup []) := by
 refine pO Try.func21 (by kernel_rfl) ?_
 have c1 := LV (x := 253) (w := 1) (by omega) (by omega) (by omega)
 have c2 := R8 (x := x) (w := 2) (n := 1) (l := le 253 1) (by omega) (by omega) (AV _ _) (by omega)
 refine W.rtA [(1, aF), (4, aT), (7, cC true [(0, 0)] c1), (10, cC true [(0, 0), (178, 1)] c2)] [(0, 0), (226, 2)] [decide ((x:Int) < 253) = false, decide ((x:Int) ≤ 65535) = true, _, _] (ac (dF (by omega)) (ac (dT (by omega)) (ac (c1) (ao (c2)))))
def BJ (x : Nat) : List Int := if x < 253 then le x 1 else le 253 1 ++ le x 2
theorem Db (x : Nat) : (BJ x).length = if x < 253 then 1 else 3 := by
 unfold BJ
 split
 ·exact AV _ _
 ·rw [List.length_append, AV, AV]
theorem LD {x : Nat} (hx : x < 65536) : Pt 21 [(0, wrN)] [.at 0 [], .int .u64 x] [(0, wrR 2 (BJ x).length), (2, BF (BJ x).length (BJ x))] (.tup []) := by
 rw [Db]
 unfold BJ
 by_cases h : x < 253
 ·rw [if_pos h, if_pos h]
  exact Rb h
 ·rw [if_neg h, if_neg h]
  exact QG h hx
theorem W_bld0 {nl : Bool} {k0 k1 : Int} {o : Liz} (c1 : Pt 19 [] [.vec nl (.parr 1 0 ish [])] [] (.vec true (.parr 1 0 ish [])))
  (c2 : Pt 21 [(0, wrN)] [.at 0 [], .int .u64 0] [(0, wrR 2 1), (2, BF 1 o)] (.tup [])) (c3 : Pt 23 [] [.iarr .u64 2 [k0, k1], .vec true (.parr 1 0 ish []), .int .u64 0] [(1, Ac 0 [])] (.ref 1 [] 1 0 0))
  (c4 : Pt 22 [] [.int .i64 19, .vec false (.iarr .u64 0 [])] [] (.tup [.vec true (.iarr .u8 0 []), .int .i64 0]))
  (c5 : Pt 24 [(0, wrR 1 1), (1, BF 1 o)] [.at 0 [], .vec false (.parr 1 1 ish [.vec true (.iarr .u8 0 [])])] [(0, wrR 2 1), (2, BF 1 o)] (.tup []))
  (c6 : Pt 25 [(0, wrR 1 1), (1, BF 1 o)] [.at 0 []] [(0, wrR 1 1), (1, BF 1 o), (2, BF 1 o)] (.ref 2 [] 1 0 1)) :
  Pt 11 [] [.iarr .u64 2 [k0, k1], .vec nl (.parr 1 0 ish [])] [(1, BF 1 o)] (.tup [.ref 1 [] 1 0 1, .int .i64 0]) := by
 refine pO Try.func11 (by kernel_rfl) ?_
 have c7 := Ob
 refine W.rtA [(4, c9 c1), (7, aV (I6 0)), (9, c9 c7), (13, aV (I6 0)), (14, aV (U6 0)), (15, cC true [(209, 0)] c2), (19, aV (I6 0)), (20, aV (U6 0)), (21, aV (U6 0)), (22, c9 c3), (23, c9 c4), (34, cC true [(209, 0), (306, 1)] c5), (36, cC true [(209, 0), (610, 1)] c6)] [(642, 1)] [_, I6 ↑(0 : Nat) = I6 0, _, I6 ↑(0 : Nat) = I6 0, U6 (IntKind.wrap .u64 (0 : Int)) = U6 0, _, I6 ↑(0 : Nat) = I6 0, U6 (IntKind.wrap .u64 (0 : Int)) = U6 0, U6 (IntKind.wrap .u64 ((784931 : Int) * (0 : Int))) = U6 0, _, 0 ≤ 0, _, 1 ≤ 1, _, _] (ac (c1) (ac (cg (by omega)) (ac (c7) (ac (cg (by omega)) (ac (cg (Aj rfl (by omega) (by omega))) (ac (c2) (ac (cg (by omega)) (ac (cg (Aj rfl (by omega) (by omega))) (ac (cg (Aj rfl (by omega) (by omega))) (ac (c3) (ac (by omega) (ac (c4) (ac (by omega) (ac (c5) (ao (c6))))))))))))))))
theorem W_bld {nl : Bool} {n k a b m t : Nat} {k0 k1 : Int} {M U : Lpz} {nums o s q : Liz} (hn : n ≤ 1000000) (hk : k ≤ 1000) (hU : U.length = k) (hL : nums.length = k) (ht : k * 784931 = t) (c1 : Pt 19 [] [.vec nl (.parr 1 n ish M)] [(1, ⟨.parr 1 k ish U, false⟩)] (.ref 1 [] 1 0 k))
  (c2 : Pt 21 [(0, wrN)] [.at 0 [], .int .u64 k] [(0, wrR 2 a), (2, BF a o)] (.tup [])) (c3 : Pt 23 [] [.iarr .u64 2 [k0, k1], .vec false (.parr 1 k ish U), .int .u64 t] [(1, Ac k nums)] (.ref 1 [] 1 0 k))
  (c4 : Pt 22 [] [.int .i64 19, .vec false (.iarr .u64 k nums)] [] (.tup [.vec false (.iarr .u8 b s), .int .i64 0]))
  (c5 : Pt 24 [(0, wrR 1 a), (1, BF a o)] [.at 0 [], .vec false (.parr 1 1 ish [.vec false (.iarr .u8 b s)])] [(0, wrR 2 m), (2, BF m q)] (.tup []))
  (c6 : Pt 25 [(0, wrR 1 m), (1, BF m q)] [.at 0 []] [(0, wrR 1 m), (1, BF m q), (2, BF m q)] (.ref 2 [] 1 0 m)) :
  Pt 11 [] [.iarr .u64 2 [k0, k1], .vec nl (.parr 1 n ish M)] [(1, BF m q)] (.tup [.ref 1 [] 1 0 m, .int .i64 0]) := by
 refine pO Try.func11 (by kernel_rfl) ?_
 have c7 := Ob
 have h1 : U.take k = U := List.take_of_length_le (by omega)
 have h2 : nums.take k = nums := List.take_of_length_le (by omega)
 have h3 : ((784931 * k % 18446744073709551616 : Nat) : Int) = (t : Int) := by omega
 have h4 : ((784931 * k : Nat) : Int) = (t : Int) := by omega
 refine W.rtA [(4, c0 c1), (8, aF), (9, c9 c7), (14, aV (U6 k)), (15, cC true [(209, 0)] c2), (20, aV (U6 k)), (21, aV (U6 t)), (22, cL true [] c3), (23, cL false [] c4), (34, cC true [(209, 0), (306, 1)] c5), (36, cC true [(209, 0), (610, 1)] c6)] [(642, 1)] [_, decide ((k:Int) > 1000) = false, _, U6 (IntKind.wrap .u64 (k:Int)) = U6 k, _, U6 (IntKind.wrap .u64 (k:Int)) = U6 k, U6 (IntKind.wrap .u64 (784931 * (k:Int))) = U6 t, 0 + k ≤ k, rr ([] : List (Nat × Row)), ([B6 2 [k0, k1], PV.vec false (PV.parr 1 k (Sh.vec 1 (Sh.int .u8)) (List.take k U)), U6 t] : List PV) = [B6 2 [k0, k1], PV.vec false (PV.parr 1 k (Sh.vec 1 (Sh.int .u8)) U), U6 t], _, 0 + k ≤ k, rr ([] : List (Nat × Row)), ([I6 19, PV.vec false (B6 k (List.take k nums))] : List PV) = [I6 19, PV.vec false (B6 k nums)], _, 1 ≤ 1, _, _] (ac (c1) (ac (dF (by omega)) (ac (c7) (ac (cg (Aj rfl (by omega) (by omega))) (ac (c2) (ac (cg (Aj rfl (by omega) (by omega))) (ac (cg (Aj h4 (by omega) (by omega))) (ac (by omega) (ac rfl (ac (by rw [List.take_of_length_le (show List.length U ≤ k by omega)]) (ac (c3) (ac (by omega) (ac rfl (ac (by rw [List.take_of_length_le (show List.length nums ≤ k by omega)]) (ac (c4) (ac (by omega) (ac (c5) (ao (c6)))))))))))))))))))
end Go.Proofs
namespace Go.Proofs
open Go Go.Pe Go.Pm
set_option maxRecDepth 100000
set_option linter.unusedVariables false
attribute [local irreducible] lv
def Ey (U : List It) (b : List Int) : Bool := U.any fun u => decide (u.2 = b)
def Av : List It → List It → List It
 | U, [] => U
 | U, x :: l => if Ey U x.2 = true then Av U l else Av (U ++ [x]) l
structure Bp (x : It) : Prop where
 b : Bytes x.2
 nl : x.1 = true → x.2 = []
 len : x.2.length ≤ 1000000
theorem Qe : ∀ (U : List It), (∀ u ∈ U, Bytes u.2) → ∀ {b : List Int}, Bytes b → CJ (ksI U) (.str (strOf b)) = Ey U b
 | [], _, b, _ => rfl
 | u :: U, h, b, hb => by
  have ih := Qe U (fun v hv => h v (List.mem_cons_of_mem _ hv)) hb
  unfold CJ ksI Ey at ih ⊢
  rw [List.map_cons, List.any_cons, List.any_cons, ih]
  congr 1
  unfold Ee
  rw [decide_eq_decide]
  exact ⟨fun e => (Ma hb (h u (by simp)) e).symm, fun e => by rw [e]⟩
theorem K8 : ∀ (K : List PV) (V : List Int) (q : PV), CJ K q = false → AC K V q = 0
 | [], V, q, _ => by cases V <;> rfl
 | k :: K, [], q, _ => rfl
 | k :: K, v :: V, q, h => by
  unfold CJ at h
  rw [List.any_cons, Bool.or_eq_false_iff] at h
  unfold AC
  rw [if_neg (by rw [h.1]; decide)]
  exact K8 K V q h.2
theorem Om : ∀ (K : List PV) (V : List Int) (s : ByteArray) (x : Int), CJ K (.str s) = false → K.length = V.length → AC (K ++ [.str s]) (V ++ [x]) (.str s) = x
 | [], [], s, x, _, _ => by simp [AC, Ee]
 | [], v :: V, s, x, _, h => by simp at h
 | k :: K, [], s, x, _, h => by simp at h
 | k :: K, v :: V, s, x, h, hl => by
  unfold CJ at h
  rw [List.any_cons, Bool.or_eq_false_iff] at h
  rw [List.cons_append, List.cons_append]
  unfold AC
  rw [if_neg (by rw [h.1]; decide)]
  exact Om K V s x h.2 (by simpa using hl)
theorem Nq : ∀ (K : List PV) (V : List Int) (q : PV), CJ K q = true → K.length = V.length → AC K V q ∈ V
 | [], V, q, h, _ => by cases h
 | k :: K, [], q, _, h => by simp at h
 | k :: K, v :: V, q, h, hl => by
  unfold CJ at h
  rw [List.any_cons, Bool.or_eq_true] at h
  unfold AC
  by_cases e : Ee q k = true
  ·rw [if_pos e]; simp
  ·rw [if_neg e]
   exact List.mem_cons_of_mem _ (Nq K V q (h.resolve_left e) (by simpa using hl))
theorem NC : ∀ (K : List PV) (V : List Int) (q : PV) (x : Int), CJ K q = true → K.length = V.length → AC K (Dc K V q x) q = x
 | [], V, q, x, h, _ => by cases h
 | k :: K, [], q, x, _, h => by simp at h
 | k :: K, v :: V, q, x, h, hl => by
  unfold CJ at h
  rw [List.any_cons, Bool.or_eq_true] at h
  unfold Dc
  by_cases e : Ee q k = true
  ·rw [if_pos e]
   unfold AC
   rw [if_pos e]
  ·rw [if_neg e]
   unfold AC
   rw [if_neg e]
   exact NC K V q x (h.resolve_left e) (by simpa using hl)
theorem Qd : ∀ (K : List PV) (V : List Int) (q : PV) (x : Int), (Dc K V q x).length = V.length ∧ ∀ y ∈ Dc K V q x, y = x ∨ y ∈ V
 | [], V, q, x => by
  cases V <;> exact ⟨rfl, fun y hy => .inr hy⟩
 | k :: K, [], q, x => ⟨rfl, fun y hy => .inr hy⟩
 | k :: K, v :: V, q, x => by
  unfold Dc
  split
  ·refine ⟨rfl, fun y hy => ?_⟩
   rcases List.mem_cons.1 hy with rfl | hy
   ·exact .inl rfl
   ·exact .inr (List.mem_cons_of_mem _ hy)
  ·have ih := Qd K V q x
   refine ⟨by rw [List.length_cons, List.length_cons, ih.1], fun y hy => ?_⟩
   rcases List.mem_cons.1 hy with rfl | hy
   ·exact .inr (by simp)
   ·exact (ih.2 y hy).imp_right (List.mem_cons_of_mem _)
theorem Ck {I : List It} {i : Nat} (h : i < I.length) : (I.map itB).getD i .undef = .vec (I.getD i default).1 (.iarr .u8 (I.getD i default).2.length (I.getD i default).2) := by
 simp [List.getD_eq_getElem?_getD, h, itB]
theorem Fu {I : List It} (ho : ∀ x ∈ I, Bp x) {i : Nat} (h : i < I.length) : Bp (I.getD i default) := by
 have : I.getD i default = I[i] := by simp [List.getD_eq_getElem?_getD, h]
 rw [this]; exact ho _ (List.getElem_mem h)
theorem drop_at {α : Type} [Inhabited α] {I : List α} {i : Nat} (h : i < I.length) : I.drop i = I.getD i default :: I.drop (i + 1) := by
 rw [List.drop_eq_getElem_cons h]; simp [List.getD_eq_getElem?_getD, h]
theorem CR : ∀ (l U : List It), U.length ≤ (Av U l).length ∧ (Av U l).length ≤ U.length + l.length
 | [], U => ⟨Nat.le_refl _, by rw [Av]; simp⟩
 | x :: l, U => by
  unfold Av
  split
  ·have := CR l U
   rw [List.length_cons]; omega
  ·have := CR l (U ++ [x])
   rw [List.length_append, List.length_singleton] at this
   rw [List.length_cons]; omega
theorem CW {P : It → Prop} : ∀ (l U : List It), (∀ x ∈ U, P x) → (∀ x ∈ l, P x) → ∀ x ∈ Av U l, P x
 | [], U, hU, _ => hU
 | y :: l, U, hU, hl => by
  unfold Av
  split
  ·exact CW l U hU fun x hx => hl x (List.mem_cons_of_mem _ hx)
  ·refine CW l (U ++ [y]) (fun x hx => ?_) fun x hx => hl x (List.mem_cons_of_mem _ hx)
   rcases List.mem_append.1 hx with hx | hx
   ·exact hU x hx
   ·rw [List.mem_singleton.1 hx]; exact hl y (by simp)
theorem W_un {nl : Bool} {I : List It} (hn : I.length ≤ 900000) (ho : ∀ x ∈ I, Bp x) : ∀ (r i : Nat) (U : List It) (V : List Int), i + r = I.length → 0 < i → (∀ u ∈ U, Bp u) → U.length ≤ i → V.length = U.length → (∀ v ∈ V, 1 ≤ v ∧ v ≤ (i : Int)) →
  Wt Try.f19 [] [(1, ⟨.parr 1 (Av U (I.drop i)).length ish ((Av U (I.drop i)).map itB), false⟩)] (.ref 1 [] 1 0 (Av U (I.drop i)).length) (Aa Try.f19 0) (dU nl I.length i U.length (I.map itB) (ksI U) V (U.map itB))
 | 0, i, U, V, hk, h0, hU, hl, hV, hv => by
  obtain rfl : i = I.length := by omega
  rw [List.drop_of_length_le (Nat.le_refl _), Av]
  exact W_uE
 | r + 1, i, U, V, hk, h0, hU, hl, hV, hv => by
  have hi : i < I.length := by omega
  have hx := Fu ho hi
  have g := Ck hi
  have hs := Qe U (fun u hu => (hU u hu).b) hx.b
  have hkl : (ksI U).length = V.length := by rw [hV]; simp [ksI]
  rw [drop_at hi, Av]
  by_cases h : Ey U (I.getD i default).2 = true
  ·rw [if_pos h]
   rw [h] at hs
   have hb := hv _ (Nq _ V _ hs hkl)
   have hm := Qd (ksI U) V (.str (strOf (I.getD i default).2)) (AC (ksI U) V (.str (strOf (I.getD i default).2)) + 1)
   have hw := W_un (nl := nl) hn ho r (i + 1) U (Dc (ksI U) V (.str (strOf (I.getD i default).2)) (AC (ksI U) V (.str (strOf (I.getD i default).2)) + 1)) (by omega) (by omega) hU (by omega) (by rw [hm.1, hV]) (fun v hv2 => by
    rcases hm.2 v hv2 with rfl | h3
    ·omega
    ·have := hv v h3; omega)
   exact W_uO hi (by omega) g rfl hb.1 (by omega) hs rfl (NC _ V _ _ hs hkl) hw
  ·rw [if_neg h]
   have hf : Ey U (I.getD i default).2 = false := by simpa using h
   rw [hf] at hs
   have hw := W_un (nl := nl) hn ho r (i + 1) (U ++ [I.getD i default]) (V ++ [1]) (by omega) (by omega) (fun u hu => by
    rcases List.mem_append.1 hu with hu | hu
    ·exact hU u hu
    ·rw [List.mem_singleton.1 hu]; exact hx) (by rw [List.length_append, List.length_singleton]; omega) (by rw [List.length_append, List.length_append, hV]; rfl) (fun v hv2 => by
    rcases List.mem_append.1 hv2 with h3 | h3
    ·have := hv v h3; omega
    ·rw [List.mem_singleton.1 h3]; omega)
   have e1 : ksI (U ++ [I.getD i default]) = ksI U ++ [.str (strOf (I.getD i default).2)] := by unfold ksI; rw [List.map_append]; rfl
   have e2 : (U ++ [I.getD i default]).map itB = U.map itB ++ [.vec (I.getD i default).1 (.iarr .u8 (I.getD i default).2.length (I.getD i default).2)] := by rw [List.map_append]; rfl
   rw [e1, e2, List.length_append, List.length_singleton] at hw
   exact W_uN hi (by omega) hl (by rw [List.length_map]) g rfl hs (K8 _ V _ hs) (Om _ V _ 1 hs hkl) hw
theorem Rj {nl : Bool} {I : List It} (hn : I.length ≤ 900000) (h0 : 0 < I.length) (ho : ∀ x ∈ I, Bp x) : Pt 19 [] [.vec nl (.parr 1 I.length ish (I.map itB))] [(1, ⟨.parr 1 (Av [] I).length ish ((Av [] I).map itB), false⟩)] (.ref 1 [] 1 0 (Av [] I).length) := by
 refine W_uIn ?_
 have hx := Fu ho h0
 have e : Av [] I = Av [I.getD 0 default] (I.drop 1) := by
  have := drop_at h0
  rw [List.drop_zero] at this
  conv => lhs; rw [this]
  rw [Av, if_neg (by simp [Ey])]
  rfl
 rw [e]
 have hw := W_un (nl := nl) hn ho (I.length - 1) 1 [I.getD 0 default] [1] (by omega) (by omega) (fun u hu => by rw [List.mem_singleton.1 hu]; exact hx) (Nat.le_refl 1) rfl (fun v hv => by rw [List.mem_singleton.1 hv]; omega)
 exact W_ul0 h0 (by omega) (Ck h0) rfl hw
def DU (k0 k1 t : Nat) (u : It) : Nat := MS k0 k1 u.2 * t / 18446744073709551616
def BP (k0 k1 t : Nat) (U : List It) : List Int := U.map fun u => (DU k0 k1 t u : Int)
theorem EY {k0 k1 : Nat} {l : List Int} (h0 : k0 < 18446744073709551616) (h1 : k1 < 18446744073709551616) (hb : Bytes l) : MS k0 k1 l < 18446744073709551616 := by
 have hB : ∀ (q : Nat) (v : V4) (l : List Int), v.Ok → Bytes l → (D9 v l q).Ok := by
  intro q
  induction q with
  | zero => intro v l hv _; exact hv
  | succ q ih => intro v l hv hb; exact ih _ _ (hv.tk (Fx hb 8)) (hb.drop _)
 unfold MS sipF sipE
 have hv := hB (l.length / 8) (Es k0 k1) l (ME h0 h1) hb
 have hd : Bytes (l.drop (8 * (l.length / 8))) := hb.drop _
 have hdl : (l.drop (8 * (l.length / 8))).length < 8 := by rw [List.length_drop]; omega
 have hk := Fx hd (l.drop (8 * (l.length / 8))).length
 have hk2 : 2 ^ (8 * (l.drop (8 * (l.length / 8))).length) ≤ 2 ^ 64 := Nat.pow_le_pow_right (by omega) (by omega)
 have ho : l.length % 256 * 72057594037927936 ||| lv (l.drop (8 * (l.length / 8))) (l.drop (8 * (l.length / 8))).length < 18446744073709551616 := Nat.or_lt_two_pow (n := 64) (by omega) (Nat.lt_of_lt_of_le hk hk2)
 have hw := hv.tk ho
 exact sipX_lt (V4.Ok.rnd (V4.Ok.rnd (V4.Ok.rnd (V4.Ok.rnd ⟨hw.a, hw.b, BG hw.c (by decide), hw.d⟩))))
theorem num1_lt {k0 k1 t : Nat} {u : It} (h0 : k0 < 18446744073709551616) (h1 : k1 < 18446744073709551616) (hb : Bytes u.2) (ht : 0 < t) : DU k0 k1 t u < t := by
 unfold DU
 have := EY h0 h1 hb
 rw [Nat.div_lt_iff_lt_mul (by decide), Nat.mul_comm]
 exact Nat.mul_lt_mul_of_pos_left this ht
theorem W_num {nl : Bool} {k0 k1 t : Nat} {U : List It} (h0 : k0 < 18446744073709551616) (h1 : k1 < 18446744073709551616) (ht : t < 18446744073709551616) (hn : U.length < 65536) (ho : ∀ x ∈ U, Bp x) : ∀ (r i : Nat), i + r = U.length →
  Wt Try.f23 [] [(1, Ac U.length ((BP k0 k1 t U).mergeSort (fun x y => decide (x ≤ y))))] (.ref 1 [] 1 0 U.length) (Aa Try.f23 0) (dN0 nl U.length i t k0 k1 (U.map itB) ((BP k0 k1 t U).take i))
 | 0, i, hk => by
  obtain rfl : i = U.length := by omega
  have hl : (BP k0 k1 t U).length = U.length := by simp [BP]
  rw [List.take_of_length_le (by omega)]
  exact W_nE (Sg hn hl)
 | r + 1, i, hk => by
  have hi : i < U.length := by omega
  have hx := Fu ho hi
  have hs : (BP k0 k1 t U).take (i + 1) = (BP k0 k1 t U).take i ++ [((DU k0 k1 t (U.getD i default) : Nat) : Int)] := by
   rw [List.take_add_one]
   congr 1
   simp [BP, List.getD_eq_getElem?_getD, hi]
  have ih := W_num (nl := nl) h0 h1 ht hn ho r (i + 1) (by omega)
  rw [hs] at ih
  exact W_nS hi (by omega) (by rw [List.length_take]; simp [BP]; omega) (Ck hi) rfl (IP rfl hx.len h0 h1 hx.b) (DL (EY h0 h1 hx.b) ht) ih
theorem Kb {nl : Bool} {k0 k1 t : Nat} {U : List It} (h0 : k0 < 18446744073709551616) (h1 : k1 < 18446744073709551616) (ht : t < 18446744073709551616) (hn : U.length < 65536) (ho : ∀ x ∈ U, Bp x) :
  Pt 23 [] [.iarr .u64 2 [(k0 : Int), (k1 : Int)], .vec nl (.parr 1 U.length ish (U.map itB)), .int .u64 t] [(1, Ac U.length ((BP k0 k1 t U).mergeSort (fun x y => decide (x ≤ y))))] (.ref 1 [] 1 0 U.length) :=
 W_nIn (by omega) (W_num h0 h1 ht hn ho U.length 0 (by omega))
end Go.Proofs
namespace Go.Proofs
open Go Go.Pe Go.Pm
set_option maxRecDepth 100000
set_option linter.unusedVariables false
attribute [local irreducible] lv
def vH (e c : Nat) (L : List Int) : List (Nat × Row) := if e = 0 then [(1, Ac c L)] else []
def vP (e c : Nat) : PV := if e = 0 then .tup [.ref 1 [] 1 0 c, .int .i64 0] else .tup [Cx, .int .i64 e]
theorem runE_lt (k o m : Nat) : CU k o m < 100 := by
 unfold CU
 split
 ·omega
 ·split <;> omega
theorem gE_lt {l : List Int} {n a : Nat} : gE l n a < 100 := by
 have := runE_lt (8 * n - a) (gO l n a) 65536
 unfold gE
 split
 ·exact this
 ·split <;> omega
theorem JE {l : List Int} {n c a e : Nat} {o : List Int} (h : e ≠ 0) : vlE l n c (o, a, e) = e := if_pos h
theorem P7 {l : List Int} {n c a : Nat} {o : List Int} (hc : 0 < c) : vlE l n c (o, a, 0) = if 8 * n - a < 8 ∧ CQ l a (8 * n - a) = true then 0 else 3 := by
 unfold vlE
 rw [if_neg (by simp), if_neg (by omega)]
theorem W_v {nl : Bool} {n c : Nat} {l : Liz} (hn : n ≤ 1000000) (hb : Bytes l) (hc : c ≤ 1000) : ∀ (k a s i : Nat) (o : List Int), i + k = c → 0 < i → o.length = i → s < c * 784931 → a ≤ 8 * n →
  Wt Try.f14 [] (vH (vlE l n c (vlF l n (c * 784931) k a s o)) c (vlF l n (c * 784931) k a s o).1) (vP (vlE l n c (vlF l n (c * 784931) k a s o)) c) (Aa Try.f14 0) (dV nl n a c s i l o)
 | 0, a, s, i, o, hk, h0, ho, hs, ha => by
  obtain rfl : i = c := by omega
  have c1 := KO (nl := nl) hn hb ha
  unfold vlF
  rw [P7 h0]
  by_cases h : 8 * n - a < 8 ∧ CQ l a (8 * n - a) = true
  ·rw [decide_eq_true h] at c1
   rw [if_pos h]
   exact W_vX (b := true) h0 hc c1
  ·rw [decide_eq_false h] at c1
   rw [if_neg h]
   exact W_vXn h0 hc c1
 | k + 1, a, s, i, o, hk, h0, ho, hs, ha => by
  have c1 := PR (nl := nl) hn hb ha
  unfold vlF
  by_cases he : gE l n a = 0
  ·rw [if_pos he, if_pos he] at c1
   rw [he] at c1
   obtain ⟨hA, hO⟩ := gE_ok ha he
   have hv := gV_lt hO
   rw [if_neg (not_not_intro he)]
   by_cases hl : c * 784931 ≤ s + gV l n a
   ·rw [if_pos hl, JE (by decide)]
    exact W_vB (by omega) hc hv (by omega) hl c1
   ·rw [if_neg hl]
    exact W_vS ho (by omega) hc hv (by omega) (by omega) c1 (W_v hn hb hc k _ _ _ _ (by omega) (by omega) (by simp [ho]) (by omega) hA)
  ·rw [if_neg he, if_neg he] at c1
   rw [if_pos he, JE he]
   unfold vH vP
   rw [if_neg he, if_neg he]
   exact W_vE (by omega) hc he gE_lt c1
def ED (b : List Int) : Nat := (Rd.mk b 0).vn 1000
def vErr (b : List Int) : Nat := (Rd.mk b 0).ve 1000
def vS (b : List Int) : List Int := ((Rd.mk b 0).var 1000).s
def MV (b : List Int) : List Int × Nat × Nat := vlF (vS b) (vS b).length (ED b * 784931) (ED b) 0 0 []
def vE (b : List Int) : Nat := if vErr b ≠ 0 then vErr b else vlE (vS b) (vS b).length (ED b) (MV b)
theorem W_v0 {nl : Bool} {l : Liz} {c : Nat} (hn : l.length ≤ 1000000) (hb : Bytes l) (hc : c ≤ 1000) (h0 : 0 < c) :
  Wt Try.f14 [] (vH (vlE l l.length c (vlF l l.length (c * 784931) c 0 0 [])) c (vlF l l.length (c * 784931) c 0 0 []).1) (vP (vlE l l.length c (vlF l l.length (c * 784931) c 0 0 [])) c) (Aa Try.f14 0) (dV0 nl l.length 0 c l) := by
 obtain ⟨k, rfl⟩ : ∃ k, c = k + 1 := ⟨c - 1, by omega⟩
 have c1 := PR (nl := nl) (a := 0) hn hb (by omega)
 rw [show vlF l l.length ((k + 1) * 784931) (k + 1) 0 0 [] = if gE l l.length 0 ≠ 0 then ([], 0, gE l l.length 0) else if (k + 1) * 784931 ≤ 0 + gV l l.length 0 then ([], 0, 5) else vlF l l.length ((k + 1) * 784931) k (gA l l.length 0) (0 + gV l l.length 0) ([] ++ [((0 + gV l l.length 0 : Nat) : Int)]) from rfl]
 by_cases he : gE l l.length 0 = 0
 ·rw [if_pos he, if_pos he] at c1
  rw [he] at c1
  obtain ⟨hA, hO⟩ := gE_ok (Nat.zero_le _) he
  have hv := gV_lt hO
  rw [if_neg (not_not_intro he), Nat.zero_add]
  by_cases hl : (k + 1) * 784931 ≤ gV l l.length 0
  ·rw [if_pos hl, JE (by decide)]
   exact W_vB0 (by omega) hc hv hl c1
  ·rw [if_neg hl]
   exact W_vS0 (by omega) hc hv (by omega) c1 (W_v hn hb hc k _ _ _ _ (by omega) (by omega) rfl (by omega) hA)
 ·rw [if_neg he, if_neg he] at c1
  rw [if_pos he, JE he]
  unfold vH vP
  rw [if_neg he, if_neg he]
  exact W_vE0 (by omega) hc he gE_lt c1
theorem W_vInE {nl : Bool} {m a e x : Nat} {b : Liz} (he : e ≠ 0) (he2 : e ≤ 100) (c1 : Pt 29 [] [.vec nl (.iarr .u8 m b)] [(1, rdq nl m b 0 0)] (.at 1 [])) (c2 : Pt 30 [(0, rdq nl m b 0 0)] [.at 0 [], .int .u64 1000] [(0, rdq nl m b a e)] (.int .u64 x)) (c3 : Pt 31 [(0, rdq nl m b a e)] [.at 0 []] [(0, rdq nl m b a e)] (.int .i64 e)) :
  Pt 14 [] [.vec nl (.iarr .u8 m b)] [] (.tup [Cx, .int .i64 e]) := by
 refine pO Try.func14 (by kernel_rfl) ?_
 unfold Cx
 refine W.rtA [(3, c0 c1), (6, cC false [(113, 0)] c2), (9, cC false [(113, 0)] c3), (12, aT)] [] [_, _, _, ((e:Int) != 0) = true] (ac (c1) (ac (c2) (ac (c3) (ao (bne_iff_ne.2 (by omega))))))
theorem W_vIn {nl : Bool} {m a x w : Nat} {b s : Liz} {hout : Lrz} {res : PV} (c1 : Pt 29 [] [.vec nl (.iarr .u8 m b)] [(1, rdq nl m b 0 0)] (.at 1 [])) (c2 : Pt 30 [(0, rdq nl m b 0 0)] [.at 0 [], .int .u64 1000] [(0, rdq nl m b a 0)] (.int .u64 x)) (c3 : Pt 31 [(0, rdq nl m b a 0)] [.at 0 []] [(0, rdq nl m b a 0)] (.int .i64 0))
  (c4 : Pt 34 [(0, rdq nl m b a 0)] [.at 0 []] [(0, rdq nl m b a 0)] (.int .i64 w)) (c5 : Pt 33 [(0, rdq nl m b a 0)] [.at 0 [], .int .i64 w] [(0, rdq nl m b (a + w) 0)] (.vec nl (.iarr .u8 w s))) (c6 : Pt 32 [] [.vec nl (.iarr .u8 w s)] [(1, btR nl w s 0)] (.at 1 []))
  (hw : Wt Try.f14 [] hout res (Aa Try.f14 0) (dV0 nl w 0 x s)) :
  Pt 14 [] [.vec nl (.iarr .u8 m b)] hout res := by
 refine pO Try.func14 (by kernel_rfl) ?_
 unfold dV0 Cx at hw
 refine W.sgA 0 [(3, c0 c1), (6, cC false [(113, 0)] c2), (9, cC false [(113, 0)] c3), (15, cC false [(113, 0)] c4), (16, cC false [(113, 0)] c5), (17, c0 c6)] [(337, 0)] (dV0 nl w 0 x s) [_, _, _, _, _, _] (ac (c1) (ac (c2) (ac (c3) (ac (c4) (ac (c5) (ao (c6))))))) ?_
 exact hw
theorem var_e (r : Rd) (m : Nat) : (r.var m).e = r.ve m := by
 unfold Rd.var
 split
 ·rename_i h; exact h.symm
 ·rfl
theorem pc_vals {nl : Bool} {m : Nat} {b : Liz} (hl : b.length = m) (hm : m ≤ 1000000) (hb : Bytes b) (hnl : nl = true → m = 0) :
  Pt 14 [] [.vec nl (.iarr .u8 m b)] (if ED b = 0 then [] else vH (vE b) (ED b) (MV b).1) (if ED b = 0 then .tup [Cx, .int .i64 (vE b)] else vP (vE b) (ED b)) := by
 have hr : (Rd.mk b 0).In b m := ⟨hl, by show b.length ≤ m; omega, by show b = b.drop (m - b.length); rw [hl, Nat.sub_self, List.drop_zero], hb⟩
 have c1 := pc_rdOf (nl := nl) hm hl hnl
 have c2 := TH (m := 1000) hr hm (show (0 : Nat) ≤ 100 by omega) (by decide) hnl
 have e0 : m - (Rd.mk b 0).s.length = 0 := by show m - b.length = 0; omega
 rw [e0, var_e] at c2
 have hr2 := hr.var 1000
 have hcl : ED b ≤ 1000 := Rd.vn_le _ _
 have hE : (Rd.mk b 0).ve 1000 ≤ 100 := by
  unfold Rd.ve
  split
  ·split
   ·omega
   ·split
    ·omega
    ·split <;> omega
  ·exact Nat.zero_le 100
 have c3 := Tj (nl := nl) (a := m - ((Rd.mk b 0).var 1000).s.length) (e := (Rd.mk b 0).ve 1000) hl hE
 unfold vE
 by_cases h : (Rd.mk b 0).ve 1000 = 0
 ·rw [h] at c2 c3
  have h' : ¬ vErr b ≠ 0 := not_not_intro h
  rw [if_neg h']
  have c4 := QF (nl := nl) (a := m - ((Rd.mk b 0).var 1000).s.length) (e := 0) hl hm (by omega)
  have hle := hr2.le
  have hsl : m - (m - ((Rd.mk b 0).var 1000).s.length) = (vS b).length := by show m - (m - ((Rd.mk b 0).var 1000).s.length) = ((Rd.mk b 0).var 1000).s.length; omega
  rw [hsl] at c4
  have c5 := JQ (nl := nl) (a := m - ((Rd.mk b 0).var 1000).s.length) (w := (vS b).length) hl hm (by show m - ((Rd.mk b 0).var 1000).s.length + ((Rd.mk b 0).var 1000).s.length ≤ m; omega) hnl
  have hs : (b.drop (m - ((Rd.mk b 0).var 1000).s.length)).take (vS b).length = vS b := by
   rw [← hr2.eq]
   exact List.take_of_length_le (Nat.le_refl _)
  rw [hs] at c5
  have hbs : Bytes (vS b) := hr2.bytes
  have hsl2 : (vS b).length ≤ m := hle
  have c6 := pc_btOf (nl := nl) (show (vS b).length ≤ 1000000 by omega) rfl (fun x => by have := hnl x; omega)
  refine W_vIn c1 c2 c3 c4 c5 c6 ?_
  show Wt Try.f14 [] _ _ _ (dV0 nl (vS b).length 0 (ED b) (vS b))
  by_cases h0 : ED b = 0
  ·rw [if_pos h0, if_pos h0]
   have e : vlE (vS b) (vS b).length (ED b) (MV b) = if 0 < (vS b).length then 3 else 0 := by
    unfold MV
    rw [h0]
    unfold vlE vlF
    dsimp only
    rw [if_neg (by simp)]
    by_cases hz : 0 < (vS b).length
    ·rw [if_pos ⟨rfl, hz⟩, if_pos hz]
    ·rw [if_neg (fun x => hz x.2), if_neg hz]
     have : (vS b).length = 0 := by omega
     rw [this]
     rfl
   rw [e, h0]
   have cL := Cs (nl := nl) (n := (vS b).length) (a := 0) (l := vS b) (by omega) (by omega)
   by_cases hz : 0 < (vS b).length
   ·rw [if_pos hz]
    exact W_vZn (q := 8 * (vS b).length - 0) (by omega) cL
   ·rw [if_neg hz]
    have hz0 : (vS b).length = 0 := by omega
    rw [hz0] at cL ⊢
    have cC := KO (nl := nl) (n := 0) (a := 0) (l := vS b) (by omega) hbs (by omega)
    exact W_vZ cL cC
  ·rw [if_neg h0, if_neg h0]
   exact W_v0 (by omega) hbs hcl (by omega)
 ·have h' : vErr b ≠ 0 := h
  have h0 : ED b = 0 := by
   show (Rd.mk b 0).vn 1000 = 0
   unfold Rd.vn
   rw [if_neg h]
  rw [if_pos h', if_pos h0, if_pos h0]
  exact W_vInE h hE c1 c2 c3
end Go.Proofs
namespace Go.Proofs
open Go Go.Pe Go.Pm
set_option maxRecDepth 100000
set_option linter.unusedVariables false
attribute [local irreducible] lv
theorem Ls (x : Int) : Pt 72 [] [.int .u64 x] [] (.bool false) := by
 refine pO Try.func72 (by kernel_rfl) ?_
 refine W.rtA [(3, aF)] [] [(x != x) = false] (ao (bne_eq_false_iff_eq.2 (by omega)))
def dBs (nl : Bool) (n i j : Nat) (x : Int) (L : List Int) : DS := ⟨[(0, .vec nl (.iarr .u64 n L)), (1, .int .u64 x), (6, .int .i64 n), (7, .int .i64 i), (8, .int .i64 j)], []⟩
def bsF (L : List Int) (x : Int) : Nat → Nat → Nat → Nat
 | 0, i, _ => i
 | k + 1, i, j => if i < j then (if L.getD ((i + j) / 2) 0 < x then bsF L x k ((i + j) / 2 + 1) j else bsF L x k i ((i + j) / 2)) else i
theorem W_bsL {nl : Bool} {n i j h : Nat} {x : Int} {L : Liz} {hout : Lrz} {res : PV} (hn : n ≤ 100000) (hij : i < j) (hj : j ≤ n) (hh : (i + j) / 2 = h) (g : L.getD h 0 < x)
  (hw : Wt Try.f44 [] hout res (Aa Try.f44 0) (dBs nl n (h + 1) j x L)) : Wt Try.f44 [] hout res (Aa Try.f44 0) (dBs nl n i j x L) := by
 have hh2 : (((i + j) / 2 : Nat) : Int) = (h : Int) := by rw [hh]
 have hhj : h < n := by omega
 clear hh
 refine W.sgA 0 [(2, aT), (5, aV (I6 ↑(i + j))), (6, aV (U6 ↑(i + j))), (7, aV (U6 ↑((i + j) / 2))), (8, aV (I6 h)), (15, aK (PV.bool true)), (17, aV (I6 ↑(h + 1)))] [] (dBs nl n (h + 1) j x L) [decide ((i:Int) < (j:Int)) = true, I6 (IntKind.wrap .i64 ((i:Int) + (j:Int))) = I6 ↑(i + j), U6 (IntKind.wrap .u64 (↑(i + j) : Int)) = U6 ↑(i + j), U6 (Int.fdiv (↑(i + j) : Int) ((2 : Int) ^ 1)) = U6 ↑((i + j) / 2), (0 : Int) ≤ 1, I6 (IntKind.wrap .i64 (↑((i + j) / 2) : Int)) = I6 h, 0 ≤ (h:Int), (h:Int) < (n:Int), h < n, Pt 71 [] [U6 (List.getD L h (0 : Int)), U6 x] [] (PV.bool true), I6 (IntKind.wrap .i64 ((h:Int) + 1)) = I6 ↑(h + 1)] (ac (dT (by omega)) (ac (wj (by omega)) (ac (cg (Aj rfl (by omega) (by omega))) (ac (cg (Bb (y := 1) (s := 1) rfl rfl (by decide) (by omega))) (ac (by omega) (ac (cg (Ab hh2 (by omega) (by omega))) (ob3 (by omega) (ac (AZ _ _ (by first | omega | decide)) (ao (wj (by omega))))))))))) ?_
 exact hw
theorem W_bsR {nl : Bool} {n i j h : Nat} {x : Int} {L : Liz} {hout : Lrz} {res : PV} (hn : n ≤ 100000) (hij : i < j) (hj : j ≤ n) (hh : (i + j) / 2 = h) (g : ¬ L.getD h 0 < x)
  (hw : Wt Try.f44 [] hout res (Aa Try.f44 0) (dBs nl n i h x L)) : Wt Try.f44 [] hout res (Aa Try.f44 0) (dBs nl n i j x L) := by
 have hh2 : (((i + j) / 2 : Nat) : Int) = (h : Int) := by rw [hh]
 have hhj : h < n := by omega
 clear hh
 refine W.sgA 0 [(2, aT), (5, aV (I6 ↑(i + j))), (6, aV (U6 ↑(i + j))), (7, aV (U6 ↑((i + j) / 2))), (8, aV (I6 h)), (15, aK (PV.bool false))] [] (dBs nl n i h x L) [decide ((i:Int) < (j:Int)) = true, I6 (IntKind.wrap .i64 ((i:Int) + (j:Int))) = I6 ↑(i + j), U6 (IntKind.wrap .u64 (↑(i + j) : Int)) = U6 ↑(i + j), U6 (Int.fdiv (↑(i + j) : Int) ((2 : Int) ^ 1)) = U6 ↑((i + j) / 2), (0 : Int) ≤ 1, I6 (IntKind.wrap .i64 (↑((i + j) / 2) : Int)) = I6 h, 0 ≤ (h:Int), (h:Int) < (n:Int), h < n, Pt 71 [] [U6 (List.getD L h (0 : Int)), U6 x] [] (PV.bool false)] (ac (dT (by omega)) (ac (wj (by omega)) (ac (cg (Aj rfl (by omega) (by omega))) (ac (cg (Bb (y := 1) (s := 1) rfl rfl (by decide) (by omega))) (ac (by omega) (ac (cg (Ab hh2 (by omega) (by omega))) (ob3 (by omega) (ao (Bt _ _ (by first | omega | decide)))))))))) ?_
 exact hw
theorem W_bsE {nl : Bool} {n i j : Nat} {x : Int} {L : Liz} (hn : n ≤ 100000) (hij : ¬ i < j) (hi : i ≤ n) : Wt Try.f44 [] [] (.tup [.int .i64 i, .bool (decide (i < n ∧ L.getD i 0 = x))]) (Aa Try.f44 0) (dBs nl n i j x L) := by
 have c1 := Ls (L.getD i 0)
 have c2 := Ls x
 by_cases h : i < n
 ·by_cases g : L.getD i 0 = x
  ·rw [decide_eq_true ⟨h, g⟩]
   refine W.rtA [(2, aF), (6, aT), (11, aV (U6 x)), (13, aT)] [] [decide ((i:Int) < (j:Int)) = false, decide ((i:Int) < (n:Int)) = true, 0 ≤ (i:Int), (i:Int) < (n:Int), U6 (List.getD L i (0 : Int)) = U6 x, i < n, (x == x) = true] (ac (dF (by omega)) (ac (dT (by omega)) (ob2 (by omega) (ac (cg (g)) (ac (by omega) (ao (dT (by omega))))))))
  ·rw [decide_eq_false (fun z => g z.2)]
   refine W.rtA [(2, aF), (6, aT), (13, aF), (19, c9 c1)] [] [decide ((i:Int) < (j:Int)) = false, decide ((i:Int) < (n:Int)) = true, 0 ≤ (i:Int), (i:Int) < (n:Int), i < n, (List.getD L i (0 : Int) == x) = false, 0 ≤ (i:Int), (i:Int) < (n:Int), i < n, _] (ac (dF (by omega)) (ac (dT (by omega)) (ob3 (by omega) (ac (dF (by omega)) (ob3 (by omega) (ao (c1)))))))
 ·rw [decide_eq_false (fun z => h z.1)]
  refine W.rtA [(2, aF), (6, aF)] [] [decide ((i:Int) < (j:Int)) = false, decide ((i:Int) < (n:Int)) = false] (ac (dF (by omega)) (ao (dF (by omega))))
theorem W_bs {nl : Bool} {n : Nat} {x : Int} {L : Liz} (hn : n ≤ 100000) : ∀ (k i j : Nat), j ≤ i + k → i ≤ n → j ≤ n →
  Wt Try.f44 [] [] (.tup [.int .i64 (bsF L x k i j), .bool (decide (bsF L x k i j < n ∧ L.getD (bsF L x k i j) 0 = x))]) (Aa Try.f44 0) (dBs nl n i j x L)
 | 0, i, j, hk, hi, hj => by
  unfold bsF
  exact W_bsE hn (by omega) hi
 | k + 1, i, j, hk, hi, hj => by
  unfold bsF
  by_cases h : i < j
  ·rw [if_pos h]
   by_cases g : L.getD ((i + j) / 2) 0 < x
   ·rw [if_pos g]
    exact W_bsL hn h hj rfl g (W_bs hn k _ _ (by omega) (by omega) hj)
   ·rw [if_neg g]
    exact W_bsR hn h hj rfl g (W_bs hn k _ _ (by omega) hi (by omega))
  ·rw [if_neg h]
   exact W_bsE hn h hi
theorem pc_bs {nl : Bool} {n : Nat} {x : Int} {L : Liz} (hn : n ≤ 100000) : Pt 44 [] [.vec nl (.iarr .u64 n L), .int .u64 x] [] (.tup [.int .i64 (bsF L x n 0 n), .bool (decide (bsF L x n 0 n < n ∧ L.getD (bsF L x n 0 n) 0 = x))]) := by
 refine pO Try.func44 (by kernel_rfl) ?_
 have hw := W_bs (nl := nl) (x := x) (L := L) hn n 0 n (by omega) (by omega) (by omega)
 generalize bsF L x n 0 n = r at *
 generalize decide (r < n ∧ L.getD r 0 = x) = d at *
 refine W.sgA 0 [] [] (dBs nl n 0 n x L) [] trivial ?_
 exact hw
def dAn (nl : Bool) (n i : Nat) (k0 k1 : Int) (M : List PV) : DS := ⟨[(3, .at 0 []), (8, Cx), (10, .vec true (.iarr .i64 0 [])), (24, .vec nl (.parr 1 n ish M)), (25, .int .i64 n), (26, .int .i64 i)], [(0, ⟨.iarr .u64 2 [k0, k1], false⟩)]⟩
def dA0 (nl : Bool) (n i c : Nat) (k0 k1 : Int) (M : List PV) (L : List Int) : DS := ⟨[(3, .at 0 []), (8, .ref 1 [] 1 0 c), (10, .vec true (.iarr .i64 0 [])), (24, .vec nl (.parr 1 n ish M)), (25, .int .i64 n), (26, .int .i64 i)], [(0, ⟨.iarr .u64 2 [k0, k1], false⟩), (1, Ac c L)]⟩
def dA1 (nl : Bool) (n i c a : Nat) (k0 k1 : Int) (M : List PV) (L A : List Int) : DS := ⟨[(3, .at 0 []), (8, .ref 1 [] 1 0 c), (10, .ref 2 [] 1 0 a), (24, .vec nl (.parr 1 n ish M)), (25, .int .i64 n), (26, .int .i64 i)], [(0, ⟨.iarr .u64 2 [k0, k1], false⟩), (1, Ac c L), (2, ⟨.iarr .i64 a A, false⟩)]⟩
theorem W_anS {nl b : Bool} {n i m s : Nat} {k0 k1 : Int} {M : Lpz} {l : Liz} {hout : Lrz} {res : PV} (hi : i < n) (hn : n ≤ 100000) (g : M.getD i .undef = .vec b (.iarr .u8 m l)) (hl : l.length = m)
  (c1 : Pt 43 [] [.iarr .u64 2 [k0, k1], .vec b (.iarr .u8 m l)] [] (.int .u64 s)) (c2 : Pt 42 [] [.int .u64 s, .int .u64 0] [] (.int .u64 0)) (c3 : Pt 44 [] [Cx, .int .u64 0] [] (.tup [.int .i64 0, .bool false]))
  (hw : Wt Try.f17 [] hout res (Aa Try.f17 0) (dAn nl n (i + 1) k0 k1 M)) : Wt Try.f17 [] hout res (Aa Try.f17 0) (dAn nl n i k0 k1 M) := by
 unfold dAn Cx at *
 refine W.sgA 0 [(0, aT), (3, aE g), (8, c9 c1), (10, aV (I6 0)), (11, aV (U6 0)), (12, aV (U6 0)), (13, c9 c2), (17, c9 c3), (24, aV (I6 ↑(i + 1)))] [(0, 0)] (dAn nl n (i + 1) k0 k1 M) [decide ((i:Int) < (n:Int)) = true, 0 ≤ (i:Int), (i:Int) < (n:Int), _, i < n, _, I6 ↑(0 : Nat) = I6 0, U6 (IntKind.wrap .u64 (0 : Int)) = U6 0, U6 (IntKind.wrap .u64 ((784931 : Int) * (0 : Int))) = U6 0, _, _, I6 (IntKind.wrap .i64 ((i:Int) + 1)) = I6 ↑(i + 1)] (ac (dT (by omega)) (ob2 (by omega) (ac (ex g) (ac (by omega) (ac (c1) (ac (cg (by omega)) (ac (cg (Aj rfl (by omega) (by omega))) (ac (cg (Aj rfl (by omega) (by omega))) (ac (c2) (ac (c3) (ao (wj (by omega))))))))))))) ?_
 exact hw
theorem W_a0N {nl b : Bool} {n i m s c t x j : Nat} {k0 k1 : Int} {M : Lpz} {l L : Liz} {hout : Lrz} {res : PV} (hi : i < n) (hn : n ≤ 100000) (hc : c ≤ 1000) (hL : L.length = c) (ht : c * 784931 = t) (g : M.getD i .undef = .vec b (.iarr .u8 m l)) (hl : l.length = m)
  (c1 : Pt 43 [] [.iarr .u64 2 [k0, k1], .vec b (.iarr .u8 m l)] [] (.int .u64 s)) (c2 : Pt 42 [] [.int .u64 s, .int .u64 t] [] (.int .u64 x)) (c3 : Pt 44 [] [.vec false (.iarr .u64 c L), .int .u64 x] [] (.tup [.int .i64 j, .bool false]))
  (hw : Wt Try.f17 [] hout res (Aa Try.f17 0) (dA0 nl n (i + 1) c k0 k1 M L)) : Wt Try.f17 [] hout res (Aa Try.f17 0) (dA0 nl n i c k0 k1 M L) := by
 have h2 : L.take c = L := List.take_of_length_le (by omega)
 have h4 : ((784931 * c : Nat) : Int) = (t : Int) := by omega
 refine W.sgA 0 [(0, aT), (3, aE g), (8, c9 c1), (11, aV (U6 c)), (12, aV (U6 t)), (13, c9 c2), (17, cL true [] c3), (24, aV (I6 ↑(i + 1)))] [(0, 0), (1, 1)] (dA0 nl n (i + 1) c k0 k1 M L) [decide ((i:Int) < (n:Int)) = true, 0 ≤ (i:Int), (i:Int) < (n:Int), _, i < n, _, U6 (IntKind.wrap .u64 (c:Int)) = U6 c, U6 (IntKind.wrap .u64 (784931 * (c:Int))) = U6 t, _, 0 + c ≤ c, rr ([] : List (Nat × Row)), ([PV.vec false (B6 c (List.take c L)), U6 x] : List PV) = [PV.vec false (B6 c L), U6 x], _, I6 (IntKind.wrap .i64 ((i:Int) + 1)) = I6 ↑(i + 1)] (ac (dT (by omega)) (ob2 (by omega) (ac (ex g) (ac (by omega) (ac (c1) (ac (cg (Aj rfl (by omega) (by omega))) (ac (cg (Aj h4 (by omega) (by omega))) (ac (c2) (ac (by omega) (ac rfl (ac (by rw [List.take_of_length_le (show List.length L ≤ c by omega)]) (ac (c3) (ao (wj (by omega))))))))))))))) ?_
 exact hw
theorem W_a0Y {nl b : Bool} {n i m s c t x j : Nat} {k0 k1 : Int} {M : Lpz} {l L : Liz} {hout : Lrz} {res : PV} (hi : i < n) (hn : n ≤ 100000) (hc : c ≤ 1000) (hL : L.length = c) (ht : c * 784931 = t) (g : M.getD i .undef = .vec b (.iarr .u8 m l)) (hl : l.length = m)
  (c1 : Pt 43 [] [.iarr .u64 2 [k0, k1], .vec b (.iarr .u8 m l)] [] (.int .u64 s)) (c2 : Pt 42 [] [.int .u64 s, .int .u64 t] [] (.int .u64 x)) (c3 : Pt 44 [] [.vec false (.iarr .u64 c L), .int .u64 x] [] (.tup [.int .i64 j, .bool true]))
  (hw : Wt Try.f17 [] hout res (Aa Try.f17 0) (dA1 nl n (i + 1) c 1 k0 k1 M L [(i : Int)])) : Wt Try.f17 [] hout res (Aa Try.f17 0) (dA0 nl n i c k0 k1 M L) := by
 have h2 : L.take c = L := List.take_of_length_le (by omega)
 have h4 : ((784931 * c : Nat) : Int) = (t : Int) := by omega
 refine W.sgA 0 [(0, aT), (3, aE g), (8, c9 c1), (11, aV (U6 c)), (12, aV (U6 t)), (13, c9 c2), (17, cL true [] c3), (29, aV (I6 ↑(i + 1)))] [(0, 0), (1, 1), (496, 2)] (dA1 nl n (i + 1) c 1 k0 k1 M L [(i : Int)]) [decide ((i:Int) < (n:Int)) = true, 0 ≤ (i:Int), (i:Int) < (n:Int), _, i < n, _, U6 (IntKind.wrap .u64 (c:Int)) = U6 c, U6 (IntKind.wrap .u64 (784931 * (c:Int))) = U6 t, _, 0 + c ≤ c, rr ([] : List (Nat × Row)), ([PV.vec false (B6 c (List.take c L)), U6 x] : List PV) = [PV.vec false (B6 c L), U6 x], _, 1 ≤ 1, 0 < 1, 8 ≤ 140737488355328, 1 ≤ 9223372036854775807, I6 (IntKind.wrap .i64 ((i:Int) + 1)) = I6 ↑(i + 1)] (ac (dT (by omega)) (ob2 (by omega) (ac (ex g) (ac (by omega) (ac (c1) (ac (cg (Aj rfl (by omega) (by omega))) (ac (cg (Aj h4 (by omega) (by omega))) (ac (c2) (ac (by omega) (ac rfl (ac (by rw [List.take_of_length_le (show List.length L ≤ c by omega)]) (ac (c3) (ob4 (by omega) (ao (wj (by omega)))))))))))))))) ?_
 exact hw
theorem W_a1N {nl b : Bool} {n i m s c t x j a : Nat} {k0 k1 : Int} {M : Lpz} {l L A : Liz} {hout : Lrz} {res : PV} (hi : i < n) (hn : n ≤ 100000) (hc : c ≤ 1000) (hL : L.length = c) (ht : c * 784931 = t) (g : M.getD i .undef = .vec b (.iarr .u8 m l)) (hl : l.length = m)
  (c1 : Pt 43 [] [.iarr .u64 2 [k0, k1], .vec b (.iarr .u8 m l)] [] (.int .u64 s)) (c2 : Pt 42 [] [.int .u64 s, .int .u64 t] [] (.int .u64 x)) (c3 : Pt 44 [] [.vec false (.iarr .u64 c L), .int .u64 x] [] (.tup [.int .i64 j, .bool false]))
  (hw : Wt Try.f17 [] hout res (Aa Try.f17 0) (dA1 nl n (i + 1) c a k0 k1 M L A)) : Wt Try.f17 [] hout res (Aa Try.f17 0) (dA1 nl n i c a k0 k1 M L A) := by
 have h2 : L.take c = L := List.take_of_length_le (by omega)
 have h4 : ((784931 * c : Nat) : Int) = (t : Int) := by omega
 refine W.sgA 0 [(0, aT), (3, aE g), (8, c9 c1), (11, aV (U6 c)), (12, aV (U6 t)), (13, c9 c2), (17, cL true [] c3), (24, aV (I6 ↑(i + 1)))] [(0, 0), (1, 1), (2, 2)] (dA1 nl n (i + 1) c a k0 k1 M L A) [decide ((i:Int) < (n:Int)) = true, 0 ≤ (i:Int), (i:Int) < (n:Int), _, i < n, _, U6 (IntKind.wrap .u64 (c:Int)) = U6 c, U6 (IntKind.wrap .u64 (784931 * (c:Int))) = U6 t, _, 0 + c ≤ c, rr ([] : List (Nat × Row)), ([PV.vec false (B6 c (List.take c L)), U6 x] : List PV) = [PV.vec false (B6 c L), U6 x], _, I6 (IntKind.wrap .i64 ((i:Int) + 1)) = I6 ↑(i + 1)] (ac (dT (by omega)) (ob2 (by omega) (ac (ex g) (ac (by omega) (ac (c1) (ac (cg (Aj rfl (by omega) (by omega))) (ac (cg (Aj h4 (by omega) (by omega))) (ac (c2) (ac (by omega) (ac rfl (ac (by rw [List.take_of_length_le (show List.length L ≤ c by omega)]) (ac (c3) (ao (wj (by omega))))))))))))))) ?_
 exact hw
theorem W_a1Y {nl b : Bool} {n i m s c t x j a : Nat} {k0 k1 : Int} {M : Lpz} {l L A : Liz} {hout : Lrz} {res : PV} (hi : i < n) (hn : n ≤ 100000) (hc : c ≤ 1000) (hL : L.length = c) (ht : c * 784931 = t) (hA : A.length = a) (ha : a ≤ i) (g : M.getD i .undef = .vec b (.iarr .u8 m l)) (hl : l.length = m)
  (c1 : Pt 43 [] [.iarr .u64 2 [k0, k1], .vec b (.iarr .u8 m l)] [] (.int .u64 s)) (c2 : Pt 42 [] [.int .u64 s, .int .u64 t] [] (.int .u64 x)) (c3 : Pt 44 [] [.vec false (.iarr .u64 c L), .int .u64 x] [] (.tup [.int .i64 j, .bool true]))
  (hw : Wt Try.f17 [] hout res (Aa Try.f17 0) (dA1 nl n (i + 1) c (a + 1) k0 k1 M L (A ++ [(i : Int)]))) : Wt Try.f17 [] hout res (Aa Try.f17 0) (dA1 nl n i c a k0 k1 M L A) := by
 have h2 : L.take c = L := List.take_of_length_le (by omega)
 have h4 : ((784931 * c : Nat) : Int) = (t : Int) := by omega
 refine W.sgA 0 [(0, aT), (3, aE g), (8, c9 c1), (11, aV (U6 c)), (12, aV (U6 t)), (13, c9 c2), (17, cL true [] c3), (27, Ans.ups [(2, none), (496, some (Row.mk (BI (a + 1) (A ++ [(i:Int)])) false))]), (29, aV (I6 ↑(i + 1)))] [(0, 0), (1, 1), (496, 2)] (dA1 nl n (i + 1) c (a + 1) k0 k1 M L (A ++ [(i : Int)])) [decide ((i:Int) < (n:Int)) = true, 0 ≤ (i:Int), (i:Int) < (n:Int), _, i < n, _, U6 (IntKind.wrap .u64 (c:Int)) = U6 c, U6 (IntKind.wrap .u64 (784931 * (c:Int))) = U6 t, _, 0 + c ≤ c, rr ([] : List (Nat × Row)), ([PV.vec false (B6 c (List.take c L)), U6 x] : List PV) = [PV.vec false (B6 c L), U6 x], _, ([(2, none), (496, some (Row.mk (BI (a + 1) (List.take a A ++ [(i:Int)])) false))] : List (Nat × Option Row)) = [(2, none), (496, some (Row.mk (BI (a + 1) (A ++ [(i:Int)])) false))], 1 ≤ 1, 0 + a = a, (a + 1) * 8 ≤ 140737488355328, a + 1 ≤ 9223372036854775807, I6 (IntKind.wrap .i64 ((i:Int) + 1)) = I6 ↑(i + 1)] (ac (dT (by omega)) (ob2 (by omega) (ac (ex g) (ac (by omega) (ac (c1) (ac (cg (Aj rfl (by omega) (by omega))) (ac (cg (Aj h4 (by omega) (by omega))) (ac (c2) (ac (by omega) (ac rfl (ac (by rw [List.take_of_length_le (show List.length L ≤ c by omega)]) (ac (c3) (ac (by rw [List.take_of_length_le (show List.length A ≤ a by omega)]) (ac (by omega) (ac (by omega) (ob2 (by omega) (ao (wj (by omega))))))))))))))))))) ?_
 exact hw
def nilI : PV := .vec true (.iarr .i64 0 [])
theorem W_anE {nl : Bool} {n : Nat} {k0 k1 : Int} {M : Lpz} : Wt Try.f17 [] [] (.tup [nilI, .int .i64 0]) (Aa Try.f17 0) (dAn nl n n k0 k1 M) := by
 unfold nilI dAn Cx
 refine W.rtA [(0, aF)] [] [decide ((n:Int) < (n:Int)) = false] (ao (dF (by omega)))
theorem W_a0E {nl : Bool} {n c : Nat} {k0 k1 : Int} {M : Lpz} {L : Liz} : Wt Try.f17 [] [] (.tup [nilI, .int .i64 0]) (Aa Try.f17 0) (dA0 nl n n c k0 k1 M L) := by
 unfold nilI
 refine W.rtA [(0, aF)] [] [decide ((n:Int) < (n:Int)) = false] (ao (dF (by omega)))
theorem W_a1E {nl : Bool} {n c a : Nat} {k0 k1 : Int} {M : Lpz} {L A : Liz} : Wt Try.f17 [] [(1, ⟨.iarr .i64 a A, false⟩)] (.tup [.ref 1 [] 1 0 a, .int .i64 0]) (Aa Try.f17 0) (dA1 nl n n c a k0 k1 M L A) := by
 refine W.rtA [(0, aF)] [(2, 1)] [decide ((n:Int) < (n:Int)) = false] (ao (dF (by omega)))
theorem W_anIn {nl nb : Bool} {n mb : Nat} {k0 k1 : Int} {M : Lpz} {b : Liz} {hout : Lrz} {res : PV} (c1 : Pt 14 [] [.vec nb (.iarr .u8 mb b)] [] (.tup [Cx, .int .i64 0])) (hw : Wt Try.f17 [] hout res (Aa Try.f17 0) (dAn nl n 0 k0 k1 M)) :
  Pt 17 [] [.iarr .u64 2 [k0, k1], .vec nb (.iarr .u8 mb b), .vec nl (.parr 1 n ish M)] hout res := by
 refine pO Try.func17 (by kernel_rfl) ?_
 unfold Cx at c1
 unfold dAn Cx at hw
 refine W.sgA 0 [(4, c9 c1)] [(64, 0)] (dAn nl n 0 k0 k1 M) [_] (ao (c1)) ?_
 exact hw
theorem W_a0In {nl nb : Bool} {n mb c : Nat} {k0 k1 : Int} {M : Lpz} {b L : Liz} {hout : Lrz} {res : PV} (c1 : Pt 14 [] [.vec nb (.iarr .u8 mb b)] [(1, Ac c L)] (.tup [.ref 1 [] 1 0 c, .int .i64 0])) (hw : Wt Try.f17 [] hout res (Aa Try.f17 0) (dA0 nl n 0 c k0 k1 M L)) :
  Pt 17 [] [.iarr .u64 2 [k0, k1], .vec nb (.iarr .u8 mb b), .vec nl (.parr 1 n ish M)] hout res := by
 refine pO Try.func17 (by kernel_rfl) ?_
 refine W.sgA 0 [(4, c9 c1)] [(64, 0), (129, 1)] (dA0 nl n 0 c k0 k1 M L) [_] (ao (c1)) ?_
 exact hw
end Go.Proofs
namespace Go.Proofs
open Go Go.Pe Go.Pm
set_option linter.unusedVariables false
theorem byt_bit {g : Nat → Nat} (h : ∀ j, g j < 2) {r : Nat} (hr : r < 8) : byt g / 2 ^ (7 - r) % 2 = g r := by
 have h0 := h 0; have h1 := h 1; have h2 := h 2; have h3 := h 3; have h4 := h 4; have h5 := h 5; have h6 := h 6; have h7 := h 7
 unfold byt
 match r, hr with
 | 0, _ | 1, _ | 2, _ | 3, _ | 4, _ | 5, _ | 6, _ | 7, _ => simp only [Nat.reduceSub, Nat.reducePow]; omega
theorem Qh {B : List Nat} (hB : Bits B) {i : Nat} (hi : i < 8 * (pk B).length) : bt (pk B) i = B.getD i 0 := by
 have hl := Bf B
 unfold bt
 rw [Sq (by omega), byt_bit (fun j => hB _) (Nat.mod_lt _ (by decide))]
 congr 1
 omega
theorem Nc {B : List Nat} (hB : Bits B) : ∀ (q a k : Nat), a + k = 8 * (pk B).length → q < k → (∀ j, j < q → B.getD (a + j) 0 = 1) → B.getD (a + q) 0 = 0 → CF (pk B) a k = q
 | q, a, 0, hk, hq, _, _ => by omega
 | 0, a, k + 1, hk, hq, h1, h0 => by
  unfold CF
  rw [Qh hB (by omega), if_neg]
  rw [Nat.add_zero] at h0
  omega
 | q + 1, a, k + 1, hk, hq, h1, h0 => by
  unfold CF
  rw [Qh hB (by omega), if_pos (by have := h1 0 (by omega); rwa [Nat.add_zero] at this)]
  rw [Nc hB q (a + 1) k (by omega) (by omega) (fun j hj => by have := h1 (j + 1) (by omega); rwa [show a + (j + 1) = a + 1 + j by omega] at this) (by rwa [show a + (q + 1) = a + 1 + q by omega] at h0)]
theorem LW (v : Nat) : ∀ (w j : Nat), j < w → (Ba v w).getD j 0 = v / 2 ^ (w - 1 - j) % 2
 | 0, j, h => by omega
 | w + 1, 0, h => by rw [Ba]; rfl
 | w + 1, j + 1, h => by
  rw [Ba, List.getD_cons_succ, LW v w j (by omega), show w + 1 - 1 - (j + 1) = w - 1 - j by omega]
theorem Qu {B : List Nat} (hB : Bits B) (v : Nat) : ∀ (w a x : Nat), a + w ≤ 8 * (pk B).length → (∀ j, j < w → B.getD (a + j) 0 = v / 2 ^ (w - 1 - j) % 2) → Mc (pk B) w a x = x * 2 ^ w + v % 2 ^ w
 | 0, a, x, _, _ => by unfold Mc; simp [Nat.mod_one]
 | w + 1, a, x, ha, h => by
  unfold Mc
  have hb : bt (pk B) a = v / 2 ^ w % 2 := by
   rw [Qh hB (by omega)]
   have := h 0 (by omega)
   rwa [Nat.add_zero, show w + 1 - 1 - 0 = w by omega] at this
  rw [Qu hB v w (a + 1) _ (by omega) (fun j hj => by have := h (j + 1) (by omega); rwa [show a + (j + 1) = a + 1 + j by omega, show w + 1 - 1 - (j + 1) = w - 1 - j by omega] at this), hb]
  have e : 2 * x * 2 ^ w = x * (2 ^ w * 2) := by rw [Nat.mul_comm 2 x, Nat.mul_assoc, Nat.mul_comm 2]
  rw [Nat.pow_succ, Nat.mod_mul, Nat.add_mul, Nat.mul_comm (v / 2 ^ w % 2) (2 ^ w), e]
  omega
theorem MO (A B : List Nat) {i : Nat} (h : i < A.length) : (A ++ B).getD i 0 = A.getD i 0 := by
 rw [List.getD_eq_getElem?_getD, List.getElem?_append_left h, ← List.getD_eq_getElem?_getD]
theorem OL (A B : List Nat) (i : Nat) : (A ++ B).getD (A.length + i) 0 = B.getD i 0 := by
 rw [List.getD_eq_getElem?_getD, List.getElem?_append_right (by omega), Nat.add_sub_cancel_left, ← List.getD_eq_getElem?_getD]
theorem rep_get {q j : Nat} (h : j < q) : (List.replicate q 1).getD j 0 = 1 := by
 rw [List.getD_eq_getElem?_getD, List.getElem?_replicate, if_pos h]; rfl
theorem g_one {P R : List Nat} {v : Nat} (hB : Bits (P ++ BD v ++ R)) (hq : v / 524288 ≤ 65536) :
  gE (pk (P ++ BD v ++ R)) (pk (P ++ BD v ++ R)).length P.length = 0 ∧ gV (pk (P ++ BD v ++ R)) (pk (P ++ BD v ++ R)).length P.length = v ∧ gA (pk (P ++ BD v ++ R)) (pk (P ++ BD v ++ R)).length P.length = (P ++ BD v).length := by
 have hl := Bf (P ++ BD v ++ R)
 have hr := Ct v
 have hlen : (P ++ BD v ++ R).length = P.length + (v / 524288 + 20) + R.length := by rw [List.length_append, List.length_append, hr]
 have hget : ∀ j, j < v / 524288 + 20 → (P ++ BD v ++ R).getD (P.length + j) 0 = (BD v).getD j 0 := fun j hj => by
  rw [List.append_assoc, OL, MO _ _ (by omega)]
 have hq1 : ∀ j, j < v / 524288 → (BD v).getD j 0 = 1 := fun j hj => by
  unfold BD
  rw [MO _ _ (by rw [List.length_append, List.length_replicate]; omega), MO _ _ (by rw [List.length_replicate]; omega), rep_get hj]
 have hq0 : (BD v).getD (v / 524288) 0 = 0 := by
  unfold BD
  rw [MO _ _ (by rw [List.length_append, List.length_replicate, Bj]; omega)]
  have := OL (List.replicate (v / 524288) 1) (Ba 0 1) 0
  rw [List.length_replicate, Nat.add_zero] at this
  rw [this]
  rfl
 have hqv : ∀ j, j < 19 → (BD v).getD (v / 524288 + 1 + j) 0 = v / 2 ^ (19 - 1 - j) % 2 := fun j hj => by
  unfold BD
  have := OL (List.replicate (v / 524288) 1 ++ Ba 0 1) (Ba v 19) j
  rw [List.length_append, List.length_replicate, Bj] at this
  rw [this, LW v 19 j hj]
 have hO : gO (pk (P ++ BD v ++ R)) (pk (P ++ BD v ++ R)).length P.length = v / 524288 := by
  unfold gO
  refine Nc hB _ _ _ (by omega) (by omega) (fun j hj => ?_) ?_
  ·rw [hget j (by omega), hq1 j hj]
  ·rw [hget _ (by omega), hq0]
 refine ⟨?_, ?_, ?_⟩
 ·unfold gE
  rw [hO]
  have e : CU (8 * (pk (P ++ BD v ++ R)).length - P.length) (v / 524288) 65536 = 0 := by
   unfold CU
   rw [if_neg (by omega), if_neg (by omega)]
  rw [e, if_neg (by decide), if_neg (by omega)]
 ·unfold gV
  rw [hO]
  rw [Qu hB v 19 _ 0 (by omega) (fun j hj => by rw [show P.length + v / 524288 + 1 + j = P.length + (v / 524288 + 1 + j) by omega, hget _ (by omega), hqv j hj])]
  rw [Nat.zero_mul, Nat.zero_add]
  omega
 ·unfold gA
  rw [hO, List.length_append, hr]
  omega
theorem SL {n lim : Nat} {l : List Int} : ∀ (r : List Nat) (s : Nat) (P : List Nat) (o : List Int), Bits P → Jo s r → (∀ x ∈ r, x < lim) → (∀ x ∈ r, x < 1073741824) → l = pk (P ++ stB s r) → n = l.length → vlF l n lim r.length P.length s o = (o ++ inL r, (P ++ stB s r).length, 0)
 | [], s, P, o, hP, hr, hx, hx2, hl, hn => by
  rw [stB, List.append_nil]
  show (o, P.length, 0) = _
  unfold inL
  rw [List.map_nil, List.append_nil]
 | x :: r, s, P, o, hP, hr, hx, hx2, hl, hn => by
  have hxx := hx x (by simp)
  have hx30 := hx2 x (by simp)
  have hB : Bits (P ++ BD (x - s) ++ stB x r) := (hP.append (CS _)).append (FN _ _)
  have e : P ++ stB s (x :: r) = P ++ BD (x - s) ++ stB x r := by rw [stB, List.append_assoc]
  have hg := g_one hB (by omega)
  rw [← e, ← hl, ← hn] at hg
  rw [List.length_cons]
  unfold vlF
  have hs := hr.1
  rw [hg.1, if_neg (by decide), hg.2.1, hg.2.2, show s + (x - s) = x by omega, if_neg (by omega)]
  rw [SL r x (P ++ BD (x - s)) (o ++ [(x : Int)]) (hP.append (CS _)) hr.2 (fun y hy => hx y (by simp [hy])) (fun y hy => hx2 y (by simp [hy])) (by rw [hl, e]) hn, e]
  unfold inL
  rw [List.append_assoc, List.map_cons]
  rfl
theorem NY {B : List Nat} (hB : Bits B) : ∀ (k a : Nat), B.length ≤ a → a + k = 8 * (pk B).length → CQ (pk B) a k = true
 | 0, a, _, _ => rfl
 | k + 1, a, h, hk => by
  unfold CQ
  rw [Qh hB (by omega), Dv h, if_pos rfl]
  exact NY hB k (a + 1) (by omega) (by omega)
theorem vlE_st {l : List Int} {c : Nat} {r : List Nat} (hl : l = pk (stB 0 r)) (hc : c = r.length) (h0 : 0 < c) : vlE l l.length c (inL r, (stB 0 r).length, 0) = 0 := by
 have hlen := Bf (stB 0 r)
 have hB := FN r 0
 subst hl
 rw [P7 h0, if_pos ⟨by omega, NY hB _ _ (Nat.le_refl _) (by omega)⟩]
end Go.Proofs
namespace Go.Proofs
open Go Go.Pe Go.Pm
set_option maxRecDepth 100000
set_option linter.unusedVariables false
theorem OD {x : Nat} (h : x < 256) : le x 1 = [(x : Int)] := by
 have e : le x 1 = [((x / 2 ^ (8 * 0) % 256 : Nat) : Int)] := rfl
 rw [e]
 congr 2
 omega
theorem le_two (x : Nat) : le x 2 = [((x % 256 : Nat) : Int), ((x / 256 % 256 : Nat) : Int)] := by
 have e : le x 2 = [((x / 2 ^ (8 * 0) % 256 : Nat) : Int), ((x / 2 ^ (8 * 1) % 256 : Nat) : Int)] := rfl
 rw [e]
 congr 2
 omega
theorem Uc {k : Nat} (hk : k ≤ 1000) (s : List Int) : vErr (BJ k ++ s) = 0 ∧ ED (BJ k ++ s) = k ∧ vS (BJ k ++ s) = s := by
 by_cases h : k < 253
 ·have e : BJ k ++ s = (k : Int) :: s := by unfold BJ; rw [if_pos h, OD (by omega)]; rfl
  have e0 : at0 (BJ k ++ s) 0 = k := by rw [e]; rfl
  have ew : wdt k = 0 := by unfold wdt; rw [if_neg (by omega), if_neg (by omega), if_neg (by omega)]
  have el : lst k = 0 := by unfold lst; rw [if_neg (by omega), if_neg (by omega), if_neg (by omega)]
  have ev : FB (BJ k ++ s) = k := by unfold FB; rw [e0, ew, if_pos rfl]
  have e1 : (Rd.mk (BJ k ++ s) 0).ve 1000 = 0 := by
   unfold Rd.ve
   dsimp only
   rw [if_pos rfl, ev, e0, ew, el, if_neg (by rw [e]; simp), if_neg (by omega), if_neg (by omega)]
  refine ⟨e1, ?_, ?_⟩
  ·show (Rd.mk (BJ k ++ s) 0).vn 1000 = k
   unfold Rd.vn
   rw [if_pos e1]
   exact ev
  ·show ((Rd.mk (BJ k ++ s) 0).var 1000).s = s
   unfold Rd.var
   rw [if_pos e1]
   dsimp only
   rw [e0, ew, e]
   rfl
 ·have e : BJ k ++ s = (253 : Int) :: ((k % 256 : Nat) : Int) :: ((k / 256 % 256 : Nat) : Int) :: s := by unfold BJ; rw [if_neg h, OD (x := 253) (by omega), le_two]; rfl
  have e0 : at0 (BJ k ++ s) 0 = 253 := by rw [e]; rfl
  have ev : FB (BJ k ++ s) = k := by
   unfold FB
   rw [e0, if_neg (by decide), e]
   show lv (((k % 256 : Nat) : Int) :: ((k / 256 % 256 : Nat) : Int) :: s) 2 = k
   have : lv (((k % 256 : Nat) : Int) :: ((k / 256 % 256 : Nat) : Int) :: s) 2 = k % 256 + (k / 256 % 256) * 256 := by
    simp [lv, at0]
    omega
   omega
  have e1 : (Rd.mk (BJ k ++ s) 0).ve 1000 = 0 := by
   unfold Rd.ve
   dsimp only
   rw [if_pos rfl, ev, e0, if_neg (by rw [e, show wdt 253 = 2 from rfl]; simp), if_neg (by rw [show lst 253 = 253 from rfl]; omega), if_neg (by omega)]
  refine ⟨e1, ?_, ?_⟩
  ·show (Rd.mk (BJ k ++ s) 0).vn 1000 = k
   unfold Rd.vn
   rw [if_pos e1]
   exact ev
  ·show ((Rd.mk (BJ k ++ s) 0).var 1000).s = s
   unfold Rd.var
   rw [if_pos e1]
   dsimp only
   rw [e0, e]
   rfl
def nsN (k0 k1 : Nat) (U : List It) : List Nat := ((BP k0 k1 (U.length * 784931) U).mergeSort (fun x y => decide (x ≤ y))).map Int.toNat
theorem LM : ∀ {m : List Int}, (∀ x ∈ m, 0 ≤ x) → inL (m.map Int.toNat) = m
 | [], _ => rfl
 | x :: m, h => by
  have ih := LM fun y hy => h y (List.mem_cons_of_mem _ hy)
  unfold inL at ih ⊢
  rw [List.map_cons, List.map_cons, ih, Int.toNat_of_nonneg (h x (by simp))]
theorem NV : ∀ {l : List Int} {s : Nat}, (∀ x ∈ l, (s : Int) ≤ x) → l.Pairwise (fun x y => decide (x ≤ y) = true) → Jo s (l.map Int.toNat)
 | [], s, _, _ => trivial
 | x :: l, s, h, hp => by
  rw [List.pairwise_cons] at hp
  have hx := h x (by simp)
  refine ⟨by omega, NV (fun y hy => ?_) hp.2⟩
  have := of_decide_eq_true (hp.1 y hy)
  omega
theorem IW (l : List Int) : (l.mergeSort (fun x y => decide (x ≤ y))).Pairwise (fun x y => decide (x ≤ y) = true) :=
 List.pairwise_mergeSort (fun a b c h1 h2 => by simp only [decide_eq_true_eq] at *; omega) (fun a b => by by_cases h : a ≤ b <;> simp [h]; omega) l
structure Keys (k0 k1 : Nat) : Prop where
 a : k0 < 18446744073709551616
 b : k1 < 18446744073709551616
theorem Kg {k0 k1 : Nat} (hk : Keys k0 k1) {U : List It} (ho : ∀ x ∈ U, Bp x) {x : Int} (hx : x ∈ (BP k0 k1 (U.length * 784931) U).mergeSort (fun x y => decide (x ≤ y))) : 0 ≤ x ∧ x < ((U.length * 784931 : Nat) : Int) := by
 rw [List.mem_mergeSort] at hx
 obtain ⟨u, hu, rfl⟩ := List.mem_map.1 hx
 have hpos : 0 < U.length := List.length_pos_of_mem hu
 have := num1_lt (t := U.length * 784931) (u := u) hk.a hk.b (ho u hu).b (by omega)
 omega
theorem MH {k0 k1 : Nat} (hk : Keys k0 k1) {U : List It} (ho : ∀ x ∈ U, Bp x) : inL (nsN k0 k1 U) = (BP k0 k1 (U.length * 784931) U).mergeSort (fun x y => decide (x ≤ y)) := LM fun x hx => (Kg hk ho hx).1
theorem Cm (k0 k1 : Nat) (U : List It) : (nsN k0 k1 U).length = U.length := by unfold nsN BP; rw [List.length_map, List.length_mergeSort, List.length_map]
theorem Jy (k0 k1 : Nat) : nsN k0 k1 [] = [] := by simp [nsN, BP]
theorem Iw {k0 k1 : Nat} (hk : Keys k0 k1) {U : List It} (ho : ∀ x ∈ U, Bp x) : Jo 0 (nsN k0 k1 U) := NV (fun x hx => (Kg hk ho hx).1) (IW _)
theorem IR {k0 k1 : Nat} (hk : Keys k0 k1) {U : List It} (ho : ∀ x ∈ U, Bp x) : ∀ x ∈ nsN k0 k1 U, x < U.length * 784931 := fun x hx => by
 unfold nsN at hx
 obtain ⟨y, hy, rfl⟩ := List.mem_map.1 hx
 have := Kg hk ho hy
 omega
theorem P9 : ∀ (r : List Nat) (s : Nat), (∀ x ∈ r, x < 1073741824) → (stB s r).length ≤ 2068 * r.length
 | [], s, _ => Nat.le_refl 0
 | x :: r, s, h => by
  have ih := P9 r x fun y hy => h y (List.mem_cons_of_mem _ hy)
  have hx := h x (by simp)
  rw [stB, List.length_append, Ct, List.length_cons]
  omega
def Cw (k0 k1 : Nat) (U : List It) : List Int := BJ U.length ++ pk (stB 0 (nsN k0 k1 U))
def Iz (k0 k1 : Nat) (I : List It) : List Int := Cw k0 k1 (Av [] I)
theorem Eg {k0 k1 : Nat} (hk : Keys k0 k1) {U : List It} (ho : ∀ x ∈ U, Bp x) (hU : U.length ≤ 1000) : (Cw k0 k1 U).length ≤ 300000 ∧ 0 < (Cw k0 k1 U).length := by
 have h1 := P9 (nsN k0 k1 U) 0 fun x hx => by have := IR hk ho x hx; omega
 have h2 := Bf (stB 0 (nsN k0 k1 U))
 have h3 := Db U.length
 rw [Cm] at h1
 unfold Cw
 rw [List.length_append, h2, h3]
 split <;> omega
theorem KA {nl : Bool} {k0 k1 : Nat} {I : List It} (hk : Keys k0 k1) (hn : I.length ≤ 60000) (ho : ∀ x ∈ I, Bp x) (hU : (Av [] I).length ≤ 1000) :
  Pt 11 [] [.iarr .u64 2 [(k0 : Int), (k1 : Int)], .vec nl (.parr 1 I.length ish (I.map itB))] [(1, BF (Iz k0 k1 I).length (Iz k0 k1 I))] (.tup [.ref 1 [] 1 0 (Iz k0 k1 I).length, .int .i64 0]) := by
 by_cases h0 : I.length = 0
 ·obtain rfl := List.eq_nil_of_length_eq_zero h0
  have c2 := LD (x := 0) (by omega)
  have c3 := Kb (nl := true) (t := 0) (U := []) hk.a hk.b (by omega) (by simp) (fun x hx => by cases hx)
  have e : (BP k0 k1 0 []).mergeSort (fun x y => decide (x ≤ y)) = [] := by simp [BP]
  rw [e] at c3
  have c5 := NW (nl := false) (l := [(true, 0, [])]) (c := 1) (n := 1) (m := 1) (b := BJ 0) (q := BJ 0) rfl (by omega) (fun x hx => by rw [List.mem_singleton.1 hx]; exact ⟨rfl, fun y hy => by cases hy⟩) (by omega) (by omega) rfl (by show BJ 0 ++ ([[]] : List (List Int)).flatten = _; simp) rfl
  have eM : Iz k0 k1 [] = BJ 0 := by
   show BJ 0 ++ pk (stB 0 (nsN k0 k1 [])) = BJ 0
   rw [Jy]
   exact List.append_nil _
  rw [eM]
  exact W_bld0 O6 c2 c3 QT c5 (KE (by omega) (by omega) rfl)
 ·have hoU : ∀ x ∈ Av [] I, Bp x := CW I [] (fun x hx => by cases hx) ho
  have hpos : 0 < (Av [] I).length := by
   obtain ⟨x, l, rfl⟩ : ∃ x l, I = x :: l := List.exists_cons_of_ne_nil (fun e => h0 (by rw [e]; rfl))
   have := (CR l [x]).1
   have e : Av [] (x :: l) = Av [x] l := by rw [Av, if_neg (by simp [Ey])]; rfl
   rw [e]
   exact this
  have c1 := Rj (nl := nl) (I := I) (by omega) (by omega) ho
  unfold Iz
  generalize Av [] I = U at *
  have hlen := Eg hk hoU hU
  have c2 := LD (x := U.length) (by omega)
  have c3 := Kb (nl := false) (t := U.length * 784931) hk.a hk.b (by omega) (by omega) hoU
  have c4 := Tg (nl := false) (r := nsN k0 k1 U) (n := U.length) (by omega) (Cm _ _ _) hpos (Iw hk hoU) (fun x hx => by have := IR hk hoU x hx; omega)
  rw [MH hk hoU] at c4
  have c5 := NW (nl := false) (l := [(false, (pk (stB 0 (nsN k0 k1 U))).length, pk (stB 0 (nsN k0 k1 U)))]) (c := 1) (n := (BJ U.length).length) (m := (Cw k0 k1 U).length) (b := BJ U.length) (q := Cw k0 k1 U) rfl (by omega) (fun x hx => by rw [List.mem_singleton.1 hx]; exact ⟨rfl, H7 (FN _ _)⟩) (by omega) (by omega) rfl (by show BJ U.length ++ ([pk (stB 0 (nsN k0 k1 U))] : List (List Int)).flatten = _; unfold Cw; simp) rfl
  have hl : ((BP k0 k1 (U.length * 784931) U).mergeSort (fun x y => decide (x ≤ y))).length = U.length := by rw [List.length_mergeSort]; simp [BP]
  exact W_bld (by omega) hU (by rw [List.length_map]) hl rfl c1 c2 c3 c4 c5 (KE hlen.2 (by omega) rfl)
theorem NQ {k0 k1 : Nat} (hk : Keys k0 k1) {U : List It} (ho : ∀ x ∈ U, Bp x) (hU : U.length ≤ 1000) : vE (Cw k0 k1 U) = 0 ∧ ED (Cw k0 k1 U) = U.length ∧ (MV (Cw k0 k1 U)).1 = inL (nsN k0 k1 U) := by
 obtain ⟨e1, e2, e3⟩ := Uc hU (pk (stB 0 (nsN k0 k1 U)))
 have hr : MV (Cw k0 k1 U) = (inL (nsN k0 k1 U), (stB 0 (nsN k0 k1 U)).length, 0) := by
  unfold MV Cw
  rw [e2, e3]
  have := SL (n := (pk (stB 0 (nsN k0 k1 U))).length) (lim := U.length * 784931) (l := pk (stB 0 (nsN k0 k1 U))) (nsN k0 k1 U) 0 [] [] Bits.nil (Iw hk ho) (IR hk ho) (fun x hx => by have := IR hk ho x hx; omega) rfl rfl
  rw [Cm, List.nil_append, List.nil_append] at this
  exact this
 refine ⟨?_, e2, by rw [hr]⟩
 unfold vE
 have e1' : vErr (Cw k0 k1 U) = 0 := e1
 have e2' : ED (Cw k0 k1 U) = U.length := e2
 have e3' : vS (Cw k0 k1 U) = pk (stB 0 (nsN k0 k1 U)) := e3
 rw [if_neg (by rw [e1']; simp), hr, e2', e3']
 by_cases h0 : 0 < U.length
 ·exact vlE_st rfl (Cm _ _ _).symm h0
 ·have hU0 : U = [] := List.eq_nil_of_length_eq_zero (by omega)
  subst hU0
  rw [Jy]
  rfl
end Go.Proofs
namespace Go.Proofs
open Go Go.Pe Go.Pm
set_option maxRecDepth 100000
attribute [local irreducible] lv
-- texts of bits
def tx (B : List Nat) : List Int := B.map fun b : Nat => ((48 + b : Nat) : Int)
theorem Bg (B : List Nat) : (tx B).length = B.length := by unfold tx; simp
theorem JR (A B : List Nat) : tx (A ++ B) = tx A ++ tx B := by unfold tx; simp
theorem Od {B : List Nat} (h : Bits B) : Bytes (tx B) := fun x hx => by
 unfold tx at hx
 obtain ⟨b, hb, rfl⟩ := List.mem_map.1 hx
 obtain ⟨i, hi, e⟩ := List.mem_iff_getElem.1 hb
 have := h i
 rw [List.getD_eq_getElem?_getD, List.getElem?_eq_getElem hi, Option.getD_some, e] at this
 omega
theorem Qx (v : Nat) : ∀ w, tx (Ba v w) = GH v w
 | 0 => rfl
 | w + 1 => by rw [Ba, GH, ← Qx v w]; rfl
theorem tx_at {B : List Nat} (h : Bits B) {i : Nat} (hi : i < B.length) : CP (strOf (tx B)) i = ((48 + B.getD i 0 : Nat) : Int) := by
 refine MM (Od h) ?_
 unfold tx
 rw [List.getElem?_map, List.getElem?_eq_getElem hi, List.getD_eq_getElem?_getD, List.getElem?_eq_getElem hi]
 rfl
def Ky (C : List Nat) : Nat := C.foldl (fun x b => 2 * x + b) 0
theorem L6 (C : List Nat) (b : Nat) : Ky (C ++ [b]) = 2 * Ky C + b := by unfold Ky; rw [List.foldl_append]; rfl
theorem Km (C : List Nat) {i : Nat} (h : i < C.length) : C.take (i + 1) = C.take i ++ [C.getD i 0] := by
 rw [List.take_add_one, List.getElem?_eq_getElem h, List.getD_eq_getElem?_getD, List.getElem?_eq_getElem h]; rfl
theorem Qa {C : List Nat} (h : Bits C) : ∀ i, i ≤ C.length → Ky (C.take i) < 2 ^ i
 | 0, _ => by simp [Ky]
 | i + 1, hi => by
  have := Qa h i (by omega)
  have hb := h i
  rw [Km C (by omega), L6, Nat.pow_succ]
  omega
theorem RI {C : List Nat} (hC : Bits C) (hl : C.length ≤ 32) : ∀ (k i : Nat), i + k = C.length →
  Wt Try.f41 [] [] (.int .u64 (Ky C : Nat)) (Aa Try.f41 0) (dNm (Ky (C.take i)) i (strOf (tx C)))
 | 0, i, h => by
  have hs : (strOf (tx C)).size = C.length := by rw [Ak, Bg]
  have := W_nmX (x := Ky C) (s := strOf (tx C)) (by omega)
  rw [List.take_of_length_le (by omega)]
  rwa [hs, show C.length = i by omega] at this
 | k + 1, i, h => by
  have hw2 := RI hC hl k (i + 1) (by omega)
  have hs : (strOf (tx C)).size = C.length := by rw [Ak, Bg]
  have hb := tx_at hC (i := i) (by omega)
  have hlt := Qa hC i (by omega)
  have hp : 2 ^ i ≤ 2 ^ 32 := Nat.pow_le_pow_right (by omega) (by omega)
  have h2 := hC i
  rw [Km C (by omega), L6] at hw2
  by_cases h0 : C.getD i 0 = 0
  ·rw [h0] at hw2 hb
   exact W_nm0 (by omega) (by omega) (by omega) hb hw2
  ·have h1 : C.getD i 0 = 1 := by omega
   rw [h1] at hw2 hb
   exact W_nm1 (by omega) (by omega) (by omega) hb hw2
theorem pc_numL {C : List Nat} (hC : Bits C) (hl : C.length ≤ 32) : Pt 41 [] [.str (strOf (tx C))] [] (.int .u64 (Ky C : Nat)) :=
 W_nmIn (RI hC hl C.length 0 (by omega))
theorem R9 : ∀ {C : List Nat}, C.length = 8 → Ky C = byt fun j => C.getD j 0
 | [a, b, c, d, e, f, g, h], _ => by
  unfold Ky byt
  simp only [List.foldl_cons, List.foldl_nil, List.getD_cons_zero, List.getD_cons_succ]
  omega
-- ones, bits
theorem Nb {n : Nat} (hn : n ≤ 65536) : ∀ (k i : Nat), i + k = n →
  Wt Try.f81 [] [] (.str (strOf (tx (List.replicate n 1)))) (Aa Try.f81 0) (dRo1 n i (tx (List.replicate i 1)))
 | 0, i, h => by
  obtain rfl : i = n := by omega
  exact W_o1X hn (by rw [Bg, List.length_replicate]) (Od (EQ i))
 | k + 1, i, h => by
  have hw := Nb hn k (i + 1) (by omega)
  have e : tx (List.replicate (i + 1) 1) = tx (List.replicate i 1) ++ [49] := by rw [List.replicate_succ', JR]; rfl
  rw [e] at hw
  exact W_o1 hn (by omega) (by rw [Bg, List.length_replicate]) hw
theorem Q9 {n : Nat} (hn : n ≤ 65536) : Pt 81 [] [.int .i64 n] [] (.str (strOf (tx (List.replicate n 1)))) := W_o1In (Nb hn n 0 (by omega))
theorem Oq {x : Nat} (hx : x < 18446744073709551616) : ∀ (k i : Nat), i + k = 19 →
  Wt Try.f80 [] [] (.int .u64 (x / 2 ^ 19 : Nat)) (Aa Try.f80 0) (dO2 (x / 2 ^ i) i)
 | 0, i, h => by
  obtain rfl : i = 19 := by omega
  exact W_o2X (II (p := 19) (by omega))
 | k + 1, i, h => by
  have hd : x / 2 ^ i ≤ x := Nat.div_le_self _ _
  exact W_o2 (by omega) (by rw [Nat.pow_succ, Nat.div_div_eq_div_mul]) (by omega) (II (p := 19) (by omega)) (Oq hx k (i + 1) (by omega))
theorem Rv {x : Nat} (hx : x < 18446744073709551616) : Pt 80 [] [.int .i64 19, .int .u64 x] [] (.int .u64 (x / 524288 : Nat)) := by
 have h := Oq hx 19 0 (by omega)
 rw [Nat.pow_zero, Nat.div_one] at h
 exact W_o2In h
theorem Lm {v : Nat} (hv : v < 1073741824) : Pt 53 [] [.int .i64 19, .int .u64 v] [] (.tup [.str (strOf (tx (BD v))), .bool true]) := by
 have hq : v / 524288 ≤ 65536 := by omega
 refine W_b12 hq ?_ ?_ ?_ (II (p := 19) (by omega)) (Rv (by omega)) (Q9 hq) (Rm (n := v) (w := 19) (by omega) (by omega))
 ·rw [Ak, Bg, List.length_replicate]; exact hq
 ·rw [Ak, FK]; omega
 ·have e : ByteArray.mk #[48] = strOf (tx (Ba 0 1)) := rfl
  rw [e, AU, AU, ← Qx, ← JR, ← JR]
  rfl
-- bytes
theorem Ri (l : List Int) (i n : Nat) : (strOf l).extract i (i + n) = strOf ((l.drop i).take n) := by
 apply ByteArray.ext
 unfold strOf
 simp [List.map_take, List.map_drop]
theorem Lf (B : List Nat) (j i : Nat) : (B ++ List.replicate j 0).getD i 0 = B.getD i 0 := by
 rw [List.getD_eq_getElem?_getD, List.getD_eq_getElem?_getD]
 rcases Nat.lt_or_ge i B.length with h | h
 ·rw [List.getElem?_append_left h]
 ·rw [List.getElem?_append_right h, List.getElem?_eq_none h, List.getElem?_replicate]
  split <;> rfl
theorem Bits.pad {B : List Nat} (h : Bits B) (j : Nat) : Bits (B ++ List.replicate j 0) := fun i => by rw [Lf]; exact h i
theorem Bits.sub {B : List Nat} (h : Bits B) (i n : Nat) : Bits ((B.drop i).take n) := fun j => by
 rw [List.getD_eq_getElem?_getD, List.getElem?_take]
 split
 ·rw [List.getElem?_drop, ← List.getD_eq_getElem?_getD]; exact h _
 ·exact Nat.zero_lt_two
def pkN (B : List Nat) (c : Nat) : List Int := (List.range c).map fun i => ((byt fun j => B.getD (8 * i + j) 0 : Nat) : Int)
theorem JW (B : List Nat) (c : Nat) : (pkN B c).length = c := by unfold pkN; simp
theorem SC (B : List Nat) (c : Nat) : pkN B (c + 1) = pkN B c ++ [((byt fun j => B.getD (8 * c + j) 0 : Nat) : Int)] := by unfold pkN; rw [List.range_succ, List.map_append]; rfl
theorem Q6 {B : List Nat} (h : Bits B) (c : Nat) : Bytes (pkN B c) := fun x hx => by
 unfold pkN at hx
 obtain ⟨i, _, rfl⟩ := List.mem_map.1 hx
 have := OP (g := fun j => B.getD (8 * i + j) 0) fun j => h _
 omega
theorem W_byB {B : List Nat} (hB : Bits B) (hl : B.length ≤ 1000000) (h8 : B.length % 8 = 0) : ∀ (k c : Nat), 8 * (c + k) = B.length →
  Wt Try.f54 [] [] (.str (strOf (pkN B (B.length / 8)))) (Aa Try.f54 1) (dYB (strOf (tx B)) c (8 * c) (pkN B c))
 | 0, c, h => by
  have hs : (strOf (tx B)).size = B.length := by rw [Ak, Bg]
  have hc : B.length / 8 = c := by omega
  have hw := W_yX (s := strOf (tx B)) (c := c) (l := pkN B c) (by omega) (by omega) (JW B c) (Q6 hB c)
  rw [hc]
  rwa [hs, show B.length = 8 * c by omega] at hw
 | k + 1, c, h => by
  have hs : (strOf (tx B)).size = B.length := by rw [Ak, Bg]
  have hw := W_byB hB hl h8 k (c + 1) (by omega)
  have hn := pc_numL (hB.sub (8 * c) 8) (by rw [List.length_take, List.length_drop]; omega)
  have hb := R9 (C := (B.drop (8 * c)).take 8) (by rw [List.length_take, List.length_drop]; omega)
  have he : (byt fun j => ((B.drop (8 * c)).take 8).getD j 0) = byt fun j => B.getD (8 * c + j) 0 := EG fun j hj => by
   rw [List.getD_eq_getElem?_getD, List.getD_eq_getElem?_getD, List.getElem?_take, if_pos hj, List.getElem?_drop]
  have hx := OP (g := fun j => B.getD (8 * c + j) 0) fun j => hB _
  rw [hb, he] at hn
  rw [SC, show 8 * (c + 1) = 8 * c + 8 by omega] at hw
  refine W_yB (by omega) (by omega) (by omega) (JW B c) hx ?_ hw
  have e : tx ((B.drop (8 * c)).take 8) = ((tx B).drop (8 * c)).take 8 := by unfold tx; rw [List.map_take, List.map_drop]
  rw [e] at hn
  have e2 : (strOf (tx B)).extract (8 * c) (8 * c + 8) = strOf (((tx B).drop (8 * c)).take 8) := Ri _ _ _
  rw [e2]
  exact hn
theorem W_byA {B : List Nat} (hl : B.length ≤ 900000) {z : Nat} (hz : (B.length + z) % 8 = 0) (hz8 : z < 8) {res : PV}
  (hw : Wt Try.f54 [] [] res (Aa Try.f54 0) (dYA (strOf (tx (B ++ List.replicate z 0))))) : ∀ (k j : Nat), j + k = z →
  Wt Try.f54 [] [] res (Aa Try.f54 0) (dYA (strOf (tx (B ++ List.replicate j 0))))
 | 0, j, h => by
  obtain rfl : j = z := by omega
  exact hw
 | k + 1, j, h => by
  have hw2 := W_byA hl hz hz8 hw k (j + 1) (by omega)
  have hs : (strOf (tx (B ++ List.replicate j 0))).size = B.length + j := by rw [Ak, Bg, List.length_append, List.length_replicate]
  refine W_yA (by omega) (by omega) ?_ hw2
  show strOf (tx (B ++ List.replicate j 0)) ++ strOf (tx [0]) = _
  rw [AU, ← JR, List.append_assoc, ← List.replicate_succ']
theorem KD {B : List Nat} (hB : Bits B) (hl : B.length ≤ 900000) : Pt 54 [] [.str (strOf (tx B))] [] (.str (strOf (pk B))) := by
 have hz : (B.length + (8 - B.length % 8) % 8) % 8 = 0 := by omega
 have hz8 : (8 - B.length % 8) % 8 < 8 := Nat.mod_lt _ (by decide)
 generalize (8 - B.length % 8) % 8 = z at *
 have hlen : (B ++ List.replicate z 0).length = B.length + z := by rw [List.length_append, List.length_replicate]
 have e : pkN (B ++ List.replicate z 0) ((B ++ List.replicate z 0).length / 8) = pk B := by
  unfold pk pkN
  rw [hlen, show (B.length + z) / 8 = (B.length + 7) / 8 by omega]
  apply List.map_congr_left
  intro i _
  have : (byt fun j => (B ++ List.replicate z 0).getD (8 * i + j) 0) = byt fun j => B.getD (8 * i + j) 0 := EG fun j _ => Lf _ _ _
  rw [this]
 have hb := W_byB (hB.pad z) (by omega) (by omega) ((B.length + z) / 8) 0 (by omega)
 rw [e] at hb
 have ha := W_byA hl hz hz8 (W_yAB (by rw [Ak, Bg]; omega) (by rw [Ak, Bg]; omega) hb) z 0 (by omega)
 rw [List.replicate_zero, List.append_nil] at ha
 exact W_yIn ha
-- steps
theorem Ol {v : Nat} (hv : v < 1073741824) : (BD v).length ≤ 2068 := by rw [Ct]; omega
theorem La {nl : Bool} {n : Nat} {L : Liz} (hn : n ≤ 400) (hLn : L.length = n) : ∀ (r : List Nat) (i s : Nat) (B : List Nat), i + r.length = n → 0 < i → L.drop i = inL r → L.getD (i - 1) 0 = (s : Int) → Jo s r → (∀ x ∈ r, x < 1073741824) → Bits B → B.length ≤ 2068 * i →
  Wt Try.f27 [] [] (.tup [.str (strOf (pk (B ++ stB s r))), .int .i64 0]) (Aa Try.f27 0) (KU nl n i L (strOf (tx B)))
 | [], i, s, B, hi, h0, hL, hs, hr, hx, hB, hb => by
  obtain rfl : i = n := by simpa using hi
  rw [stB, List.append_nil]
  exact SQ (by omega) (KD hB (by omega))
 | x :: r, i, s, B, hi, h0, hL, hs, hr, hx, hB, hb => by
  rw [List.length_cons] at hi
  have hxb := hx x (by simp)
  have hg : L.getD i 0 = (x : Int) := by
   have : (L.drop i)[0]? = L[i]? := by rw [List.getElem?_drop, Nat.add_zero]
   rw [List.getD_eq_getElem?_getD, ← this, hL]; rfl
  have hL2 : L.drop (i + 1) = inL r := by
   rw [← List.drop_drop, hL]; rfl
  have hlen := Ol (v := x - s) (by omega)
  have hw := La (nl := nl) hn hLn r (i + 1) x (B ++ BD (x - s)) (by omega) (by omega) hL2 hg hr.2 (fun y hy => hx y (by simp [hy])) (hB.append (CS _)) (by rw [List.length_append]; omega)
  rw [stB, ← List.append_assoc]
  refine W_rst (x := x) (y := s) (z := x - s) h0 (by omega) (by omega) hLn hg hs hr.1 rfl (by omega) ?_ ?_ ?_ (Lm (by omega)) hw
  ·rw [Ak, Bg]; omega
  ·rw [Ak, Bg]; omega
  ·rw [AU, ← JR]
theorem JL {nl : Bool} {r : List Nat} (hn : r.length ≤ 400) (hr : Jo 0 r) (hx : ∀ x ∈ r, x < 1073741824) : Pt 27 [] [.int .i64 19, .vec nl (.iarr .u64 r.length (inL r))] [] (.tup [.str (strOf (pk (stB 0 r))), .int .i64 0]) := by
 refine W_rstIn (by omega) ?_
 match r, hn, hr, hx with
 | [], _, _, _ => exact SQ (by decide) (KD Bits.nil (by decide))
 | x :: r, hn, hr, hx =>
  have hxb := hx x (by simp)
  have hlen := Ol (v := x) hxb
  have hil : (inL (x :: r)).length = (x :: r).length := by unfold inL; rw [List.length_map]
  have hw := La (nl := nl) (n := (x :: r).length) (L := inL (x :: r)) hn hil r 1 x (BD x) (by rw [List.length_cons]; omega) (by omega) rfl rfl hr.2 (fun y hy => hx y (by simp [hy])) (CS _) (by omega)
  have e : stB 0 (x :: r) = BD x ++ stB x r := by rw [stB, Nat.sub_zero]
  rw [e]
  exact W_rst0 (x := x) (by rw [List.length_cons]; omega) (by omega) hil rfl (by omega) (by rw [Ak, Bg]; omega) (Lm hxb) hw
end Go.Proofs
namespace Go.Proofs
open Go Go.Pe Go.Pm
set_option maxRecDepth 100000
attribute [local irreducible] lv
def sv (x : It) : PV := .str (strOf x.2)
theorem Iq {I : List It} {i : Nat} (h : i < I.length) : (I.map sv).getD i .undef = .str (strOf (I.getD i default).2) := by
 simp [List.getD_eq_getElem?_getD, h, sv]
theorem NG {I : List It} (f : It → PV) {i : Nat} (h : i < I.length) : (I.take (i + 1)).map f = (I.take i).map f ++ [f (I.getD i default)] := by
 rw [List.take_add_one, List.getElem?_eq_getElem h, List.map_append, List.getD_eq_getElem?_getD, List.getElem?_eq_getElem h]; rfl
-- items as texts
theorem Qg {nl : Bool} {I : List It} (hn : I.length ≤ 1000000) (ho : ∀ x ∈ I, Bp x) : ∀ (k i : Nat), i + k = I.length → 0 < i →
  Wt Try.f13 [] [(1, GR I.length (I.map sv))] (.ref 1 [] 1 0 I.length) (Aa Try.f13 0) (dTx nl I.length i (I.map itB) ((I.take i).map sv))
 | 0, i, h, h0 => by
  obtain rfl : i = I.length := by omega
  rw [List.take_length]
  exact W_tX
 | k + 1, i, h, h0 => by
  have hw := Qg (nl := nl) hn ho k (i + 1) (by omega) (by omega)
  rw [NG sv (by omega)] at hw
  have hx := Fu ho (i := i) (by omega)
  exact W_t (by omega) hn (by rw [List.length_map, List.length_take]; omega) (Ck (by omega)) rfl hx.b hw
theorem Su {nl : Bool} {I : List It} (h0 : 0 < I.length) (hn : I.length ≤ 1000000) (ho : ∀ x ∈ I, Bp x) : Pt 13 [] [.vec nl (.parr 1 I.length ish (I.map itB))] [(1, GR I.length (I.map sv))] (.ref 1 [] 1 0 I.length) := by
 refine W_tIn hn ?_
 have hw := Qg (nl := nl) hn ho (I.length - 1) 1 (by omega) (by omega)
 have hx := Fu ho (i := 0) h0
 have e : (I.take 1).map sv = [sv (I.getD 0 default)] := by
  have := NG sv (I := I) (i := 0) h0
  simpa using this
 rw [e] at hw
 exact W_t0 h0 hn (Ck h0) rfl hx.b hw
theorem QL {nl : Bool} : Pt 13 [] [.vec nl (.parr 1 0 ish [])] [] EI := W_tIn (by decide) W_tX0
-- each once
theorem W_onL {nl : Bool} {n i : Nat} {b : Liz} {T : Lpz} {U : List It} {res : PV} {hout : Lrz} (hb : Bytes b) (hU : ∀ u ∈ U, Bp u) (hc : U.length ≤ 1000000) (hw : Wt Try.f52 [] hout res (Aa Try.f52 1) (dOi nl n i U.length U.length (strOf b) (Ey U b) T (U.map sv))) : ∀ (k j : Nat) (t : Bool), j + k = U.length → (t || Ey (U.drop j) b) = Ey U b →
  Wt Try.f52 [] hout res (Aa Try.f52 1) (dOi nl n i U.length j (strOf b) t T (U.map sv))
 | 0, j, t, h, e => by
  obtain rfl : j = U.length := by omega
  rw [List.drop_length] at e
  have e2 : Ey [] b = false := rfl
  rw [e2, Bool.or_false] at e
  rw [e]
  exact hw
 | k + 1, j, t, h, e => by
  have hj : j < U.length := by omega
  have hx := Fu hU hj
  have hl : (U.map sv).length = U.length := List.length_map _
  rw [drop_at hj] at e
  have e2 : Ey (U.getD j default :: U.drop (j + 1)) b = (decide ((U.getD j default).2 = b) || Ey (U.drop (j + 1)) b) := rfl
  rw [e2, ← Bool.or_assoc] at e
  cases t with
  | true =>
   rw [Bool.true_or] at e
   exact W_oiT hj hl hc (Iq hj) (W_onL hb hU hc hw k (j + 1) true (by omega) e)
  | false =>
   rw [Bool.false_or] at e
   refine W_oiF hj hl hc (Iq hj) ?_ (W_onL hb hU hc hw k (j + 1) _ (by omega) e)
   by_cases he : (U.getD j default).2 = b
   ·rw [he, decide_eq_true rfl]; exact ba_eqT rfl
   ·rw [decide_eq_false he]; exact ba_eqF fun z => he (Ma hx.b hb z.symm)
theorem Pw {nl : Bool} {I : List It} (hn : I.length ≤ 900000) (ho : ∀ x ∈ I, Bp x) : ∀ (r i : Nat) (U : List It), i + r = I.length → 0 < i → (∀ u ∈ U, Bp u) → U.length ≤ i →
  Wt Try.f52 [] [(1, GR (Av U (I.drop i)).length ((Av U (I.drop i)).map sv))] (.ref 1 [] 1 0 (Av U (I.drop i)).length) (Aa Try.f52 0) (dOn nl I.length i U.length (I.map sv) (U.map sv))
 | 0, i, U, h, h0, hU, hl => by
  obtain rfl : i = I.length := by omega
  rw [List.drop_length, Av]
  exact W_onX (by omega) (by omega)
 | r + 1, i, U, h, h0, hU, hl => by
  have hi : i < I.length := by omega
  have hx := Fu ho hi
  rw [drop_at hi, Av]
  refine W_on hi (by omega) (by omega) (Iq hi) ?_
  refine W_onL hx.b hU (by omega) ?_ U.length 0 false (by omega) (by rw [List.drop_zero, Bool.false_or])
  by_cases hh : Ey U (I.getD i default).2 = true
  ·rw [if_pos hh, hh]
   exact W_oiY hi (by omega) (by omega) (Pw hn ho r (i + 1) U (by omega) (by omega) hU (by omega))
  ·rw [if_neg hh, Bool.eq_false_iff.2 hh]
   have hw := Pw (nl := nl) hn ho r (i + 1) (U ++ [I.getD i default]) (by omega) (by omega) (fun u hu => by
    rcases List.mem_append.1 hu with hu | hu
    ·exact hU u hu
    ·rw [List.mem_singleton.1 hu]; exact hx) (by rw [List.length_append]; show U.length + 1 ≤ i + 1; omega)
   rw [List.map_append, List.length_append] at hw
   exact W_oiN hi (by omega) (by omega) (List.length_map _) hw
theorem pc_once {nl : Bool} {I : List It} (h0 : 0 < I.length) (hn : I.length ≤ 900000) (ho : ∀ x ∈ I, Bp x) : Pt 52 [] [.vec nl (.parr 1 I.length .str (I.map sv))] [(1, GR (Av [] I).length ((Av [] I).map sv))] (.ref 1 [] 1 0 (Av [] I).length) := by
 refine SV (by omega) ?_
 have hx := Fu ho h0
 have e : Av [] I = Av [I.getD 0 default] (I.drop 1) := by
  have := drop_at h0
  rw [List.drop_zero] at this
  conv => lhs; rw [this]
  rw [Av, if_neg (by simp [Ey])]
  rfl
 rw [e]
 have hw := Pw (nl := nl) hn ho (I.length - 1) 1 [I.getD 0 default] (by omega) (by omega) (fun u hu => by rw [List.mem_singleton.1 hu]; exact hx) (Nat.le_refl 1)
 exact W_on0 h0 (by omega) (Iq h0) (W_on1 h0 (by omega) hw)
theorem Tk : Pt 52 [] [.vec true (.parr 1 0 .str [])] [] (.vec true (.parr 1 0 .str [])) := SV (by decide) W_onX0
-- numbers in order
theorem Jn {k0 k1 n : Nat} {u : It} (hk : Keys k0 k1) (hu : Bp u) (hul : u.2.length ≤ 900000) (hn : n ≤ 1000000) : Pt 45 [] [.iarr .u64 2 [(k0 : Int), (k1 : Int)], .str (strOf u.2), .int .i64 n] [] (.int .u64 (DU k0 k1 (n * 784931) u : Nat)) := by
 have hs : (strOf u.2).size = u.2.length := Ak _
 have c := TN (nl := false) (n := u.2.length) rfl hul hk.a hk.b hu.b
 refine W_nb13 (x := MS k0 k1 u.2) (by omega) (EY hk.a hk.b hu.b) hn rfl ?_ (QR (EY hk.a hk.b hu.b) (by omega))
 rw [hs, CZ hu.b]
 exact c
def Dq : List Int → Int → List Int
 | [], x => [x]
 | y :: o, x => if y ≤ x then y :: Dq o x else x :: y :: o
theorem EM : ∀ (o : List Int) (x : Int), (Dq o x).Perm (x :: o)
 | [], x => List.Perm.refl _
 | y :: o, x => by
  unfold Dq
  split
  ·exact (List.Perm.cons y (EM o x)).trans (List.Perm.swap _ _ _)
  ·exact List.Perm.refl _
theorem Jf : ∀ (o : List Int) (x : Int), o.Pairwise (fun x y => decide (x ≤ y) = true) → (Dq o x).Pairwise (fun x y => decide (x ≤ y) = true)
 | [], x, _ => List.pairwise_singleton _ _
 | y :: o, x, h => by
  have h' := List.pairwise_cons.1 h
  unfold Dq
  split
  ·rename_i hyx
   refine List.pairwise_cons.2 ⟨fun z hz => ?_, Jf o x h'.2⟩
   rcases List.mem_cons.1 ((EM o x).subset hz) with rfl | hz
   ·exact decide_eq_true hyx
   ·exact h'.1 z hz
  ·rename_i hyx
   refine List.pairwise_cons.2 ⟨fun z hz => ?_, h⟩
   rcases List.mem_cons.1 hz with rfl | hz
   ·exact decide_eq_true (by omega)
   ·have := of_decide_eq_true (h'.1 z hz); exact decide_eq_true (by omega)
theorem LA : ∀ (l o : List Int), o.Pairwise (fun x y => decide (x ≤ y) = true) → (l.foldl Dq o).Perm (o ++ l) ∧ (l.foldl Dq o).Pairwise (fun x y => decide (x ≤ y) = true)
 | [], o, h => ⟨by rw [List.append_nil]; exact List.Perm.refl _, h⟩
 | x :: l, o, h => by
  obtain ⟨a, b⟩ := LA l (Dq o x) (Jf o x h)
  refine ⟨a.trans ?_, b⟩
  have h1 : (Dq o x ++ l).Perm ((x :: o) ++ l) := (EM o x).append_right l
  exact h1.trans (List.perm_middle).symm
theorem KP : ∀ {l m : List Int}, l.Perm m → l.Pairwise (fun x y => decide (x ≤ y) = true) → m.Pairwise (fun x y => decide (x ≤ y) = true) → l = m
 | [], m, h, _, _ => h.nil_eq
 | x :: l, [], h, _, _ => by simpa using h.length_eq
 | x :: l, y :: m, h, hl, hm => by
  rw [List.pairwise_cons] at hl hm
  have e : x = y := by
   have h1 : x ∈ y :: m := h.subset (by simp)
   have h2 : y ∈ x :: l := h.symm.subset (by simp)
   rcases List.mem_cons.1 h1 with e | h1
   ·exact e
   ·rcases List.mem_cons.1 h2 with e | h2
    ·exact e.symm
    ·have a := of_decide_eq_true (hl.1 y h2)
     have b := of_decide_eq_true (hm.1 x h1)
     omega
  subst e
  rw [KP (List.Perm.cons_inv h) hl.2 hm.2]
theorem insF_ms (l : List Int) : l.foldl Dq [] = l.mergeSort (fun x y => decide (x ≤ y)) := by
 obtain ⟨a, b⟩ := LA l [] List.Pairwise.nil
 exact KP (a.trans (List.mergeSort_perm _ _).symm) b (IW l)
theorem Tz (o : List Int) (x : Int) : (Dq o x).length = o.length + 1 := (EM o x).length_eq
theorem dropI {o : List Int} {a : Nat} (h : a < o.length) : o.drop a = o.getD a 0 :: o.drop (a + 1) := by
 rw [List.drop_eq_getElem_cons h]; simp [List.getD_eq_getElem?_getD, h]
theorem W_miL {k0 k1 n i x : Nat} {T : Lpz} {o : Liz} {hout : Lrz} {res : PV} (h0 : 0 < i) (hi : i < n) (hn : n ≤ 1000000) (ho : o.length = i) (hp : ∀ y ∈ o, 0 ≤ y)
  (hw : Wt Try.f26 [] hout res (Aa Try.f26 0) (dM k0 k1 n (i + 1) T (Dq o (x : Int)))) : ∀ (k a : Nat), a + k = i → o.take a ++ Dq (o.drop a) (x : Int) = Dq o (x : Int) →
  Wt Try.f26 [] hout res (Aa Try.f26 1) (dMi k0 k1 n i x a T o)
 | 0, a, h, e => by
  obtain rfl : a = i := by omega
  rw [List.take_of_length_le (by omega), List.drop_of_length_le (by omega)] at e
  have e : o ++ [(x : Int)] = Dq o (x : Int) := e
  rw [← e] at hw
  exact W_miE h0 hi hn ho hw
 | k + 1, a, h, e => by
  have ha : a < o.length := by omega
  have hy : 0 ≤ o.getD a 0 := by
   rw [List.getD_eq_getElem?_getD, List.getElem?_eq_getElem ha]; exact hp _ (List.getElem_mem ha)
  have hg : o.getD a 0 = (((o.getD a 0).toNat : Nat) : Int) := (Int.toNat_of_nonneg hy).symm
  have hd := dropI ha
  rw [hd] at e
  by_cases hle : o.getD a 0 ≤ (x : Int)
  ·have e2 : Dq (o.getD a 0 :: o.drop (a + 1)) (x : Int) = o.getD a 0 :: Dq (o.drop (a + 1)) (x : Int) := by rw [Dq, if_pos hle]
   rw [e2] at e
   have e3 : o.take (a + 1) = o.take a ++ [o.getD a 0] := by
    rw [List.take_add_one, List.getElem?_eq_getElem ha, List.getD_eq_getElem?_getD, List.getElem?_eq_getElem ha]; rfl
   exact W_miS (by omega) hi hn ho hg (by omega) (W_miL h0 hi hn ho hp hw k (a + 1) (by omega) (by rw [e3, List.append_assoc]; exact e))
  ·have e2 : Dq (o.getD a 0 :: o.drop (a + 1)) (x : Int) = (x : Int) :: o.drop a := by rw [Dq, if_neg hle, hd]
   rw [e2] at e
   rcases Nat.eq_zero_or_pos a with rfl | hp0
   ·rw [List.take_zero, List.nil_append, List.drop_zero] at e
    rw [← e] at hw
    exact W_miX0 h0 hi hn ho hg (by omega) hw
   ·rw [← e] at hw
    refine W_miX hp0 (by omega) hi hn ho hg (by omega) ?_
    rw [List.append_assoc]
    exact hw
theorem W_mL {k0 k1 : Nat} {U : List It} (hk : Keys k0 k1) (hn : U.length ≤ 1000000) (ho : ∀ u ∈ U, Bp u ∧ u.2.length ≤ 900000) : ∀ (r i : Nat) (o : List Int), i + r = U.length → 0 < i → o.length = i → (∀ y ∈ o, 0 ≤ y) →
  Wt Try.f26 [] [(1, Ac U.length ((BP k0 k1 (U.length * 784931) (U.drop i)).foldl Dq o))] (.ref 1 [] 1 0 U.length) (Aa Try.f26 0) (dM k0 k1 U.length i (U.map sv) o)
 | 0, i, o, h, h0, hl, hp => by
  obtain rfl : i = U.length := by omega
  rw [List.drop_length]
  exact W_mX hn
 | r + 1, i, o, h, h0, hl, hp => by
  have hi : i < U.length := by omega
  have hm : U.getD i default ∈ U := by
   have : U.getD i default = U[i] := by simp [List.getD_eq_getElem?_getD, hi]
   rw [this]; exact List.getElem_mem hi
  have hx := ho _ hm
  rw [drop_at hi]
  have hw := W_mL hk hn ho r (i + 1) (Dq o (DU k0 k1 (U.length * 784931) (U.getD i default) : Nat)) (by omega) (by omega) (by rw [Tz]; omega) (fun y hy => by
   rcases List.mem_cons.1 ((EM _ _).subset hy) with rfl | hy
   ·omega
   ·exact hp y hy)
  refine W_m hi hn (List.length_map _) (Iq hi) (Jn hk hx.1 hx.2 hn) ?_
  exact W_miL h0 hi hn hl hp hw i 0 (by omega) (by simp)
theorem Mj {nl : Bool} {k0 k1 : Nat} {I : List It} (hk : Keys k0 k1) (h0 : 0 < I.length) (hn : I.length ≤ 900000) (ho : ∀ x ∈ I, Bp x) (hU : ∀ u ∈ Av [] I, u.2.length ≤ 900000) :
  Pt 26 [] [.iarr .u64 2 [(k0 : Int), (k1 : Int)], .vec nl (.parr 1 I.length .str (I.map sv))] [(1, Ac (Av [] I).length (inL (nsN k0 k1 (Av [] I))))] (.ref 1 [] 1 0 (Av [] I).length) := by
 have hOk : ∀ u ∈ Av [] I, Bp u := CW I [] (fun x hx => by cases hx) ho
 have hlen := CR I []
 rw [List.length_nil, Nat.zero_add] at hlen
 have hne : 0 < (Av [] I).length := by
  have e : Av [] I = Av [I.getD 0 default] (I.drop 1) := by
   have := drop_at h0
   rw [List.drop_zero] at this
   conv => lhs; rw [this]
   rw [Av, if_neg (by simp [Ey])]
   rfl
  rw [e]
  have := (CR (I.drop 1) [I.getD 0 default]).1
  exact this
 refine W_mIn (by omega) (pc_once h0 hn ho) ?_
 rw [MH hk hOk, ← insF_ms]
 generalize Av [] I = U at *
 have hx := Fu hOk hne
 have hm : U.getD 0 default ∈ U := by
  have : U.getD 0 default = U[0] := by simp [List.getD_eq_getElem?_getD, hne]
  rw [this]; exact List.getElem_mem hne
 have hw := W_mL hk (by omega) (fun u hu => ⟨hOk u hu, hU u hu⟩) (U.length - 1) 1 [((DU k0 k1 (U.length * 784931) (U.getD 0 default) : Nat) : Int)] (by omega) (by omega) rfl (fun y hy => by rw [List.mem_singleton.1 hy]; omega)
 have e : ∀ t, (BP k0 k1 t U).foldl Dq [] = (BP k0 k1 t (U.drop 1)).foldl Dq [((DU k0 k1 t (U.getD 0 default) : Nat) : Int)] := fun t => by
  have := drop_at hne
  rw [List.drop_zero] at this
  conv => lhs; rw [this]
  unfold BP
  rw [List.map_cons, List.foldl_cons]
  rfl
 rw [e]
 exact W_m0 hne (by omega) (List.length_map _) (Iq hne) (Jn hk hx (hU _ hm) (by omega)) (W_mi0 hne (by omega) hw)
theorem Qz {k : Nat} (hk : k < 65536) : BJ k = vb k := by
 unfold BJ vb
 split
 ·rfl
 ·rw [OD (by omega)]; rfl
theorem Q0 {nl : Bool} {k0 k1 : Nat} {I : List It} (hk : Keys k0 k1) (h0 : 0 < I.length) (hn : I.length ≤ 400) (ho : ∀ x ∈ I, Bp x) (hI : ∀ x ∈ I, x.2.length ≤ 900000) :
  Pt 12 [] [.iarr .u64 2 [(k0 : Int), (k1 : Int)], .vec nl (.parr 1 I.length .str (I.map sv))] [] (.str (strOf (Iz k0 k1 I))) := by
 have hU : ∀ u ∈ Av [] I, u.2.length ≤ 900000 := CW (P := fun u => u.2.length ≤ 900000) I [] (fun x hx => by cases hx) hI
 have hOk : ∀ u ∈ Av [] I, Bp u := CW I [] (fun x hx => by cases hx) ho
 have hlen := CR I []
 rw [List.length_nil, Nat.zero_add] at hlen
 have c1 := Mj (nl := nl) hk h0 (by omega) ho hU
 have hl := Cm k0 k1 (Av [] I)
 have hlt := IR hk hOk
 have c2 := JL (nl := false) (r := nsN k0 k1 (Av [] I)) (by omega) (Iw hk hOk) (fun x hx => by have := hlt x hx; omega)
 have hbl := Eg hk hOk (by omega)
 unfold Iz
 unfold Cw at hbl ⊢
 rw [hl] at c2
 have c3 := Tv (n := (Av [] I).length) (by omega)
 rw [← Qz (by omega)] at c3
 rw [List.length_append] at hbl
 have hcl := Db (Av [] I).length
 refine W_rbld (by omega) ?_ ?_ ?_ (AU _ _) c1 c2 c3
 ·unfold inL; rw [List.length_map, hl]
 ·rw [Ak, hcl]; split <;> omega
 ·rw [Ak]; omega
theorem OM {k0 k1 : Nat} : Pt 12 [] [.iarr .u64 2 [(k0 : Int), (k1 : Int)], .vec true (.parr 1 0 .str [])] [] (.str (strOf (Iz k0 k1 []))) := by
 have e : Iz k0 k1 [] = BJ 0 ++ pk (stB 0 []) := by
  show BJ 0 ++ pk (stB 0 (nsN k0 k1 [])) = _
  rw [Jy]
 have c2 := JL (nl := true) (r := []) (by decide) trivial (fun x hx => by cases hx)
 have c3 := Tv (n := 0) (by omega)
 rw [← Qz (by omega)] at c3
 rw [e]
 exact W_rbld0 (by rw [Ak, Db]; decide) (by rw [Ak]; exact Nat.zero_le _) (AU _ _) (W_mzIn Tk W_mz) c2 c3
end Go.Proofs
namespace Go.Proofs
open Go Go.Pe Go.Pm
set_option maxRecDepth 100000
set_option linter.unusedVariables false
def hitI (k0 k1 c : Nat) (L : List Int) (u : It) : Bool := decide (bsF L (DU k0 k1 (c * 784931) u) c 0 c < c ∧ L.getD (bsF L (DU k0 k1 (c * 784931) u) c 0 c) 0 = (DU k0 k1 (c * 784931) u : Int))
def Jt (k0 k1 c : Nat) (L : List Int) : Nat → List It → List Int → List Int
 | _, [], A => A
 | i, u :: l, A => Jt k0 k1 c L (i + 1) l (if hitI k0 k1 c L u = true then A ++ [(i : Int)] else A)
def aH (F : List Int) : List (Nat × Row) := if F = [] then [] else [(1, ⟨.iarr .i64 F.length F, false⟩)]
def aP (F : List Int) : PV := if F = [] then .tup [nilI, .int .i64 0] else .tup [.ref 1 [] 1 0 F.length, .int .i64 0]
theorem Ox {nl : Bool} {k0 k1 c : Nat} {L : Liz} {I : List It} (hk : Keys k0 k1) (hn : I.length ≤ 100000) (hc : c ≤ 1000) (hL : L.length = c) (ho : ∀ x ∈ I, Bp x) : ∀ (r i : Nat) (A : List Int), i + r = I.length → A ≠ [] → A.length ≤ i →
  Wt Try.f17 [] (aH (Jt k0 k1 c L i (I.drop i) A)) (aP (Jt k0 k1 c L i (I.drop i) A)) (Aa Try.f17 0) (dA1 nl I.length i c A.length k0 k1 (I.map itB) L A)
 | 0, i, A, hk2, hA, hl => by
  obtain rfl : i = I.length := by omega
  rw [List.drop_of_length_le (Nat.le_refl _)]
  unfold Jt aH aP
  rw [if_neg hA, if_neg hA]
  exact W_a1E
 | r + 1, i, A, hk2, hA, hl => by
  have hi : i < I.length := by omega
  have hx := Fu ho hi
  have hs := EY hk.a hk.b hx.b
  have ht : c * 784931 < 18446744073709551616 := by omega
  rw [drop_at hi]
  unfold Jt
  have c3 := pc_bs (nl := false) (x := (DU k0 k1 (c * 784931) (I.getD i default) : Int)) (L := L) (show c ≤ 100000 by omega)
  by_cases h : hitI k0 k1 c L (I.getD i default) = true
  ·rw [if_pos h]
   have h' := of_decide_eq_true h
   rw [decide_eq_true h'] at c3
   have ih := Ox (nl := nl) hk hn hc hL ho r (i + 1) (A ++ [(i : Int)]) (by omega) (by simp) (by rw [List.length_append, List.length_singleton]; omega)
   rw [List.length_append, List.length_singleton] at ih
   exact W_a1Y hi hn hc hL rfl rfl hl (Ck hi) rfl (IP rfl hx.len hk.a hk.b hx.b) (DL hs ht) c3 ih
  ·rw [if_neg h]
   have h' : ¬ (bsF L (DU k0 k1 (c * 784931) (I.getD i default)) c 0 c < c ∧ L.getD (bsF L (DU k0 k1 (c * 784931) (I.getD i default)) c 0 c) 0 = (DU k0 k1 (c * 784931) (I.getD i default) : Int)) := fun z => h (decide_eq_true z)
   rw [decide_eq_false h'] at c3
   have ih := Ox (nl := nl) hk hn hc hL ho r (i + 1) A (by omega) hA (by omega)
   exact W_a1N hi hn hc hL rfl (Ck hi) rfl (IP rfl hx.len hk.a hk.b hx.b) (DL hs ht) c3 ih
theorem Tm {nl : Bool} {k0 k1 c : Nat} {L : Liz} {I : List It} (hk : Keys k0 k1) (hn : I.length ≤ 100000) (hc : c ≤ 1000) (hL : L.length = c) (ho : ∀ x ∈ I, Bp x) : ∀ (r i : Nat), i + r = I.length →
  Wt Try.f17 [] (aH (Jt k0 k1 c L i (I.drop i) [])) (aP (Jt k0 k1 c L i (I.drop i) [])) (Aa Try.f17 0) (dA0 nl I.length i c k0 k1 (I.map itB) L)
 | 0, i, hk2 => by
  obtain rfl : i = I.length := by omega
  rw [List.drop_of_length_le (Nat.le_refl _)]
  unfold Jt aH aP
  rw [if_pos rfl, if_pos rfl]
  exact W_a0E
 | r + 1, i, hk2 => by
  have hi : i < I.length := by omega
  have hx := Fu ho hi
  have hs := EY hk.a hk.b hx.b
  have ht : c * 784931 < 18446744073709551616 := by omega
  rw [drop_at hi]
  unfold Jt
  have c3 := pc_bs (nl := false) (x := (DU k0 k1 (c * 784931) (I.getD i default) : Int)) (L := L) (show c ≤ 100000 by omega)
  by_cases h : hitI k0 k1 c L (I.getD i default) = true
  ·rw [if_pos h, List.nil_append]
   have h' := of_decide_eq_true h
   rw [decide_eq_true h'] at c3
   have hle : i = 0 ∨ 0 < i := by omega
   have ih := Ox (nl := nl) hk hn hc hL ho r (i + 1) [(i : Int)] (by omega) (by simp) (by simp)
   exact W_a0Y hi hn hc hL rfl (Ck hi) rfl (IP rfl hx.len hk.a hk.b hx.b) (DL hs ht) c3 ih
  ·rw [if_neg h]
   have h' : ¬ (bsF L (DU k0 k1 (c * 784931) (I.getD i default)) c 0 c < c ∧ L.getD (bsF L (DU k0 k1 (c * 784931) (I.getD i default)) c 0 c) 0 = (DU k0 k1 (c * 784931) (I.getD i default) : Int)) := fun z => h (decide_eq_true z)
   rw [decide_eq_false h'] at c3
   exact W_a0N hi hn hc hL rfl (Ck hi) rfl (IP rfl hx.len hk.a hk.b hx.b) (DL hs ht) c3 (Tm (nl := nl) hk hn hc hL ho r (i + 1) (by omega))
theorem Si {nl : Bool} {k0 k1 : Nat} {I : List It} (hk : Keys k0 k1) (hn : I.length ≤ 100000) (ho : ∀ x ∈ I, Bp x) : ∀ (r i : Nat), i + r = I.length →
  Wt Try.f17 [] [] (.tup [nilI, .int .i64 0]) (Aa Try.f17 0) (dAn nl I.length i k0 k1 (I.map itB))
 | 0, i, hk2 => by
  obtain rfl : i = I.length := by omega
  exact W_anE
 | r + 1, i, hk2 => by
  have hi : i < I.length := by omega
  have hx := Fu ho hi
  have hs := EY hk.a hk.b hx.b
  have c2 := DL (n := 0) hs (by decide)
  rw [Nat.mul_zero, Nat.zero_div] at c2
  exact W_anS hi hn (Ck hi) rfl (IP rfl hx.len hk.a hk.b hx.b) c2 (pc_bs (nl := true) (n := 0) (x := 0) (L := []) (by omega)) (Si hk hn ho r (i + 1) (by omega))
def anyM (k0 k1 : Nat) (b : List Int) (I : List It) : List Int := if ED b = 0 then [] else Jt k0 k1 (ED b) (MV b).1 0 I []
theorem pc_any {nl nb : Bool} {k0 k1 m : Nat} {b : Liz} {I : List It} (hk : Keys k0 k1) (hn : I.length ≤ 100000) (ho : ∀ x ∈ I, Bp x) (hl : b.length = m) (hm : m ≤ 1000000) (hb : Bytes b) (hnl : nb = true → m = 0) (he : vE b = 0) (hL : (MV b).1.length = ED b) :
  Pt 17 [] [.iarr .u64 2 [(k0 : Int), (k1 : Int)], .vec nb (.iarr .u8 m b), .vec nl (.parr 1 I.length ish (I.map itB))] (aH (anyM k0 k1 b I)) (aP (anyM k0 k1 b I)) := by
 have c1 := pc_vals (nl := nb) hl hm hb hnl
 have hc : ED b ≤ 1000 := Rd.vn_le _ _
 unfold anyM
 rw [he] at c1
 by_cases h0 : ED b = 0
 ·rw [if_pos h0, if_pos h0] at c1
  rw [if_pos h0]
  unfold aH aP
  rw [if_pos rfl, if_pos rfl]
  exact W_anIn c1 (Si hk hn ho I.length 0 (by omega))
 ·rw [if_neg h0, if_neg h0] at c1
  unfold vH vP at c1
  rw [if_pos rfl, if_pos rfl] at c1
  rw [if_neg h0]
  have hw := Tm (nl := nl) hk hn hc hL ho I.length 0 (by omega)
  rw [List.drop_zero] at hw
  exact W_a0In c1 hw
theorem W_mtY {nb b : Bool} {m ml k : Nat} {k0 k1 : Int} {q l F : Liz} (hF : 0 < F.length) (hF2 : F.length = k) (hk : k ≤ 100000) (c1 : Pt 17 [] [.iarr .u64 2 [k0, k1], .vec nb (.iarr .u8 m q), .vec false (.parr 1 1 ish [.vec b (.iarr .u8 ml l)])] [(1, ⟨.iarr .i64 k F, false⟩)] (.tup [.ref 1 [] 1 0 k, .int .i64 0])) :
  Pt 16 [] [.iarr .u64 2 [k0, k1], .vec nb (.iarr .u8 m q), .vec b (.iarr .u8 ml l)] [] (.tup [.bool true, .int .i64 0]) := by
 refine pO Try.func16 (by kernel_rfl) ?_
 refine W.rtA [(7, c9 c1), (15, aT)] [] [1 ≤ 1, _, decide ((k:Int) > 0) = true] (ac (by omega) (ac (c1) (ao (dT (by omega)))))
theorem W_smS {nl b : Bool} {n i m : Nat} {M : Lpz} {l : Liz} {hout : Lrz} {res : PV} (hi : i < n) (hn : n ≤ 20) (g : M.getD i .undef = .vec b (.iarr .u8 m l)) (hm : m ≤ 100)
  (hw : Wt Try.f9 [] hout res (Aa Try.f9 0) ⟨[(8, .vec nl (.parr 1 n ish M)), (9, .int .i64 n), (10, .int .i64 ((i + 1 : Nat) : Int))], []⟩) :
  Wt Try.f9 [] hout res (Aa Try.f9 0) ⟨[(8, .vec nl (.parr 1 n ish M)), (9, .int .i64 n), (10, .int .i64 i)], []⟩ := by
 refine W.sgA 0 [(0, aT), (2, aE g), (6, aF), (7, aV (I6 ↑(i + 1)))] [] (⟨[(8, .vec nl (.parr 1 n ish M)), (9, .int .i64 n), (10, .int .i64 ((i + 1 : Nat) : Int))], []⟩) [decide ((i:Int) < (n:Int)) = true, 0 ≤ (i:Int), (i:Int) < (n:Int), _, i < n, decide ((m:Int) > 100) = false, I6 (IntKind.wrap .i64 ((i:Int) + 1)) = I6 ↑(i + 1)] (ac (dT (by omega)) (ob2 (by omega) (ac (ex g) (ac (by omega) (ac (dF (by omega)) (ao (wj (by omega)))))))) ?_
 exact hw
theorem W_smN {nl b : Bool} {n i m : Nat} {M : Lpz} {l : Liz} (hi : i < n) (hn : n ≤ 20) (g : M.getD i .undef = .vec b (.iarr .u8 m l)) (hm : 100 < m) :
  Wt Try.f9 [] [] (.bool false) (Aa Try.f9 0) ⟨[(8, .vec nl (.parr 1 n ish M)), (9, .int .i64 n), (10, .int .i64 i)], []⟩ := by
 refine W.rtA [(0, aT), (2, aE g), (6, aT)] [] [decide ((i:Int) < (n:Int)) = true, 0 ≤ (i:Int), (i:Int) < (n:Int), _, i < n, decide ((m:Int) > 100) = true] (ac (dT (by omega)) (ob2 (by omega) (ac (ex g) (ac (by omega) (ao (dT (by omega)))))))
theorem W_smE {nl : Bool} {n : Nat} {M : Lpz} : Wt Try.f9 [] [] (.bool true) (Aa Try.f9 0) ⟨[(8, .vec nl (.parr 1 n ish M)), (9, .int .i64 n), (10, .int .i64 n)], []⟩ := by
 refine W.rtA [(0, aF)] [] [decide ((n:Int) < (n:Int)) = false] (ao (dF (by omega)))
theorem W_smIn {nl : Bool} {n : Nat} {M : Lpz} {hout : Lrz} {res : PV} (hn : n ≤ 20) (hw : Wt Try.f9 [] hout res (Aa Try.f9 0) ⟨[(8, .vec nl (.parr 1 n ish M)), (9, .int .i64 n), (10, .int .i64 0)], []⟩) : Pt 9 [] [.vec nl (.parr 1 n ish M)] hout res := by
 refine pO Try.func9 (by kernel_rfl) ?_
 refine W.sgA 0 [(3, aF)] [] (⟨[(8, .vec nl (.parr 1 n ish M)), (9, .int .i64 n), (10, .int .i64 0)], []⟩) [decide ((n:Int) > 20) = false] (ao (dF (by omega))) ?_
 exact hw
theorem W_smB {nl : Bool} {n : Nat} {M : Lpz} (hn : ¬ n ≤ 20) : Pt 9 [] [.vec nl (.parr 1 n ish M)] [] (.bool false) := by
 refine pO Try.func9 (by kernel_rfl) ?_
 have hn' : ¬ (n : Int) ≤ 20 := by omega
 refine W.rtA [(3, aT)] [] [decide ((n:Int) > 20) = true] (ao (dT (by omega)))
theorem W_aw {m : Nat} {q q0 : Liz} (hq : q.length = 4) (g : q.getD 0 0 = 1) (h0 : q0 = [0]) (c1 : Pt 11 [] [.iarr .u64 2 [1, 2], .vec true (.parr 1 0 ish [])] [(1, BF 1 q0)] (.tup [.ref 1 [] 1 0 1, .int .i64 0]))
  (c2 : Pt 11 [] [.iarr .u64 2 [1, 2], .vec false (.parr 1 1 ish [.vec false (.iarr .u8 1 [1])])] [(1, BF 4 q)] (.tup [.ref 1 [] 1 0 4, .int .i64 0]))
  (c3 : Pt 16 [] [.iarr .u64 2 [1, 2], .vec false (.iarr .u8 4 q), .vec false (.iarr .u8 1 [1])] [] (.tup [.bool true, .int .i64 0])) : Pt 10 [] [] [] (.bool true) := by
 refine pO Try.func10 (by kernel_rfl) ?_
 subst h0
 have ht : q.take 4 = q := List.take_of_length_le (by omega)
 have hs : decide (strOf [(0 : Int)] = ⟨#[0]⟩) = true := by decide
 refine W.rtA [(2, c9 c1), (10, Ans.frz [208]), (11, c9 c2), (20, cL true [] c3), (39, aV (I6 4)), (45, aV (U8 1))] [] [_, 1 ≤ 1, 1 ≤ 1, _, 4 ≤ 4, 1 ≤ 1, rr ([] : List (Nat × Row)), ([B6 2 [1, 2], PV.vec false (B8 4 (List.take 4 q)), PV.vec false (B8 1 [1])] : List PV) = [B6 2 [1, 2], PV.vec false (B8 4 q), PV.vec false (B8 1 [1])], _, 1 ≤ 1, I6 ↑(4 : Nat) = I6 4, (0 : Int) ≤ 0, 0 < (↑(4 : Nat) : Int), U8 (List.getD q 0 (0 : Int)) = U8 1, 0 < 4] (ac (c1) (ob2 (by omega) (ac (c2) (ob2 (by omega) (ac rfl (ac (by rw [List.take_of_length_le (show List.length q ≤ 4 by omega)]) (ac (c3) (ac (by omega) (ac (cg (by omega)) (ob2 (by omega) (ac (cg (g)) (ao (by omega)))))))))))))
end Go.Proofs
namespace Go.Proofs
open Go Go.Pe Go.Pm
set_option maxRecDepth 100000
set_option linter.unusedVariables false
theorem Ha {L : List Int} (h : L.Pairwise (fun x y => decide (x ≤ y) = true)) {p q : Nat} (hpq : p ≤ q) (hq : q < L.length) : L.getD p 0 ≤ L.getD q 0 := by
 rcases Nat.eq_or_lt_of_le hpq with rfl | hlt
 ·exact Int.le_refl _
 ·have := List.pairwise_iff_getElem.1 h p q (by omega) hq hlt
  rw [List.getD_eq_getElem?_getD, List.getD_eq_getElem?_getD, List.getElem?_eq_getElem (by omega), List.getElem?_eq_getElem hq]
  exact of_decide_eq_true this
theorem Kv {L : List Int} (h : L.Pairwise (fun x y => decide (x ≤ y) = true)) {x : Int} : ∀ (k i j : Nat), j ≤ i + k → i ≤ j → j ≤ L.length → (∀ p, p < i → L.getD p 0 < x) → (∀ p, j ≤ p → p < L.length → ¬ L.getD p 0 < x) →
  (∀ p, p < bsF L x k i j → L.getD p 0 < x) ∧ (∀ p, bsF L x k i j ≤ p → p < L.length → ¬ L.getD p 0 < x)
 | 0, i, j, hk, hij, hj, h1, h2 => by
  unfold bsF
  exact ⟨h1, fun p hp => h2 p (by omega)⟩
 | k + 1, i, j, hk, hij, hj, h1, h2 => by
  unfold bsF
  by_cases hc : i < j
  ·rw [if_pos hc]
   by_cases g : L.getD ((i + j) / 2) 0 < x
   ·rw [if_pos g]
    refine Kv h k _ _ (by omega) (by omega) hj (fun p hp => ?_) h2
    have := Ha h (p := p) (q := (i + j) / 2) (by omega) (by omega)
    omega
   ·rw [if_neg g]
    refine Kv h k _ _ (by omega) (by omega) (by omega) h1 (fun p hp hpl => ?_)
    have := Ha h (p := (i + j) / 2) (q := p) hp hpl
    omega
  ·rw [if_neg hc]
   exact ⟨h1, fun p hp => h2 p (by omega)⟩
theorem bs_mem {L : List Int} (h : L.Pairwise (fun x y => decide (x ≤ y) = true)) {x : Int} (hx : x ∈ L) : bsF L x L.length 0 L.length < L.length ∧ L.getD (bsF L x L.length 0 L.length) 0 = x := by
 obtain ⟨h1, h2⟩ := Kv h (x := x) L.length 0 L.length (by omega) (by omega) (Nat.le_refl _) (fun p hp => by omega) (fun p hp hq => by omega)
 obtain ⟨p, hp, rfl⟩ := List.getElem_of_mem hx
 have e : L.getD p 0 = L[p] := by rw [List.getD_eq_getElem?_getD, List.getElem?_eq_getElem hp]; rfl
 have hr : bsF L L[p] L.length 0 L.length ≤ p := by
  rcases Nat.lt_or_ge p (bsF L L[p] L.length 0 L.length) with g | g
  ·have := h1 p g; omega
  ·exact g
 have g1 := Ha h hr hp
 have g2 := h2 _ (Nat.le_refl _) (by omega)
 exact ⟨by omega, by omega⟩
theorem PG {k0 k1 t : Nat} {x y : It} (h : x.2 = y.2) : DU k0 k1 t x = DU k0 k1 t y := by unfold DU; rw [h]
theorem hit_all {k0 k1 : Nat} (hk : Keys k0 k1) {U : List It} (ho : ∀ x ∈ U, Bp x) {x : It} (hx : Ey U x.2 = true) : hitI k0 k1 U.length (inL (nsN k0 k1 U)) x = true := by
 rw [MH hk ho]
 have hl : ((BP k0 k1 (U.length * 784931) U).mergeSort (fun x y => decide (x ≤ y))).length = U.length := by rw [List.length_mergeSort]; simp [BP]
 obtain ⟨u, hu, he⟩ := List.any_eq_true.1 hx
 have he := of_decide_eq_true he
 have hm : (DU k0 k1 (U.length * 784931) x : Int) ∈ (BP k0 k1 (U.length * 784931) U).mergeSort (fun x y => decide (x ≤ y)) := by
  rw [List.mem_mergeSort, PG he.symm]
  exact List.mem_map.2 ⟨u, hu, rfl⟩
 have := bs_mem (IW _) hm
 rw [hl] at this
 exact decide_eq_true this
theorem NU {k0 k1 c : Nat} {L : List Int} : ∀ (l : List It) (i : Nat) (A : List Int), (∀ x ∈ l, hitI k0 k1 c L x = true) → (Jt k0 k1 c L i l A).length = A.length + l.length
 | [], i, A, _ => rfl
 | u :: l, i, A, h => by
  unfold Jt
  rw [if_pos (h u (by simp)), NU l (i + 1) _ (fun x hx => h x (List.mem_cons_of_mem _ hx)), List.length_append, List.length_singleton, List.length_cons]
  omega
theorem OX (l : List Nat) : (inL l).length = l.length := by simp [inL]
theorem JI {k0 k1 : Nat} {U : List It} (hU : U.length ≤ 1000) : Bytes (Cw k0 k1 U) := by
 unfold Cw
 refine Bytes.append ?_ (H7 (FN _ _))
 unfold BJ
 split
 ·exact HY _ _
 ·exact (HY _ _).append (HY _ _)
theorem pc_anyB {nl nb : Bool} {k0 k1 : Nat} {U I : List It} (hk : Keys k0 k1) (hn : I.length ≤ 100000) (ho : ∀ x ∈ I, Bp x) (hoU : ∀ x ∈ U, Bp x) (hU : U.length ≤ 1000) (hnb : nb = false) : Pt 17 [] [.iarr .u64 2 [(k0 : Int), (k1 : Int)], .vec nb (.iarr .u8 (Cw k0 k1 U).length (Cw k0 k1 U)), .vec nl (.parr 1 I.length ish (I.map itB))] (aH (anyM k0 k1 (Cw k0 k1 U) I)) (aP (anyM k0 k1 (Cw k0 k1 U) I)) := by
 obtain ⟨e1, e2, e3⟩ := NQ hk hoU hU
 have hl := Eg hk hoU hU
 exact pc_any hk hn ho rfl (by omega) (JI hU) (fun x => by rw [hnb] at x; cases x) e1 (by rw [e3, e2, OX, Cm])
theorem Td {k0 k1 : Nat} {U I : List It} (hk : Keys k0 k1) (hoU : ∀ x ∈ U, Bp x) (hU : U.length ≤ 1000) (h : ∀ x ∈ I, Ey U x.2 = true) : (anyM k0 k1 (Cw k0 k1 U) I).length = I.length := by
 obtain ⟨e1, e2, e3⟩ := NQ hk hoU hU
 unfold anyM
 rw [e2, e3]
 by_cases h0 : U.length = 0
 ·rw [if_pos h0]
  have hU0 : U = [] := List.eq_nil_of_length_eq_zero h0
  subst hU0
  cases I with
  | nil => rfl
  | cons x l => have := h x (by simp); cases this
 ·rw [if_neg h0, NU I 0 [] fun x hx => hit_all hk hoU (h x hx)]
  exact Nat.zero_add _
theorem Rq {nb : Bool} {k0 k1 : Nat} {U : List It} {x : It} (hk : Keys k0 k1) (hx : Bp x) (hoU : ∀ x ∈ U, Bp x) (hU : U.length ≤ 1000) (hnb : nb = false) (h : Ey U x.2 = true) : Pt 16 [] [.iarr .u64 2 [(k0 : Int), (k1 : Int)], .vec nb (.iarr .u8 (Cw k0 k1 U).length (Cw k0 k1 U)), .vec x.1 (.iarr .u8 x.2.length x.2)] [] (.tup [.bool true, .int .i64 0]) := by
 have c1 := pc_anyB (nl := false) (I := [x]) hk (by simp) (fun y hy => by rw [List.mem_singleton.1 hy]; exact hx) hoU hU hnb
 have hl := Td (I := [x]) hk hoU hU (fun y hy => by rw [List.mem_singleton.1 hy]; exact h)
 have hne : anyM k0 k1 (Cw k0 k1 U) [x] ≠ [] := fun e => by rw [e] at hl; cases hl
 unfold aH aP at c1
 rw [if_neg hne, if_neg hne] at c1
 exact W_mtY (by rw [hl]; simp) rfl (by rw [hl]; simp) c1
def Mh (I : List It) : Bool := I.all fun x => decide (x.2.length ≤ 100)
theorem P8 {nl : Bool} {I : List It} (hn : I.length ≤ 20) : ∀ (r i : Nat), i + r = I.length →
  Wt Try.f9 [] [] (.bool (Mh (I.drop i))) (Aa Try.f9 0) ⟨[(8, .vec nl (.parr 1 I.length ish (I.map itB))), (9, .int .i64 I.length), (10, .int .i64 i)], []⟩
 | 0, i, hk => by
  obtain rfl : i = I.length := by omega
  rw [List.drop_of_length_le (Nat.le_refl _)]
  exact W_smE
 | r + 1, i, hk => by
  have hi : i < I.length := by omega
  have ih := P8 (nl := nl) hn r (i + 1) (by omega)
  unfold Mh at ih ⊢
  rw [drop_at hi, List.all_cons]
  by_cases h : (I.getD i default).2.length ≤ 100
  ·rw [decide_eq_true h, Bool.true_and]
   exact W_smS hi hn (Ck hi) h ih
  ·rw [decide_eq_false h, Bool.false_and]
   exact W_smN hi hn (Ck hi) (by omega)
def Kn (I : List It) : Bool := decide (I.length ≤ 20) && Mh I
theorem Sd {nl : Bool} {I : List It} : Pt 9 [] [.vec nl (.parr 1 I.length ish (I.map itB))] [] (.bool (Kn I)) := by
 unfold Kn
 by_cases hn : I.length ≤ 20
 ·have hw := P8 (nl := nl) hn I.length 0 (by omega)
  rw [List.drop_zero] at hw
  rw [decide_eq_true hn, Bool.true_and]
  exact W_smIn hn hw
 ·rw [decide_eq_false hn, Bool.false_and]
  exact W_smB hn
theorem Rf {I : List It} (h : Kn I = true) : I.length ≤ 20 ∧ ∀ x ∈ I, x.2.length ≤ 100 := by
 unfold Kn Mh at h
 rw [Bool.and_eq_true] at h
 exact ⟨of_decide_eq_true h.1, fun x hx => of_decide_eq_true (List.all_eq_true.1 h.2 x hx)⟩
theorem MJ : Pt 10 [] [] [] (.bool true) := by
 have hk : Keys 1 2 := ⟨by decide, by decide⟩
 have hx : Bp (false, [1]) := ⟨fun y hy => by rw [List.mem_singleton.1 hy]; omega, fun h => (by cases h), by simp⟩
 have hI : ∀ x ∈ [((false, [1]) : It)], Bp x := fun y hy => by rw [List.mem_singleton.1 hy]; exact hx
 have c1 := KA (nl := true) (I := []) hk (by simp) (fun x hx => by cases hx) (by simp [Av])
 have c2 := KA (nl := false) (I := [(false, [1])]) hk (by simp) hI (by simp [Av, Ey])
 have e0 : Iz 1 2 [] = [0] := by
  show BJ 0 ++ pk (stB 0 (nsN 1 2 [])) = [0]
  rw [Jy]
  rfl
 have eU : Av [] [((false, [1]) : It)] = [(false, [1])] := rfl
 have c3 := Rq (nb := false) (U := [(false, [1])]) (x := (false, [1])) hk hx hI (by simp) rfl rfl
 have eM : Iz 1 2 [((false, [1]) : It)] = Cw 1 2 [(false, [1])] := rfl
 rw [e0] at c1
 rw [eM] at c2
 have hlen : (Cw 1 2 [((false, [1]) : It)]).length = 4 := by
  unfold Cw
  have h1 := Cm 1 2 [((false, [1]) : It)]
  have h2 := IR hk hI
  generalize nsN 1 2 [((false, [1]) : It)] = r at *
  obtain ⟨v, rfl⟩ : ∃ v, r = [v] := List.length_eq_one_iff.1 h1
  have h3 := h2 v (by simp)
  have h4 : v < 784931 := by simpa using h3
  rw [List.length_append, Bf, Db, stB, stB, List.append_nil, Ct, if_pos (by simp)]
  omega
 have hget : (Cw 1 2 [((false, [1]) : It)]).getD 0 0 = 1 := rfl
 rw [hlen] at c2 c3
 exact W_aw (m := 4) hlen hget rfl c1 c2 c3
structure ItW (x : It) : Prop where
 b : Bytes x.2
 nl : x.1 = true → x.2 = []
theorem it_ok {I : List It} (ho : ∀ x ∈ I, ItW x) (h : ∀ x ∈ I, x.2.length ≤ 100) : ∀ x ∈ I, Bp x := fun x hx => ⟨(ho x hx).b, (ho x hx).nl, by have := h x hx; omega⟩
theorem u8b {l : List Int} (h : ∀ x ∈ l, IntKind.u8.wrap x = x) : Bytes l := fun x hx => by
 have := h x hx
 rw [Ar] at this
 exact this
theorem it_of {q : PV} (hc : conf ish q = true) (hw : WF q) : ∃ x : It, q = itB x ∧ ItW x := by
 obtain ⟨nl, n, l, rfl⟩ : ∃ nl n l, q = .vec nl (.iarr .u8 n l) := ⟨_, _, _, (BH _ _ hc).symm⟩
 simp only [WF] at hw
 obtain ⟨⟨h1, h2⟩, _, h3⟩ := hw
 subst h1
 exact ⟨(nl, l), rfl, ⟨u8b h2, fun h => List.eq_nil_of_length_eq_zero (h3 h)⟩⟩
theorem TK : ∀ {l : List PV}, WFL l → (∀ q ∈ l, size q = 1 ∧ conf ish q = true ∧ noref q = true) → ∃ L : List It, l = L.map itB ∧ ∀ x ∈ L, ItW x
 | [], _, _ => ⟨[], rfl, fun x hx => by cases hx⟩
 | p :: l, hw, hq => by
  simp only [WFL] at hw
  obtain ⟨x, rfl, ho⟩ := it_of (hq p (by simp)).2.1 hw.1
  obtain ⟨L, rfl, hL⟩ := TK hw.2 fun q hh => hq q (by simp [hh])
  refine ⟨x :: L, rfl, fun y hy => ?_⟩
  rcases List.mem_cons.1 hy with rfl | hy
  ·exact ho
  ·exact hL y hy
theorem itsv_of {p : PV} (hc : conf (.vec 1 ish) p = true) (hw : WF p) : ∃ (nl : Bool) (L : List It), p = .vec nl (.parr 1 L.length ish (L.map itB)) ∧ ∀ x ∈ L, ItW x := by
 obtain ⟨nl, n, m, rfl⟩ : ∃ nl n m, p = .vec nl (.parr 1 n ish m) := ⟨_, _, _, (BH _ _ hc).symm⟩
 simp only [WF] at hw
 obtain ⟨⟨h1, h2, h3⟩, _, _⟩ := hw
 obtain ⟨L, rfl, hL⟩ := TK h2 h3
 rw [List.length_map] at h1
 subst h1
 exact ⟨nl, L, rfl, hL⟩
theorem key_of {p : PV} (hc : conf (.iarr .u64 2) p = true) (hw : WF p) : ∃ k0 k1 : Nat, p = .iarr .u64 2 [(k0 : Int), (k1 : Int)] ∧ Keys k0 k1 := by
 obtain ⟨l, rfl⟩ : ∃ l, p = .iarr .u64 2 l := ⟨_, (BH _ _ hc).symm⟩
 simp only [WF] at hw
 match l, hw with
 | [a, b], hw =>
  have ha := (Ar .u64 a).1 (hw.2 a (by simp))
  have hb := (Ar .u64 b).1 (hw.2 b (by simp))
  simp only [IntKind.min, IntKind.max, IntKind.signed, IntKind.bits] at ha hb
  refine ⟨a.toNat, b.toNat, ?_, ⟨?_, ?_⟩⟩
  ·rw [Int.toNat_of_nonneg (by simpa using ha.1), Int.toNat_of_nonneg (by simpa using hb.1)]
  ·have := ha.2; simp at this; omega
  ·have := hb.2; simp at this; omega
end Go.Proofs
namespace Go.Proofs
open Go Go.Pe Go.Pm
set_option maxRecDepth 100000
set_option linter.unusedVariables false
attribute [local irreducible] lv
theorem W_gbF {nl : Bool} {n : Nat} {k0 k1 : Int} {M : Lpz} (c1 : Pt 9 [] [.vec nl (.parr 1 n ish M)] [] (.bool false)) (c5 : Pt 10 [] [] [] (.bool true)) :
  Pt 3 [] [.iarr .u64 2 [k0, k1], .vec nl (.parr 1 n ish M)] [] (.bool true) := by
 refine pO Try.func3 (by kernel_rfl) ?_
 refine W.rtA [(3, c9 c1), (5, c9 c5)] [] [_, _] (ac (c1) (ao (c5)))
theorem W_gbT {nl : Bool} {n m : Nat} {k0 k1 : Int} {M T : Lpz} {q : Liz} (hm : m ≤ 1000000) (hq : q.length = m) (hb : Bytes q) (hT : T.length = n) (hn : n ≤ 100000) (c1 : Pt 9 [] [.vec nl (.parr 1 n ish M)] [] (.bool true))
   (c2 : Pt 11 [] [.iarr .u64 2 [k0, k1], .vec nl (.parr 1 n ish M)] [(1, BF m q)] (.tup [.ref 1 [] 1 0 m, .int .i64 0]))
   (c3 : Pt 13 [] [.vec nl (.parr 1 n ish M)] [(1, GR n T)] (.ref 1 [] 1 0 n))
   (c4 : Pt 12 [] [.iarr .u64 2 [k0, k1], .vec false (.parr 1 n .str T)] [] (.str (strOf q)))
   (c5 : Pt 10 [] [] [] (.bool true)) :
    Pt 3 [] [.iarr .u64 2 [k0, k1], .vec nl (.parr 1 n ish M)] [] (.bool true) := by
  refine pO Try.func3 (by kernel_rfl) ?_
  have h1 : T.take n = T := List.take_of_length_le (by omega)
  refine W.rtA [(3, c9 c1), (7, c9 c2), (17, aV (PV.str (strOf q))), (20, c9 c3), (21, cL true [] c4), (22, aT), (25, c9 c5)] [] [_, _, PV.str (strOf (List.take m q)) = PV.str (strOf q), 0 + m ≤ m, _, 0 + n ≤ n, rr ([] : List (Nat × Row)), ([B6 2 [k0, k1], PV.vec false (PV.parr 1 n Sh.str (List.take n T))] : List PV) = [B6 2 [k0, k1], PV.vec false (PV.parr 1 n Sh.str T)], _, (ByteArray.toList (strOf q) == ByteArray.toList (strOf q)) = true, _] (ac (c1) (ac (c2) (ac (by rw [List.take_of_length_le (show List.length q ≤ m by omega)]) (ac (by omega) (ac (c3) (ac (by omega) (ac rfl (ac (by rw [List.take_of_length_le (show List.length T ≤ n by omega)]) (ac (c4) (ac (by (simp [*]; done)) (ao (c5))))))))))))
theorem W_gbZ {nl : Bool} {m : Nat} {k0 k1 : Int} {q : Liz} (hm : m ≤ 1000000) (hq : q.length = m) (hb : Bytes q) (c1 : Pt 9 [] [.vec nl (.parr 1 0 ish [])] [] (.bool true))
   (c2 : Pt 11 [] [.iarr .u64 2 [k0, k1], .vec nl (.parr 1 0 ish [])] [(1, BF m q)] (.tup [.ref 1 [] 1 0 m, .int .i64 0]))
   (c3 : Pt 13 [] [.vec nl (.parr 1 0 ish [])] [] (.vec true (.parr 1 0 .str [])))
   (c4 : Pt 12 [] [.iarr .u64 2 [k0, k1], .vec true (.parr 1 0 .str [])] [] (.str (strOf q)))
   (c5 : Pt 10 [] [] [] (.bool true)) :
    Pt 3 [] [.iarr .u64 2 [k0, k1], .vec nl (.parr 1 0 ish [])] [] (.bool true) := by
  refine pO Try.func3 (by kernel_rfl) ?_
  refine W.rtA [(3, c9 c1), (7, c9 c2), (17, aV (PV.str (strOf q))), (20, c9 c3), (21, c9 c4), (22, aT), (25, c9 c5)] [] [_, _, PV.str (strOf (List.take m q)) = PV.str (strOf q), 0 + m ≤ m, _, _, (ByteArray.toList (strOf q) == ByteArray.toList (strOf q)) = true, _] (ac (c1) (ac (c2) (ac (by rw [List.take_of_length_le (show List.length q ≤ m by omega)]) (ac (by omega) (ac (c3) (ac (c4) (ac (by (simp [*]; done)) (ao (c5)))))))))
theorem Ug {nl : Bool} {k0 k1 : Nat} {I : List It} (hk : Keys k0 k1) (ho : ∀ x ∈ I, ItW x) : Pt 3 [] [.iarr .u64 2 [(k0 : Int), (k1 : Int)], .vec nl (.parr 1 I.length ish (I.map itB))] [] (.bool true) := by
 have cs := Sd (nl := nl) (I := I)
 cases hs : Kn I with
 | false => rw [hs] at cs; exact W_gbF cs MJ
 | true =>
  rw [hs] at cs
  obtain ⟨h1, h2⟩ := Rf hs
  have hOk := it_ok ho h2
  have hlen := CR I []
  rw [List.length_nil, Nat.zero_add] at hlen
  have hU : ∀ u ∈ Av [] I, Bp u := CW I [] (fun x hx => by cases hx) hOk
  have c2 := KA (nl := nl) hk (by omega) hOk (by omega)
  have hbl : (Iz k0 k1 I).length ≤ 300000 := (Eg hk hU (by omega)).1
  have hbb : Bytes (Iz k0 k1 I) := JI (by omega)
  by_cases h0 : I.length = 0
  ·obtain rfl := List.eq_nil_of_length_eq_zero h0
   exact W_gbZ (by omega) rfl hbb cs c2 QL OM MJ
  ·exact W_gbT (by omega) rfl hbb (List.length_map _) (by omega) cs c2 (Su (by omega) (by omega) hOk) (Q0 (nl := false) hk (by omega) (by omega) hOk (fun x hx => by have := h2 x hx; omega)) MJ
end Go.Proofs
namespace Go.Pe
def NF (P : Program) (tot : Nat) : Nat → List Field → Bool
 | o, [] => Nat.beq o tot
 | o, f :: l => Nat.beq f.offset o && NF P tot (o + P.cellsOf f.type) l
def okT (P : Program) : Nat → TypeId → Bool
 | 0, _ => false
 | d + 1, t => match P.underlying t with
  | some .bool | some (.int _) | some .string => Nat.beq (P.cellsOf t) 1
  | some (.struct fs) => NF P (P.cellsOf t) 0 fs.toList && fs.toList.all fun f => okT P d f.type
  | some (.array n e) => Nat.beq (P.cellsOf t) (n * P.cellsOf e) && EO P e && okT P d e
  | some (.slice e) => Nat.beq (P.cellsOf t) 1 && EO P e && okT P d e
  | _ => false
theorem Cr (k : IntKind) : IntKind.same k k = true := by cases k <;> rfl
theorem beq_refl (s : Sh) : Sh.beq s s = true :=
 Sh.rec (motive_1 := fun s => Sh.beq s s = true) (motive_2 := fun l => Sh.MR l l = true) rfl Cr rfl rfl (fun _ _ ih => by simp only [Sh.beq, Bool.and_eq_true]; exact ⟨Nat.beq_refl _, ih⟩)
  (fun k _ => by simp only [Sh.beq, Bool.and_eq_true]; exact ⟨Cr k, Nat.beq_refl _⟩) (fun _ _ _ ih => by simp only [Sh.beq, Bool.and_eq_true]; exact ⟨⟨Nat.beq_refl _, Nat.beq_refl _⟩, ih⟩)
  (fun _ _ ih => by simp only [Sh.beq, Bool.and_eq_true]; exact ⟨Nat.beq_refl _, ih⟩) rfl (fun _ _ h1 h2 => by simp only [Sh.MR, Bool.and_eq_true]; exact ⟨h1, h2⟩) s
structure I9 (P : Program) (w : World) (T : T2) (d : Nat) (t : TypeId) (cs : List Value) (p : PV) : Prop where
 conf : conf (Ca P d t) p = true
 wf : WF p
 noref : noref p = true
 untup : untup p = true
 size : size p = P.cellsOf t
 len : cs.length = P.cellsOf t
 agg : Pe.isAgg p = BM P t
 rel : ∀ (j : Nat) (q : PV) (u : Value), (flat p)[j]? = some q → cs[j]? = some u → RC w T u q
theorem KI {α β : Type} {g : α → Option β} : ∀ {l : List α} {xs : List β}, l.mapM g = some xs → ∀ i ∈ l, ∃ y, g i = some y
 | [], _, _, i, hi => by cases hi
 | a :: l, xs, h, i, hi => by
  rw [List.mapM_cons] at h
  simp only [Option.bind_eq_bind, Option.bind_eq_some_iff] at h
  obtain ⟨y, hy, ys, hys, _⟩ := h
  rcases List.mem_cons.1 hi with rfl | hi
  ·exact ⟨y, hy⟩
  ·exact KI hys i hi
theorem IU {s : Nat} (hs : 0 < s) : ∀ {l : List PV}, WFL l → (∀ q ∈ l, Pe.size q = s) → ∀ {j : Nat} {q : PV}, (Ai l)[j]? = some q → ∃ p, l[j / s]? = some p ∧ (flat p)[j % s]? = some q
 | [], _, _, j, q, h => by simp [Ai] at h
 | p :: l, hw, hz, j, q, h => by
  simp only [WFL] at hw
  have hl : (flat p).length = s := by rw [Ag p hw.1, hz p (by simp)]
  simp only [Ai] at h
  by_cases hj : j < s
  ·rw [List.getElem?_append_left (by omega)] at h
   refine ⟨p, by rw [Nat.div_eq_of_lt hj]; rfl, by rw [Nat.mod_eq_of_lt hj]; exact h⟩
  ·rw [List.getElem?_append_right (by omega), hl] at h
   obtain ⟨p', h1, h2⟩ := IU hs hw.2 (fun q hq => hz q (by simp [hq])) h
   have e : j = (j - s) + s := by omega
   refine ⟨p', ?_, ?_⟩
   ·rw [e, Nat.add_div_right _ hs]
    simpa using h1
   ·rw [e, Nat.add_mod_right]; exact h2
def Cf (P : Program) (d : Nat) (e : TypeId) (l : List PV) : PV := match P.underlying e with
 | some (.int k) => .iarr k l.length (l.map PV.num)
 | _ => .parr (P.cellsOf e) l.length (Ca P d e) l
section
variable {P : Program} {w : World} {T : T2}
theorem M9 {d : Nat} {e : TypeId} {k : IntKind} (h : P.underlying e = some (.int k)) : Ca P (d + 1) e = .int k := by simp only [Ca, h]
theorem Pg {d : Nat} {t e : TypeId} (h : P.underlying t = some (.slice e)) : Ca P (d + 1) t = .vec (P.cellsOf e) (Ca P d e) := by simp only [Ca, h]
theorem GY {d : Nat} {e : TypeId} {l : List PV} (hok : okT P d e = true) (hl : ∀ q ∈ l, Pe.conf (Ca P d e) q = true ∧ WF q ∧ Pe.noref q = true ∧ Pe.untup q = true ∧ Pe.size q = P.cellsOf e) :
  WF (Cf P d e l) ∧ Bw (Cf P d e l) = true ∧ Ae (Cf P d e l) = l.length ∧ Au (Cf P d e l) = P.cellsOf e ∧ Pe.untup (Cf P d e l) = true ∧ flat (Cf P d e l) = Ai l ∧ Pe.size (Cf P d e l) = l.length * P.cellsOf e := by
 have hut : Bz l = true := by
  clear hok
  induction l with
  | nil => rfl
  | cons p l ih =>
   simp only [Bz, Bool.and_eq_true]
   exact ⟨(hl p (by simp)).2.2.2.1, ih fun q hq => hl q (by simp [hq])⟩
 unfold Cf
 split
 ·rename_i k hu
  obtain ⟨d', rfl⟩ : ∃ d', d = d' + 1 := by cases d with
   | zero => simp [okT] at hok
   | succ d => exact ⟨d, rfl⟩
  have h1 : P.cellsOf e = 1 := by
   simp only [okT, hu] at hok
   exact Nat.eq_of_beq_eq_true hok
  have hq : ∀ q ∈ l, ∃ x, q = .int k x ∧ k.wrap x = x := by
   intro q hq
   have := hl q hq
   rw [M9 hu] at this
   cases q <;> simp only [Pe.conf, reduceCtorEq, false_and] at this
   rename_i k' x
   have hk := IntKind.same_eq this.1
   subst hk
   exact ⟨x, rfl, by simpa only [WF] using this.2.1⟩
  have hf : (l.map PV.num).map (PV.int k) = l := by
   rw [List.map_map]
   conv => rhs; rw [← List.map_id l]
   refine List.map_congr_left fun q hql => ?_
   obtain ⟨x, rfl, _⟩ := hq q hql
   rfl
  have hfl : Ai l = l := by
   clear hok hf
   induction l with
   | nil => rfl
   | cons p l ih =>
    obtain ⟨x, rfl, _⟩ := hq p (by simp)
    simp only [Ai, flat]
    rw [ih (by simp only [Bz, Bool.and_eq_true] at hut; exact hut.2) (fun q hq' => hl q (by simp [hq'])) (fun q hq' => hq q (by simp [hq']))]
    rfl
  refine ⟨?_, rfl, rfl, by simp only [Au]; omega, rfl, by simp only [flat]; rw [hf, hfl], by simp only [Pe.size]; rw [h1, Nat.mul_one]⟩
  simp only [WF, List.length_map, List.mem_map, true_and]
  rintro x ⟨q, hql, rfl⟩
  obtain ⟨x, rfl, hx⟩ := hq q hql
  exact hx
 ·refine ⟨?_, rfl, rfl, rfl, by simpa only [Pe.untup] using hut, rfl, rfl⟩
  simp only [WF]
  exact ⟨trivial, BS fun q hq => (hl q hq).2.1, fun q hq => ⟨(hl q hq).2.2.2.2, (hl q hq).1, (hl q hq).2.2.1⟩⟩
theorem Oa {d n : Nat} {t e : TypeId} {cs : List Value} (hu : P.underlying t = some (.array n e)) (hc : P.cellsOf t = n * P.cellsOf e) (hok : okT P d e = true) (hs : 0 < P.cellsOf e) (hl : cs.length = P.cellsOf t)
  (h : ∀ i, i < n → ∃ p, I9 P w T d e ((cs.drop (i * P.cellsOf e)).take (P.cellsOf e)) p) : ∃ p, I9 P w T (d + 1) t cs p := by
 have hex : ∀ i, ∃ p, i < n → I9 P w T d e ((cs.drop (i * P.cellsOf e)).take (P.cellsOf e)) p := fun i => by
  by_cases hi : i < n
  ·obtain ⟨p, hp⟩ := h i hi; exact ⟨p, fun _ => hp⟩
  ·exact ⟨.undef, fun h => absurd h hi⟩
 obtain ⟨f, hf⟩ := Classical.axiomOfChoice hex
 have hmem : ∀ q ∈ (List.range n).map f, Pe.conf (Ca P d e) q = true ∧ WF q ∧ Pe.noref q = true ∧ Pe.untup q = true ∧ Pe.size q = P.cellsOf e := by
  intro q hq
  obtain ⟨i, hi, rfl⟩ := List.mem_map.1 hq
  have := hf i (by simpa using hi)
  exact ⟨this.conf, this.wf, this.noref, this.untup, this.size⟩
 obtain ⟨a1, a2, a3, a4, a5, a6, a7⟩ := GY hok hmem
 have hlen : ((List.range n).map f).length = n := by simp
 refine ⟨Cf P d e ((List.range n).map f), ?_, a1, IL a2, a5, by rw [a7, hlen, hc], hl, ?_, fun j q u hq hu' => ?_⟩
 ·unfold Cf
  simp only [Ca, hu]
  cases hk : P.underlying e with
  | none =>
   simp only [Pe.conf, Bool.and_eq_true, hlen]
   exact ⟨⟨Nat.beq_refl _, Nat.beq_refl _⟩, beq_refl _⟩
  | some dsc => cases dsc with
  | int k =>
   simp only [Pe.conf, Bool.and_eq_true, hlen]
   exact ⟨Cr k, Nat.beq_refl _⟩
  | _ =>
   simp only [Pe.conf, Bool.and_eq_true, hlen]
   exact ⟨⟨Nat.beq_refl _, Nat.beq_refl _⟩, beq_refl _⟩
 ·have : Pe.isAgg (Cf P d e ((List.range n).map f)) = true := by unfold Cf; split <;> rfl
  rw [this]
  simp only [BM, hu]
 ·rw [a6] at hq
  have hwl : WFL ((List.range n).map f) := BS fun q hq => (hmem q hq).2.1
  obtain ⟨p, h1, h2⟩ := IU hs hwl (fun q hq => (hmem q hq).2.2.2.2) hq
  have hjn : j / P.cellsOf e < n := by have := (List.getElem?_eq_some_iff.1 h1).1; simpa using this
  have hp : p = f (j / P.cellsOf e) := by simp [hjn] at h1; exact h1.symm
  subst hp
  refine (hf _ hjn).rel (j % P.cellsOf e) q u h2 ?_
  rw [List.getElem?_take, if_pos (Nat.mod_lt _ hs), List.getElem?_drop, ← hu']
  congr 1
  rw [Nat.mul_comm]
  exact Nat.div_add_mod j (P.cellsOf e)
theorem Ib {d tot : Nat} {cs : List Value} (hl : cs.length = tot) : ∀ {fs : List Field} {o : Nat}, NF P tot o fs = true → (∀ f ∈ fs, okT P d f.type = true ∧ ∃ p, I9 P w T d f.type ((cs.drop f.offset).take (P.cellsOf f.type)) p) →
  ∃ ps, Fs (fs.map fun f => Ca P d f.type) ps = true ∧ WFL ps ∧ Co ps = true ∧ Bz ps = true ∧ o + Az ps = tot ∧ ∀ (j : Nat) (q : PV) (u : Value), (Ai ps)[j]? = some q → cs[o + j]? = some u → RC w T u q
 | [], o, h, _ => by
  simp only [NF] at h
  exact ⟨[], rfl, by simp [WFL], rfl, rfl, by simp only [Az]; exact Nat.eq_of_beq_eq_true h, fun j q u hq => by simp [Ai] at hq⟩
 | f :: fs, o, h, hf => by
  simp only [NF, Bool.and_eq_true] at h
  obtain ⟨h1, h2⟩ := h
  have ho := Nat.eq_of_beq_eq_true h1
  obtain ⟨_, p, hp⟩ := hf f (by simp)
  obtain ⟨ps, g1, g2, g3, g4, g5, g6⟩ := Ib hl h2 fun x hx => hf x (by simp [hx])
  refine ⟨p :: ps, by simp only [List.map_cons, Fs, Bool.and_eq_true]; exact ⟨hp.conf, g1⟩, by simp only [WFL]; exact ⟨hp.wf, g2⟩, by simp only [Co, Bool.and_eq_true]; exact ⟨hp.noref, g3⟩, by simp only [Bz, Bool.and_eq_true]; exact ⟨hp.untup, g4⟩, by simp only [Az, hp.size]; omega, fun j q u hq hu => ?_⟩
  simp only [Ai] at hq
  have hlp : (flat p).length = P.cellsOf f.type := by rw [Ag p hp.wf, hp.size]
  by_cases hj : j < P.cellsOf f.type
  ·rw [List.getElem?_append_left (by omega)] at hq
   refine hp.rel j q u hq ?_
   rw [List.getElem?_take, if_pos hj, List.getElem?_drop, ho]
   exact hu
  ·rw [List.getElem?_append_right (by omega), hlp] at hq
   refine g6 _ q u hq ?_
   rw [← hu]
   congr 1
   omega
end
section
variable {H : Type} {enc : TypeId × Value → H} {P : Program} {w : World} {base : Nat} {spare : Nat → Bool} {held : Bool}
theorem Jp {a : Addr} {n : Nat} {cs : List Value} (h : w.cells? base a n = some cs) : cs.length = n ∧ ∀ j u, cs[j]? = some u → w.cell? (a.add j) = some u := by
 unfold World.cells? at h
 split at h
 ·have : ∀ {l : List Nat} {xs : List Value}, l.mapM (fun i => w.cell? (a.add i)) = some xs → xs.length = l.length ∧ ∀ (j : Nat) (i : Nat) (u : Value), l[j]? = some i → xs[j]? = some u → w.cell? (a.add i) = some u := by
   intro l
   induction l with
   | nil => intro xs h; simp at h; subst h; exact ⟨rfl, fun j i u hi => by simp at hi⟩
   | cons b l ih =>
    intro xs h
    rw [List.mapM_cons] at h
    simp only [Option.bind_eq_bind, Option.bind_eq_some_iff, Option.pure_def, Option.some.injEq] at h
    obtain ⟨y, hy, ys, hys, rfl⟩ := h
    obtain ⟨e1, e2⟩ := ih hys
    refine ⟨by simp [e1], fun j i u hi hu => ?_⟩
    cases j with
    | zero => simp at hi hu; subst hi; subst hu; exact hy
    | succ j => simp at hi hu; exact e2 j i u hi hu
  obtain ⟨e1, e2⟩ := this h
  refine ⟨by simpa using e1, fun j u hu => ?_⟩
  have hj : j < n := by have := (List.getElem?_eq_some_iff.1 hu).1; simp at e1; omega
  exact e2 j j u (by simp [hj]) hu
 ·cases h
theorem Fp : ∀ (d : Nat) (t : TypeId) (fuel : Nat) (cs : List Value) (x : DataW H × List MemPlace), okT P d t = true → DataW.trod enc P w base spare held fuel t cs = some x → ∃ p, I9 P w (fun b _ => b < w.heap.size) d t cs p
 | 0, _, _, _, _, h, _ => by simp [okT] at h
 | d + 1, t, 0, cs, x, _, h => by simp [DataW.trod] at h
 | d + 1, t, fuel + 1, cs, x, hok, h => by
  have hsz : ∀ e, EO P e = true → 0 < P.cellsOf e := fun e he => Nat.pos_of_ne_zero (Bo he)
  simp only [okT] at hok
  split at hok
  ·rename_i hu
   have hc := Nat.eq_of_beq_eq_true hok
   obtain ⟨b, rfl, _⟩ := DataW.trod_bool hu h
   refine ⟨.bool b, by simp only [Ca, hu]; rfl, trivial, rfl, rfl, hc.symm, by rw [hc]; rfl, by simp only [BM, hu]; rfl, fun j q u hq hu' => ?_⟩
   cases j with
   | zero => simp [flat] at hq hu'; subst hq; subst hu'; exact .bool b
   | succ j => simp [flat] at hq
  ·rename_i k hu
   have hc := Nat.eq_of_beq_eq_true hok
   obtain ⟨n, rfl, _, hwf⟩ := DataW.trod_int hu h
   have hw : k.wrap n = n := by
    rw [Ar]
    simpa [Lit.wf, IntKind.has] using hwf
   refine ⟨.int k n, by simp only [Ca, hu, conf]; cases k <;> rfl, by simp only [WF]; exact hw, rfl, rfl, hc.symm, by rw [hc]; rfl, by simp only [BM, hu]; rfl, fun j q u hq hu' => ?_⟩
   cases j with
   | zero => simp [flat] at hq hu'; subst hq; subst hu'; exact .int k n
   | succ j => simp [flat] at hq
  ·rename_i hu
   have hc := Nat.eq_of_beq_eq_true hok
   obtain ⟨s, rfl, _, hs⟩ := DataW.trod_string hu h
   refine ⟨.str s, by simp only [Ca, hu]; rfl, trivial, rfl, rfl, hc.symm, by rw [hc]; rfl, by simp only [BM, hu]; rfl, fun j q u hq hu' => ?_⟩
   cases j with
   | zero => simp [flat] at hq hu'; subst hq; subst hu'; exact .str s hs
   | succ j => simp [flat] at hq
  ·rename_i fs hu
   simp only [Bool.and_eq_true, List.all_eq_true] at hok
   simp only [DataW.trod, hu] at h
   split at h
   ·rename_i hl
    simp only [Option.map_eq_some_iff] at h
    obtain ⟨xs, hxs, _⟩ := h
    obtain ⟨ps, g1, g2, g3, g4, g5, g6⟩ := Ib (P := P) (w := w) (T := fun b _ => b < w.heap.size) (d := d) hl hok.1 (fun f hf => ⟨hok.2 f hf, by
     obtain ⟨y, hy⟩ := KI hxs f hf
     exact Fp d f.type fuel _ y (hok.2 f hf) hy⟩)
    refine ⟨.st (P.cellsOf t) ps, by simp only [Ca, hu, conf, Bool.and_eq_true]; exact ⟨Nat.beq_refl _, g1⟩, by simp only [WF]; exact ⟨by omega, g2⟩, by simp only [noref]; exact g3, by simp only [untup]; exact g4, rfl, hl, by simp only [BM, hu]; rfl, fun j q u hq hu' => ?_⟩
    simp only [flat] at hq
    exact g6 j q u hq (by rw [Nat.zero_add]; exact hu')
   ·cases h
  ·rename_i n e hu
   simp only [Bool.and_eq_true] at hok
   have hc := Nat.eq_of_beq_eq_true hok.1.1
   simp only [DataW.trod, hu] at h
   split at h
   ·rename_i hl
    simp only [Option.map_eq_some_iff] at h
    obtain ⟨xs, hxs, _⟩ := h
    exact Oa hu hc hok.2 (hsz e hok.1.2) hl fun i hi => by
     obtain ⟨y, hy⟩ := KI hxs i (by simpa using hi)
     exact Fp d e fuel _ y hok.2 hy
   ·cases h
  ·rename_i e hu
   simp only [Bool.and_eq_true] at hok
   have hc := Nat.eq_of_beq_eq_true hok.1.1
   have hpos := hsz e hok.1.2
   have hone : ∀ (v : Value) (c : PV) (nl : Bool), cs = [v] → WF (.vec nl c) → Pe.conf (Ca P (d + 1) t) (.vec nl c) = true → RC w (fun b _ => b < w.heap.size) v (.vec nl c) → ∃ p, I9 P w (fun b _ => b < w.heap.size) (d + 1) t cs p := by
    rintro v c nl rfl h1 h2 h3
    refine ⟨.vec nl c, h2, h1, rfl, rfl, hc.symm, by rw [hc]; rfl, by simp only [BM, hu]; rfl, fun j q u hq hu' => ?_⟩
    cases j with
    | zero => simp [flat] at hq hu'; subst hq; subst hu'; exact h3
    | succ j => simp [flat] at hq
   have hshape : ∀ l : List PV, ∀ nl, Pe.conf (Ca P (d + 1) t) (.vec nl (Cf P d e l)) = true := by
    intro l nl
    obtain ⟨d', rfl⟩ : ∃ d', d = d' + 1 := by cases d with
     | zero => simp [okT] at hok
     | succ d => exact ⟨d, rfl⟩
    have hsh : Ca P (d' + 1 + 1) t = .vec (P.cellsOf e) (Ca P (d' + 1) e) := Pg hu
    rw [hsh]
    by_cases hk : ∃ k, P.underlying e = some (.int k)
    ·obtain ⟨k, hk⟩ := hk
     have : Cf P (d' + 1) e l = .iarr k l.length (l.map PV.num) := by simp only [Cf, hk]
     rw [this, M9 hk]
     simp only [Pe.conf]
     exact Cr k
    ·have : Cf P (d' + 1) e l = .parr (P.cellsOf e) l.length (Ca P (d' + 1) e) l := by
      unfold Cf
      split
      ·rename_i k hk'; exact absurd ⟨k, hk'⟩ hk
      ·rfl
     rw [this]
     have hni : Sh.isInt (Ca P (d' + 1) e) = false := by
      cases he : P.underlying e with
      | none => simp only [Ca, he, Sh.isInt]
      | some dsc => cases dsc with
       | int k => exact absurd ⟨k, he⟩ hk
       | array n e' =>
        simp only [Ca, he]
        split <;> rfl
       | _ => simp only [Ca, he, Sh.isInt]
     cases hs2 : Ca P (d' + 1) e with
     | int k => rw [hs2] at hni; simp [Sh.isInt] at hni
     | _ => simp only [Pe.conf, Bool.and_eq_true, Sh.isInt, Bool.not_false, true_and]; exact ⟨Nat.beq_refl _, beq_refl _⟩
   rcases DataW.trod_slice hu h with ⟨hx, _⟩ | ⟨a, len, cap, elems, rest, n, hf, hx, _, _, h1, h2, h3, h4, _⟩
   ·obtain ⟨a1, a2, a3, _⟩ := GY (P := P) (d := d) (e := e) (l := []) hok.2 (fun q hq => by cases hq)
    exact hone _ (Cf P d e []) true hx (by simp only [WF]; exact ⟨a1, a2, fun _ => a3⟩) (hshape [] true) (.vec0 _ _ _ _ a3 rfl (fun _ => rfl))
   ·have hfu : n = fuel := by omega
    subst hfu
    have hex : ∀ i, ∃ p, i < len → ∃ cs', w.cells? base (a.add (i * P.cellsOf e)) (P.cellsOf e) = some cs' ∧ I9 P w (fun b _ => b < w.heap.size) d e cs' p := fun i => by
     by_cases hi : i < len
     ·have := h4 i hi
      rw [List.getElem?_eq_getElem (by omega), Option.bind_eq_some_iff] at this
      obtain ⟨cs', c1, c2⟩ := this
      obtain ⟨p, hp⟩ := Fp d e n cs' _ hok.2 c2
      exact ⟨p, fun _ => ⟨cs', c1, hp⟩⟩
     ·exact ⟨.undef, fun h => absurd h hi⟩
    obtain ⟨f, hf⟩ := Classical.axiomOfChoice hex
    have hmem : ∀ q ∈ (List.range len).map f, Pe.conf (Ca P d e) q = true ∧ WF q ∧ Pe.noref q = true ∧ Pe.untup q = true ∧ Pe.size q = P.cellsOf e := by
     intro q hq
     obtain ⟨i, hi, rfl⟩ := List.mem_map.1 hq
     obtain ⟨cs', _, hp⟩ := hf i (by simpa using hi)
     exact ⟨hp.conf, hp.wf, hp.noref, hp.untup, hp.size⟩
    obtain ⟨a1, a2, a3, a4, a5, a6, a7⟩ := GY hok.2 hmem
    have hlen : ((List.range len).map f).length = len := by simp
    rw [hlen] at a3
    rcases Nat.eq_zero_or_pos len with h0 | h0
    ·subst h0
     exact hone _ (Cf P d e ((List.range 0).map f)) false hx (by simp only [WF]; exact ⟨a1, a2, fun e => by cases e⟩) (hshape _ false) (.vec0 _ _ _ _ a3 rfl (fun e => by cases e))
    ·have hsp : a.spot = none := by
      obtain ⟨cs', c1, hp⟩ := hf 0 h0
      obtain ⟨e1, e2⟩ := Jp c1
      have := e2 0 cs'[0] (List.getElem?_eq_getElem (by omega))
      unfold World.cell? at this
      split at this
      ·split at this
       ·cases this
       ·rename_i hs
        simpa [Addr.add] using hs
      ·cases this
     obtain ⟨bk, o, sp⟩ := a
     simp only at hsp
     subst hsp
     have hcell : ∀ j, ∃ u, ∀ q, (flat (Cf P d e ((List.range len).map f)))[j]? = some q → w.cell? ⟨bk, o + j, none⟩ = some u ∧ RC w (fun b _ => b < w.heap.size) u q := by
      intro j
      cases hj : (flat (Cf P d e ((List.range len).map f)))[j]? with
      | none => exact ⟨Go.undef, fun q hq => by cases hq⟩
      | some q =>
       rw [a6] at hj
       obtain ⟨p, p1, p2⟩ := IU hpos (BS fun q hq => (hmem q hq).2.1) (fun q hq => (hmem q hq).2.2.2.2) hj
       have hjn : j / P.cellsOf e < len := by have := (List.getElem?_eq_some_iff.1 p1).1; simpa using this
       have hp : p = f (j / P.cellsOf e) := by simp [hjn] at p1; exact p1.symm
       subst hp
       obtain ⟨cs', c1, hp⟩ := hf _ hjn
       obtain ⟨e1, e2⟩ := Jp c1
       have hm : j % P.cellsOf e < cs'.length := by rw [e1]; exact Nat.mod_lt _ hpos
       refine ⟨cs'[j % P.cellsOf e], fun q' hq' => ?_⟩
       cases hq'
       refine ⟨?_, hp.rel _ q _ p2 (List.getElem?_eq_getElem hm)⟩
       have := e2 _ _ (List.getElem?_eq_getElem hm)
       rw [Bl, Bl] at this
       rw [← this]
       congr 2
       rw [Nat.add_assoc, Nat.mul_comm, Nat.div_add_mod]
     obtain ⟨us, hus⟩ := Classical.axiomOfChoice hcell
     exact hone _ (Cf P d e ((List.range len).map f)) false hx (by simp only [WF]; exact ⟨a1, a2, fun e => by cases e⟩) (hshape _ false)
      (.vec1 _ _ _ _ _ us a3 h1 h2 (fun j q hq => ⟨Ef (hus j q hq).1, (hus j q hq).1⟩) (fun j q hq => (hus j q hq).2))
  ·cases hok
end
end Go.Pe
namespace Go.Pe
open Go.ChangeShapes Go.WideShapes Go.ChangeAt Go.RowKit
section
variable {H : Type} {enc : TypeId × Value → H} {P : Program}
theorem Pf {f : Func} {s : ChangeSpec} {apart fresh handsOn again : Bool} {W W' : World} {args : Array Value} {v : Value} {ds gs : List (DataW H)} {before pa pv : List MemPlace}
  (hW : DataW.Whole enc P f.params.toList s.vars apart W args.toList ds gs before)
  (hres : ∀ (b : Nat) (sp : Nat → Bool) (hd : Bool), DataW.TrodAll enc P W' b sp hd f.resultTypes.toList (v.resultList f.resultTypes.size) (s.fn H (ds ++ gs)).results [])
  (hargs : ∀ sp : Nat → Bool, (∀ p ∈ before, sp p.block = true) → DataW.TrodAll enc P W' 0 sp true f.params.toList args.toList (s.fn H (ds ++ gs)).args pa)
  (hvars : ∀ sp : Nat → Bool, (∀ p ∈ before, sp p.block = true) → DataW.TrodVars enc P W' sp s.vars (s.fn H (ds ++ gs)).vars pv)
  (hps : before = pa ++ pv) (hb : Below W.heap.size W W')
  (hok : ∀ (j : Nat) (t : TypeId) (r : Value), f.resultTypes[j]? = some t → (v.resultList f.resultTypes.size)[j]? = some r → Value.okWide P W' .any 0 t r) :
  s.post enc P f apart fresh handsOn again W args v W' := by
 have hlt : ∀ p ∈ before, p.block < W.heap.size := fun p hp => hW.lt p hp
 have hold : ∀ p ∈ before, (fun b => decide (b < W.heap.size)) p.block = true := fun p hp => by simpa using hlt p hp
 refine ⟨ds, gs, before, [], pa, pv, hW, hres _ _ _, hargs _ hold, hvars _ hold, World.keptBut_mono (fun p hp => ⟨hp, ?_⟩) (hb.frame (· ∈ before)), fun _ => ?_⟩
 ·rw [hps, List.mem_append] at hp
  exact Or.inr hp
 ·obtain ⟨_, _, _, _, _, hz, hn⟩ := hW
  refine ⟨hok, _, _, ([] ++ pa) ++ pv, ⟨[] ++ pa, pv, trodAll_append (hargs _ (fun _ _ => rfl)) (hres _ _ _), hvars _ (fun _ _ => rfl), rfl, ?_, ?_⟩, ?_⟩
  ·intro b off hp
   have hin : MemPlace.cell b off ∈ before := by rw [hps]; simpa using hp
   rw [hb.frozen (hlt _ hin)]
   exact hz b off hin
  ·intro ha
   have := hn ha
   rw [hps] at this
   simpa using this
  ·intro p hp _
   rw [hps]
   simpa using hp
theorem Gm (hl : laidOutB P = true) {W W' : World} (hb : Below W.heap.size W W') {sp : Nat → Bool} : ∀ {ts : List TypeId} {vs : List Value} {ds : List (DataW H)} {ps : List MemPlace}, (∀ t ∈ ts, P.readableRec t = true ∧ t < P.types.size) →
  DataW.TrodAll enc P W 0 (fun _ => true) true ts vs ds ps → (∀ p ∈ ps, sp p.block = true) → DataW.TrodAll enc P W' 0 sp true ts vs ds ps
 | [], [], [], _, _, h, _ => h
 | t :: ts, v :: vs, d :: ds, ps, ht, h, hs => by
  have hlt := h.lt
  obtain ⟨p, q, h1, h2, rfl⟩ := h
  exact ⟨p, q, WideElems.Trod_stays hl (ht t (by simp)).1 (ht t (by simp)).2 h1 (fun x hx => hb.same (hlt x (by simp [hx]))) (fun x hx => hs x (by simp [hx])),
   Gm hl hb (fun t ht' => ht t (by simp [ht'])) h2 (fun x hx => hs x (by simp [hx])), rfl⟩
 | [], _ :: _, _, _, _, h, _ => by simp [DataW.TrodAll] at h
 | [], [], _ :: _, _, _, h, _ => by simp [DataW.TrodAll] at h
 | _ :: _, [], _, _, _, h, _ => by simp [DataW.TrodAll] at h
 | _ :: _, _ :: _, [], _, _, h, _ => by simp [DataW.TrodAll] at h
structure Ins (P : Program) (ts : List TypeId) (ps : List PV) : Prop where
 conf : Fs (ts.map (Ca P 9)) ps = true
 wf : WFL ps
 untup : Bz ps = true
theorem TP {W : World} {base : Nat} {t : TypeId} {v : Value} {p : PV} (hv : Value.okWide P W .any base t v) (h : I9 P W (fun b _ => b < W.heap.size) 9 t v.cells.toList p) : RV W (fun b _ => b < W.heap.size) (fun _ => none) v p := by
 have hnt : ∀ vs, p ≠ .tup vs := fun vs e => by have := h.untup; subst e; simp [Pe.untup] at this
 cases ha : Pe.isAgg p with
 | true =>
  have hat : BM P t = true := by rw [← h.agg]; exact ha
  have : ∃ cs, v = .agg cs := by
   unfold BM at hat
   unfold Value.okWide at hv
   split at hat
   ·rename_i fs hu
    rw [hu] at hv
    obtain ⟨cs, hc, _⟩ := hv
    exact ⟨cs, hc⟩
   ·rename_i n e hu
    rw [hu] at hv
    obtain ⟨cs, hc, _⟩ := hv
    exact ⟨cs, hc⟩
   ·cases hat
  obtain ⟨cs, rfl⟩ := this
  refine RV.Iy ha h.wf ⟨cs, rfl, ?_, fun j q u hq hu => RO.Bv (h.rel j q u hq ?_)⟩
  ·have := h.len
   simp only [Value.cells, Array.length_toList] at this
   rw [this, h.size]
  ·simpa [Value.cells] using hu
 | false =>
  have hl : Pe.leaf p = true := by rw [Pe.leaf_agg, ha]; rfl
  have hone : v.cells = #[v] := by
   have hnagg : ∀ cs, v ≠ .agg cs := by
    rintro cs rfl
    have hat : BM P t = false := by rw [← h.agg]; exact ha
    unfold Value.okWide at hv
    unfold BM at hat
    split at hv
    ·rename_i fs hu; rw [hu] at hat; cases hat
    ·rename_i n e hu; rw [hu] at hat; cases hat
    ·unfold Cell.okWide at hv
     split at hv <;> simp_all [Cell.ok]
   cases v <;> first | rfl | exact absurd rfl (hnagg _)
  refine RV.AA hl hnt h.wf (RO.Bv (h.rel 0 p v (by rw [Et hl]; rfl) (by rw [hone]; rfl)))
theorem TS {W : World} {base : Nat} : ∀ {ts : List TypeId} {vs : List Value} {ds : List (DataW H)} {ps : List MemPlace}, (∀ t ∈ ts, okT P 9 t = true) → (∀ (j : Nat) t v, ts[j]? = some t → vs[j]? = some v → Value.okWide P W .any base t v) →
  DataW.TrodAll enc P W 0 (fun _ => true) true ts vs ds ps → ∃ qs, Ins P ts qs ∧ qs.length = vs.length ∧ ∀ (j : Nat) (p : PV) (v : Value), qs[j]? = some p → vs[j]? = some v → RV W (fun b _ => b < W.heap.size) (fun _ => none) v p
 | [], [], [], _, _, _, _ => ⟨[], ⟨rfl, by simp [WFL], rfl⟩, rfl, fun j p v hp => by simp at hp⟩
 | t :: ts, v :: vs, d :: ds, ps, ht, hv, h => by
  obtain ⟨p, q, ⟨fuel, h1⟩, h2, rfl⟩ := h
  obtain ⟨x, hx⟩ := Fp 9 t fuel _ _ (ht t (by simp)) h1
  obtain ⟨qs, g1, g2, g3⟩ := TS (fun t' h' => ht t' (by simp [h'])) (fun j t' v' hj hj' => hv (j + 1) t' v' (by simpa using hj) (by simpa using hj')) h2
  refine ⟨x :: qs, ⟨by simp only [List.map_cons, Fs, Bool.and_eq_true]; exact ⟨hx.conf, g1.conf⟩, by simp only [WFL]; exact ⟨hx.wf, g1.wf⟩, by simp only [Bz, Bool.and_eq_true]; exact ⟨hx.untup, g1.untup⟩⟩, by simp [g2], fun j p' v' hp hv' => ?_⟩
  cases j with
  | zero =>
   simp at hp hv'
   subst hp; subst hv'
   exact TP (hv 0 t v rfl rfl) hx
  | succ j => simp at hp hv'; exact g3 j p' v' hp hv'
 | [], _ :: _, _, _, _, _, h => by simp [DataW.TrodAll] at h
 | [], [], _ :: _, _, _, _, h => by simp [DataW.TrodAll] at h
 | _ :: _, [], _, _, _, _, h => by simp [DataW.TrodAll] at h
 | _ :: _, _ :: _, [], _, _, _, h => by simp [DataW.TrodAll] at h
theorem NE {w w' : World} {M : T2} (hM : ∀ b o, ¬ M b o) (h : FR M w w') : Below w.heap.size w w' := by
 refine ⟨h.os, h.tape, h.output, h.size, fun k hk => ?_⟩
 rcases h.block k hk with e | ⟨_, _, _, _, _, _, m3⟩ | ⟨cs, cs', t, fz, e1, e2, e3, e4⟩
 ·exact e.symm
 ·exact absurd m3 (hM k 0)
 ·rw [e1, e2]
  have : cs' = cs := by
   apply Array.ext_getElem?
   intro i
   exact e4 i (hM k i)
  rw [this]
theorem law_calls {f : FuncId} {fn : Func} {s : ChangeSpec} {apart fresh handsOn again : Bool} {tb : TypeId} (hl : laidOutB P = true) (hvars : s.vars = []) (hr : fn.resultTypes = #[tb]) (hb : P.underlying tb = some .bool)
  (hbody : MB P f) (hspec : ∀ ds : List (DataW H), ds.length = fn.params.toList.length → s.fn H ds = { results := [.lit (.bool true)], args := ds })
  (ht : fn.params.toList.all (fun t => okT P 9 t && P.readableRec t && Nat.blt t P.types.size) = true)
  (hpc : ∀ ps, Ins P fn.params.toList ps → PC P (fun _ => none) f [] ps [] (.bool true))
  {W : World} {base : Nat} {args : Array Value} {ds gs : List (DataW H)} {before : List MemPlace}
  (hval : ∀ (j : Nat) t v, fn.params[j]? = some t → args[j]? = some v → Value.okWide P W .any base t v)
  (hW : DataW.Whole enc P fn.params.toList s.vars apart W args.toList ds gs before) :
  Calls P f args W fun e W' => ∃ v, e = .returned v ∧ s.post enc P fn apart fresh handsOn again W args v W' := by
 have ht' : ∀ t ∈ fn.params.toList, okT P 9 t = true ∧ P.readableRec t = true ∧ t < P.types.size := by
  intro t h
  have := List.all_eq_true.1 ht t h
  simp only [Bool.and_eq_true] at this
  exact ⟨this.1.1, this.1.2, Nat.blt_eq ▸ this.2⟩
 have hW' := hW
 obtain ⟨p, q, hA, hV, rfl, hz, hn⟩ := hW
 rw [hvars] at hV
 obtain ⟨rfl, rfl⟩ := trodVars_none hV
 obtain ⟨l1, l2⟩ := trodAll_length hA
 obtain ⟨qs, g1, g2, g3⟩ := TS (base := base) (fun t h => (ht' t h).1) (fun j t v h1 h2 => hval j t v (by rw [← Array.getElem?_toList]; exact h1) (by rw [← Array.getElem?_toList]; exact h2)) hA
 have hM : ∀ b o, ¬ Mut (fun _ => none) (Ad ([] : List (Nat × Row))) b o := by
  rintro b o ⟨i, r, pl, h1, _⟩
  simp [Ad] at h1
 have hc := hpc qs g1
 refine Calls.mono (Enters.calls hbody (hc (fun b _ => b < W.heap.size) (fun _ => none) W args (fun b o _ => hM b o) ⟨fun i r hi => by simp [Ad] at hi, fun i i' r r' pl pl' _ h1 => by simp [Ad] at h1⟩ (fun _ _ => rfl) (fun g c hg => by cases hg)
  (by rw [g2]; simp) (fun j p v hp hv _ => g3 j p v hp (by rw [Array.getElem?_toList]; exact hv)))) fun e W' he => ?_
 obtain ⟨v, ρ', rfl, r1, _, _, r4, _⟩ := he
 have hvb : v = .bool true := by
  have := r1.AY rfl (fun _ e => by cases e)
  simp only [RO] at this
  cases this
  rfl
 subst hvb
 have hbel := NE hM r4
 have hsp := hspec ds l2
 refine ⟨_, rfl, Pf (pa := p) (pv := []) hW' ?_ ?_ ?_ (by simp) hbel ?_⟩
 ·intro b sp hd
  rw [List.append_nil, hsp, hr]
  exact trodAll_mk1 (shut_bool hb true)
 ·intro sp hs
  rw [List.append_nil, hsp]
  exact Gm hl hbel (fun t h => (ht' t h).2) hA (fun x hx => hs x (by simp [hx]))
 ·intro sp hs
  rw [List.append_nil, hsp, hvars]
  rfl
 ·rw [hr]
  exact ok_one (f := { fn with resultTypes := #[tb] }) rfl rfl (okWide_bool_mk hb true)
end
end Go.Pe
