/- Merged texts: the pure machine and what the walks show. Conditions: as each statement says. -/
import Derived.Test.YtnabpdadlgofoaaQ4
set_option linter.unusedSimpArgs false
set_option linter.unusedVariables false
namespace Go.Proofs
open Go Go.Pe Go.Pm
set_option maxRecDepth 100000
set_option linter.unusedVariables false
attribute [local irreducible] lv
def bwR (id k n : Nat) : Row := ⟨.st 2 [.ref id [] 1 0 k, .int .i64 n], false⟩
def bwE : Row := ⟨.st 2 [.vec true (.iarr .u8 0 []), .int .i64 0], false⟩
def bwB (k : Nat) (l : List Int) : Row := ⟨.iarr .u8 k l, false⟩
def bwS (n x : Nat) (l : List Int) : List Int := l.set (n / 8) (((at0 l (n / 8) ||| x % 2 * 2 ^ (7 - n % 8) % 256 : Nat) : Nat) : Int)
theorem TK : Pt 47 [] [] [(0, bwE)] (.at 0 []) := by
 refine pO Try.func47 (by kernel_rfl) ?_
 refine W.rtA [] [(96, 0)] [] trivial
theorem pc_oneC {n k x : Nat} {l : Liz} (hb : Bytes l) (hl : l.length = k) (hn : n ≤ 10000000) (h8 : n % 8 ≠ 0) (hk : n / 8 < k) (hx : x < 18446744073709551616) :
  Pt 88 [(0, bwR 1 k n), (1, bwB k l)] [.at 0 [], .int .u64 x] [(0, bwR 1 k (n + 1)), (1, bwB k (bwS n x l))] (.tup []) := by
 refine pO Try.func88 (by kernel_rfl) ?_
 obtain ⟨e, h1⟩ := hb.get (n / 8)
 have he : (7 : Int) - ((n % 8 : Nat) : Int) = ((7 - n % 8 : Nat) : Int) := by omega
 have h2 : x % 2 * 2 ^ (7 - n % 8) % 256 < 256 := Nat.mod_lt _ (by decide)
 have h7 : n % 8 < 8 := Nat.mod_lt _ (by decide)
 have h3 : at0 l (n / 8) ||| x % 2 * 2 ^ (7 - n % 8) % 256 < 256 := Nat.or_lt_two_pow (n := 8) h1 h2
 unfold bwS
 generalize 7 - n % 8 = j at *
 generalize at0 l (n / 8) = b at *
 refine W.rtA [(4, aV (I6 ↑(n % 8))), (5, aF), (14, aV (I6 ↑(n / 8))), (15, aV (PV.at 1 [Stp.idx (n / 8) 1])), (16, aV (U8 b)), (18, aV (U6 ↑(x % 2))), (19, aV (U8 ↑(x % 2))), (24, aV (I6 ↑(n % 8))), (25, aV (I6 j)), (26, aV (U8 ↑(x % 2 * 2 ^ j % 256))), (27, aV (U8 ↑(b ||| x % 2 * 2 ^ j % 256))), (28, aV (PV.at 1 [Stp.idx (n / 8) 1])), (34, aV (I6 ↑(n + 1)))] [(0, 0), (1, 1)] [I6 (Int.tmod (n:Int) (8 : Int)) = I6 ↑(n % 8), (8 : Int) ≠ 0, ((↑(n % 8) : Int) == 0) = false, I6 (IntKind.wrap .i64 (Int.tdiv (n:Int) (8 : Int))) = I6 ↑(n / 8), (8 : Int) ≠ 0, PV.at 1 [Stp.idx (0 + Int.toNat (↑(n / 8) : Int)) 1] = PV.at 1 [Stp.idx (n / 8) 1], 0 ≤ (↑(n / 8) : Int), (↑(n / 8) : Int) < (k:Int), U8 (List.getD l (n / 8) (0 : Int)) = U8 b, n / 8 < k, U6 (bits BinOp.and .u64 (x:Int) (1 : Int)) = U6 ↑(x % 2), U8 (IntKind.wrap .u8 (↑(x % 2) : Int)) = U8 ↑(x % 2), I6 (Int.tmod (n:Int) (8 : Int)) = I6 ↑(n % 8), (8 : Int) ≠ 0, I6 (IntKind.wrap .i64 (7 - (↑(n % 8) : Int))) = I6 j, U8 (IntKind.wrap .u8 ((↑(x % 2) : Int) * (2 : Int) ^ min j 8)) = U8 ↑(x % 2 * 2 ^ j % 256), 0 ≤ (j:Int), U8 (bits BinOp.or .u8 (b:Int) (↑(x % 2 * 2 ^ j % 256) : Int)) = U8 ↑(b ||| x % 2 * 2 ^ j % 256), PV.at 1 [Stp.idx (0 + Int.toNat (↑(n / 8) : Int)) 1] = PV.at 1 [Stp.idx (n / 8) 1], 0 ≤ (↑(n / 8) : Int), (↑(n / 8) : Int) < (k:Int), n / 8 < k, I6 (IntKind.wrap .i64 ((n:Int) + 1)) = I6 ↑(n + 1)] (ac (cg rfl) (ac (by omega) (ac (dF (by omega)) (ac (wj (by omega)) (ac (by omega) (ac (by (rw [show Int.toNat (↑(n / 8) : Int) = n / 8 by omega]; simp only [Nat.zero_add])) (ob2 (by omega) (ac (cg (e)) (ac (by omega) (ac (cg (D7 1 rfl rfl (by omega) (by decide))) (ac (cg (MG rfl (by omega) (by omega))) (ac (cg rfl) (ac (by omega) (ac (cg (Ab he (by omega) (by omega))) (ac (cg (shl_u8 (y := ((j : Nat) : Int)) rfl rfl)) (ac (by omega) (ac (cg (Qb rfl rfl (by omega) (by omega))) (ac (by (rw [show Int.toNat (↑(n / 8) : Int) = n / 8 by omega]; simp only [Nat.zero_add])) (ob3 (by omega) (ao (wj (by omega))))))))))))))))))))))
theorem pc_oneA {x : Nat} (hx : x < 18446744073709551616) :
  Pt 88 [(0, bwE)] [.at 0 [], .int .u64 x] [(0, bwR 1 1 1), (1, bwB 1 [((x % 2 * 128 : Nat) : Int)])] (.tup []) := by
 refine pO Try.func88 (by kernel_rfl) ?_
 have h0 : bits .or .u8 0 (((x % 2 : Nat) : Int) * 2 ^ 7) = ((x % 2 * 128 : Nat) : Int) := by
  have := Qb (x := 0) (y := ((x % 2 : Nat) : Int) * 2 ^ 7) (a := 0) (b := x % 2 * 128) rfl (by omega) (by omega) (by omega)
  rw [Nat.zero_or] at this
  exact this
 refine W.rtA [(4, aV (I6 ↑(0 % 8))), (24, aV (I6 ↑(0 / 8 : Nat))), (28, aV (U6 ↑(x % 2))), (29, aV (U8 ↑(x % 2))), (34, aV (I6 ↑(0 % 8))), (35, aV (I6 7)), (36, aV (U8 ((↑(x % 2) : Int) * (2 : Int) ^ 7))), (37, aV (U8 ↑(x % 2 * 128))), (44, aV (I6 1))] [(0, 0), (256, 1)] [I6 (Int.tmod (0 : Int) (8 : Int)) = I6 ↑(0 : Nat), (8 : Int) ≠ 0, 1 ≤ 1, 0 < 1, 1 ≤ 140737488355328, 1 ≤ 9223372036854775807, I6 (IntKind.wrap .i64 (Int.tdiv (0 : Int) (8 : Int))) = I6 ↑(0 : Nat), (8 : Int) ≠ 0, 0 ≤ (↑(0 : Nat) : Int), (↑(0 : Nat) : Int) < (↑(1 : Nat) : Int), 0 < 1, U6 (bits BinOp.and .u64 (x:Int) (1 : Int)) = U6 ↑(x % 2), U8 (IntKind.wrap .u8 (↑(x % 2) : Int)) = U8 ↑(x % 2), I6 (Int.tmod (0 : Int) (8 : Int)) = I6 ↑(0 : Nat), (8 : Int) ≠ 0, I6 (IntKind.wrap .i64 (7 - (↑(0 : Nat) : Int))) = I6 7, U8 (IntKind.wrap .u8 ((↑(x % 2) : Int) * (2 : Int) ^ 7)) = U8 ((↑(x % 2) : Int) * (2 : Int) ^ 7), (0 : Int) ≤ 7, U8 (bits BinOp.or .u8 (0 : Int) ((↑(x % 2) : Int) * (2 : Int) ^ 7)) = U8 ↑(x % 2 * 128), 0 ≤ (↑(0 : Nat) : Int), (↑(0 : Nat) : Int) < (↑(1 : Nat) : Int), 0 < 1, I6 (IntKind.wrap .i64 ((0 : Int) + (1 : Int))) = I6 1] (ac rfl (ob4 (by omega) (ac (by omega) (ac rfl (ob4 (by omega) (ac (cg (D7 1 rfl rfl (by omega) (by decide))) (ac (cg (MG rfl (by omega) (by omega))) (ac rfl (ac (by omega) (ac (wj (by omega)) (ac (cg (MG rfl (by omega) (by omega))) (ac (by omega) (ac (cg (h0)) (ob3 (by omega) (ao (wj (by omega)))))))))))))))))
theorem pc_oneB {n k x : Nat} {l : Liz} (hb : Bytes l) (hl : l.length = k) (hn : k ≤ 1000000) (h8 : n = 8 * k) (hk : 0 < k) (hx : x < 18446744073709551616) :
  Pt 88 [(0, bwR 1 k n), (1, bwB k l)] [.at 0 [], .int .u64 x] [(0, bwR 2 (k + 1) (n + 1)), (2, bwB (k + 1) (l ++ [((x % 2 * 128 : Nat) : Int)]))] (.tup []) := by
 refine pO Try.func88 (by kernel_rfl) ?_
 have h0 : bits .or .u8 0 (((x % 2 : Nat) : Int) * 2 ^ 7) = ((x % 2 * 128 : Nat) : Int) := by
  have := Qb (x := 0) (y := ((x % 2 : Nat) : Int) * 2 ^ 7) (a := 0) (b := x % 2 * 128) rfl (by omega) (by omega) (by omega)
  rw [Nat.zero_or] at this
  exact this
 have e1 : ((n % 8 : Nat) : Int) = 0 := by omega
 have e2 : ((n / 8 : Nat) : Int) = (k : Int) := by omega
 have e3 : (l ++ [(0 : Int)]).getD k 0 = 0 := by simp [List.getD_eq_getElem?_getD, ← hl]
 have e4 : (l ++ [(0 : Int)]).set k ((x % 2 * 128 : Nat) : Int) = l ++ [((x % 2 * 128 : Nat) : Int)] := by rw [← hl]; simp
 refine W.ret [(4, aV (I6 0)), (12, Ans.ups [(1, none), (256, some (Row.mk (B8 (k + 1) (l ++ [0])) false))]), (24, aV (I6 k)), (25, aV (PV.at 256 [Stp.idx k 1])), (26, aV (U8 0)), (28, aV (U6 ↑(x % 2))), (29, aV (U8 ↑(x % 2))), (34, aV (I6 0)), (35, aV (I6 7)), (36, aV (U8 ((↑(x % 2) : Int) * (2 : Int) ^ 7))), (37, aV (U8 ↑(x % 2 * 128))), (38, aV (PV.at 256 [Stp.idx k 1])), (44, aV (I6 ↑(n + 1)))] [(0, 0), (1, 1), (256, 2)] [I6 (Int.tmod (n:Int) (8 : Int)) = I6 0, (8 : Int) ≠ 0, ([(1, none), (256, some (Row.mk (B8 (k + 1) (List.take k l ++ [0])) false))] : List (Nat × Option Row)) = [(1, none), (256, some (Row.mk (B8 (k + 1) (l ++ [0])) false))], 1 ≤ 1, 0 + k = k, (k + 1) * 1 ≤ 140737488355328, k + 1 ≤ 9223372036854775807, I6 (IntKind.wrap .i64 (Int.tdiv (n:Int) (8 : Int))) = I6 k, (8 : Int) ≠ 0, PV.at 256 [Stp.idx (0 + k) 1] = PV.at 256 [Stp.idx k 1], 0 ≤ (k:Int), (k:Int) < (↑(k + 1) : Int), U8 (List.getD (l ++ [0]) k (0 : Int)) = U8 0, k < k + 1, U6 (bits BinOp.and .u64 (x:Int) (1 : Int)) = U6 ↑(x % 2), U8 (IntKind.wrap .u8 (↑(x % 2) : Int)) = U8 ↑(x % 2), I6 (Int.tmod (n:Int) (8 : Int)) = I6 0, (8 : Int) ≠ 0, I6 (IntKind.wrap .i64 ((7 : Int) - (0 : Int))) = I6 7, U8 (IntKind.wrap .u8 ((↑(x % 2) : Int) * (2 : Int) ^ 7)) = U8 ((↑(x % 2) : Int) * (2 : Int) ^ 7), (0 : Int) ≤ 7, U8 (bits BinOp.or .u8 (0 : Int) ((↑(x % 2) : Int) * (2 : Int) ^ 7)) = U8 ↑(x % 2 * 128), PV.at 256 [Stp.idx (0 + k) 1] = PV.at 256 [Stp.idx k 1], 0 ≤ (k:Int), (k:Int) < (↑(k + 1) : Int), k < k + 1, I6 (IntKind.wrap .i64 ((n:Int) + 1)) = I6 ↑(n + 1), rr (PV.st 2 [PV.ref 2 [] 1 0 (k + 1), I6 ↑(n + 1)]), B8 (k + 1) (List.set (l ++ [0]) k (↑(x % 2 * 128) : Int)) = B8 (k + 1) (l ++ [(↑(x % 2 * 128) : Int)]), rr (PV.tup [])] (by kernel_rfl) (ac (cg (e1)) (ac (by omega) (ac (by rw [List.take_of_length_le (show List.length l ≤ k by omega)]) (ac (by omega) (ac (by omega) (ob2 (by omega) (ac (cg (Ab e2 (by omega) (by omega))) (ac (by omega) (ac (by simp only [Nat.zero_add]) (ob2 (by omega) (ac (cg (e3)) (ac (by omega) (ac (cg (D7 1 rfl rfl (by omega) (by decide))) (ac (cg (MG rfl (by omega) (by omega))) (ac (cg (e1)) (ac (by omega) (ac (wj (by omega)) (ac (cg (MG rfl (by omega) (by omega))) (ac (by omega) (ac (cg (h0)) (ac (by simp only [Nat.zero_add]) (ob3 (by omega) (ac (wj (by omega)) (ac rfl (ac (by (simp [*]; done)) (ao rfl))))))))))))))))))))))))))
 all_goals rw [e4]
end Go.Proofs
namespace Go.Proofs
open Go Go.Pe Go.Pm
set_option maxRecDepth 100000
set_option linter.unusedVariables false
attribute [local irreducible] lv
theorem Uj {q i : Nat} {n k n2 k2 : Nat} {l l2 : Liz} {hout : Lrz} (hi : i < q) (hq : q ≤ 65536) (hn : n ≤ 10000000) (hn2 : n2 ≤ 10000000) (c1 : Pt 88 [(0, bwE)] [.at 0 [], .int .u64 1] [(0, bwR 1 k2 n2), (1, bwB k2 l2)] (.tup [])) (hw : Wt Try.f76 [0] hout (.tup []) (Aa Try.f76 0) (⟨[(0, .at 0 []), (6, .int .i64 q), (7, .int .i64 ((i + 1 : Nat) : Int))], [(0, bwR 1 k2 n2), (1, bwB k2 l2)]⟩ : DS)) : Wt Try.f76 [0] hout (.tup []) (Aa Try.f76 0) (⟨[(0, .at 0 []), (6, .int .i64 q), (7, .int .i64 (i : Int))], [(0, bwE)]⟩ : DS) := by
 refine W.sgA 0 [(0, aT), (2, cC true [(0, 0)] c1), (3, aV (I6 ↑(i + 1)))] [(0, 0), (97, 1)] (⟨[(0, .at 0 []), (6, .int .i64 q), (7, .int .i64 ((i + 1 : Nat) : Int))], [(0, bwR 1 k2 n2), (1, bwB k2 l2)]⟩ : DS) [decide ((i:Int) < (q:Int)) = true, _, I6 (IntKind.wrap .i64 ((i:Int) + 1)) = I6 ↑(i + 1)] (ac (dT (by omega)) (ac (c1) (ao (wj (by omega))))) ?_
 exact hw
theorem Ut {q i : Nat} {n k n2 k2 : Nat} {l l2 : Liz} {hout : Lrz} (hi : i < q) (hq : q ≤ 65536) (hn : n ≤ 10000000) (hn2 : n2 ≤ 10000000) (c1 : Pt 88 [(0, bwR 1 k n), (1, bwB k l)] [.at 0 [], .int .u64 1] [(0, bwR 1 k2 n2), (1, bwB k2 l2)] (.tup [])) (hw : Wt Try.f76 [0] hout (.tup []) (Aa Try.f76 0) (⟨[(0, .at 0 []), (6, .int .i64 q), (7, .int .i64 ((i + 1 : Nat) : Int))], [(0, bwR 1 k2 n2), (1, bwB k2 l2)]⟩ : DS)) : Wt Try.f76 [0] hout (.tup []) (Aa Try.f76 0) (⟨[(0, .at 0 []), (6, .int .i64 q), (7, .int .i64 (i : Int))], [(0, bwR 1 k n), (1, bwB k l)]⟩ : DS) := by
 refine W.sgA 0 [(0, aT), (2, cC true [(0, 0), (1, 1)] c1), (3, aV (I6 ↑(i + 1)))] [(0, 0), (1, 1)] (⟨[(0, .at 0 []), (6, .int .i64 q), (7, .int .i64 ((i + 1 : Nat) : Int))], [(0, bwR 1 k2 n2), (1, bwB k2 l2)]⟩ : DS) [decide ((i:Int) < (q:Int)) = true, _, I6 (IntKind.wrap .i64 ((i:Int) + 1)) = I6 ↑(i + 1)] (ac (dT (by omega)) (ac (c1) (ao (wj (by omega))))) ?_
 exact hw
theorem TL {q i : Nat} {n k n2 k2 : Nat} {l l2 : Liz} {hout : Lrz} (hi : i < q) (hq : q ≤ 65536) (hn : n ≤ 10000000) (hn2 : n2 ≤ 10000000) (c1 : Pt 88 [(0, bwR 1 k n), (1, bwB k l)] [.at 0 [], .int .u64 1] [(0, bwR 2 k2 n2), (2, bwB k2 l2)] (.tup [])) (hw : Wt Try.f76 [0] hout (.tup []) (Aa Try.f76 0) (⟨[(0, .at 0 []), (6, .int .i64 q), (7, .int .i64 ((i + 1 : Nat) : Int))], [(0, bwR 1 k2 n2), (1, bwB k2 l2)]⟩ : DS)) : Wt Try.f76 [0] hout (.tup []) (Aa Try.f76 0) (⟨[(0, .at 0 []), (6, .int .i64 q), (7, .int .i64 (i : Int))], [(0, bwR 1 k n), (1, bwB k l)]⟩ : DS) := by
 refine W.sgA 0 [(0, aT), (2, cC true [(0, 0), (1, 1)] c1), (3, aV (I6 ↑(i + 1)))] [(0, 0), (98, 1)] (⟨[(0, .at 0 []), (6, .int .i64 q), (7, .int .i64 ((i + 1 : Nat) : Int))], [(0, bwR 1 k2 n2), (1, bwB k2 l2)]⟩ : DS) [decide ((i:Int) < (q:Int)) = true, _, I6 (IntKind.wrap .i64 ((i:Int) + 1)) = I6 ↑(i + 1)] (ac (dT (by omega)) (ac (c1) (ao (wj (by omega))))) ?_
 exact hw
theorem OU {q i : Nat} {n k n2 k2 : Nat} {l l2 : Liz} {hout : Lrz} (hi : i < q) (hq : q ≤ 65536) (hn : n ≤ 10000000) (hn2 : n2 ≤ 10000000) (c1 : Pt 88 [(0, bwR 1 k n), (1, bwB k l)] [.at 0 [], .int .u64 1] [(0, bwR 1 k2 n2), (1, bwB k2 l2)] (.tup [])) (hw : Wt Try.f76 [0, 1] hout (.tup []) (Aa Try.f76 0) (⟨[(0, .at 0 []), (6, .int .i64 q), (7, .int .i64 ((i + 1 : Nat) : Int))], [(0, bwR 1 k2 n2), (1, bwB k2 l2)]⟩ : DS)) : Wt Try.f76 [0, 1] hout (.tup []) (Aa Try.f76 0) (⟨[(0, .at 0 []), (6, .int .i64 q), (7, .int .i64 (i : Int))], [(0, bwR 1 k n), (1, bwB k l)]⟩ : DS) := by
 refine W.sgA 0 [(0, aT), (2, cC true [(0, 0), (1, 1)] c1), (3, aV (I6 ↑(i + 1)))] [(0, 0), (1, 1)] (⟨[(0, .at 0 []), (6, .int .i64 q), (7, .int .i64 ((i + 1 : Nat) : Int))], [(0, bwR 1 k2 n2), (1, bwB k2 l2)]⟩ : DS) [decide ((i:Int) < (q:Int)) = true, _, I6 (IntKind.wrap .i64 ((i:Int) + 1)) = I6 ↑(i + 1)] (ac (dT (by omega)) (ac (c1) (ao (wj (by omega))))) ?_
 exact hw
theorem UV {q i : Nat} {n k n2 k2 : Nat} {l l2 : Liz} {hout : Lrz} (hi : i < q) (hq : q ≤ 65536) (hn : n ≤ 10000000) (hn2 : n2 ≤ 10000000) (c1 : Pt 88 [(0, bwR 1 k n), (1, bwB k l)] [.at 0 [], .int .u64 1] [(0, bwR 2 k2 n2), (2, bwB k2 l2)] (.tup [])) (hw : Wt Try.f76 [0, 1] hout (.tup []) (Aa Try.f76 0) (⟨[(0, .at 0 []), (6, .int .i64 q), (7, .int .i64 ((i + 1 : Nat) : Int))], [(0, bwR 2 k2 n2), (2, bwB k2 l2)]⟩ : DS)) : Wt Try.f76 [0, 1] hout (.tup []) (Aa Try.f76 0) (⟨[(0, .at 0 []), (6, .int .i64 q), (7, .int .i64 (i : Int))], [(0, bwR 1 k n), (1, bwB k l)]⟩ : DS) := by
 refine W.sgA 0 [(0, aT), (2, cC true [(0, 0), (1, 1)] c1), (3, aV (I6 ↑(i + 1)))] [(0, 0), (1, 1), (98, 2)] (⟨[(0, .at 0 []), (6, .int .i64 q), (7, .int .i64 ((i + 1 : Nat) : Int))], [(0, bwR 2 k2 n2), (2, bwB k2 l2)]⟩ : DS) [decide ((i:Int) < (q:Int)) = true, _, I6 (IntKind.wrap .i64 ((i:Int) + 1)) = I6 ↑(i + 1)] (ac (dT (by omega)) (ac (c1) (ao (wj (by omega))))) ?_
 exact hw
theorem SH {q i : Nat} {n k n2 k2 : Nat} {l l2 : Liz} {hout : Lrz} (hi : i < q) (hq : q ≤ 65536) (hn : n ≤ 10000000) (hn2 : n2 ≤ 10000000) (c1 : Pt 88 [(0, bwR 1 k n), (1, bwB k l)] [.at 0 [], .int .u64 1] [(0, bwR 1 k2 n2), (1, bwB k2 l2)] (.tup [])) (hw : Wt Try.f76 [0, 1] hout (.tup []) (Aa Try.f76 0) (⟨[(0, .at 0 []), (6, .int .i64 q), (7, .int .i64 ((i + 1 : Nat) : Int))], [(0, bwR 2 k2 n2), (2, bwB k2 l2)]⟩ : DS)) : Wt Try.f76 [0, 1] hout (.tup []) (Aa Try.f76 0) (⟨[(0, .at 0 []), (6, .int .i64 q), (7, .int .i64 (i : Int))], [(0, bwR 2 k n), (2, bwB k l)]⟩ : DS) := by
 refine W.sgA 0 [(0, aT), (2, cC true [(0, 0), (2, 1)] c1), (3, aV (I6 ↑(i + 1)))] [(0, 0), (1, 1), (2, 2)] (⟨[(0, .at 0 []), (6, .int .i64 q), (7, .int .i64 ((i + 1 : Nat) : Int))], [(0, bwR 2 k2 n2), (2, bwB k2 l2)]⟩ : DS) [decide ((i:Int) < (q:Int)) = true, _, I6 (IntKind.wrap .i64 ((i:Int) + 1)) = I6 ↑(i + 1)] (ac (dT (by omega)) (ac (c1) (ao (wj (by omega))))) ?_
 exact hw
theorem Ul {q i : Nat} {n k n2 k2 : Nat} {l l2 : Liz} {hout : Lrz} (hi : i < q) (hq : q ≤ 65536) (hn : n ≤ 10000000) (hn2 : n2 ≤ 10000000) (c1 : Pt 88 [(0, bwR 1 k n), (1, bwB k l)] [.at 0 [], .int .u64 1] [(0, bwR 2 k2 n2), (2, bwB k2 l2)] (.tup [])) (hw : Wt Try.f76 [0, 1] hout (.tup []) (Aa Try.f76 0) (⟨[(0, .at 0 []), (6, .int .i64 q), (7, .int .i64 ((i + 1 : Nat) : Int))], [(0, bwR 2 k2 n2), (2, bwB k2 l2)]⟩ : DS)) : Wt Try.f76 [0, 1] hout (.tup []) (Aa Try.f76 0) (⟨[(0, .at 0 []), (6, .int .i64 q), (7, .int .i64 (i : Int))], [(0, bwR 2 k n), (2, bwB k l)]⟩ : DS) := by
 refine W.sgA 0 [(0, aT), (2, cC true [(0, 0), (2, 1)] c1), (3, aV (I6 ↑(i + 1)))] [(0, 0), (1, 1), (98, 2)] (⟨[(0, .at 0 []), (6, .int .i64 q), (7, .int .i64 ((i + 1 : Nat) : Int))], [(0, bwR 2 k2 n2), (2, bwB k2 l2)]⟩ : DS) [decide ((i:Int) < (q:Int)) = true, _, I6 (IntKind.wrap .i64 ((i:Int) + 1)) = I6 ↑(i + 1)] (ac (dT (by omega)) (ac (c1) (ao (wj (by omega))))) ?_
 exact hw
theorem W_bwOXE {q : Nat} {n k : Nat} {l : Liz} : Wt Try.f76 [0] [(0, bwE)] (.tup []) (Aa Try.f76 0) (⟨[(0, .at 0 []), (6, .int .i64 q), (7, .int .i64 (q : Int))], [(0, bwE)]⟩ : DS) := by
 refine W.rtA [(0, aF)] [(0, 0)] [decide ((q:Int) < (q:Int)) = false] (ao (dF (by omega)))
theorem W_bwOX0 {q : Nat} {n k : Nat} {l : Liz} : Wt Try.f76 [0] [(0, bwR 1 k n), (1, bwB k l)] (.tup []) (Aa Try.f76 0) (⟨[(0, .at 0 []), (6, .int .i64 q), (7, .int .i64 (q : Int))], [(0, bwR 1 k n), (1, bwB k l)]⟩ : DS) := by
 refine W.rtA [(0, aF)] [(0, 0), (1, 1)] [decide ((q:Int) < (q:Int)) = false] (ao (dF (by omega)))
theorem W_bwOX1 {q : Nat} {n k : Nat} {l : Liz} : Wt Try.f76 [0, 1] [(0, bwR 1 k n), (1, bwB k l)] (.tup []) (Aa Try.f76 0) (⟨[(0, .at 0 []), (6, .int .i64 q), (7, .int .i64 (q : Int))], [(0, bwR 1 k n), (1, bwB k l)]⟩ : DS) := by
 refine W.rtA [(0, aF)] [(0, 0), (1, 1)] [decide ((q:Int) < (q:Int)) = false] (ao (dF (by omega)))
theorem W_bwOX2 {q : Nat} {n k : Nat} {l : Liz} : Wt Try.f76 [0, 1] [(0, bwR 2 k n), (2, bwB k l)] (.tup []) (Aa Try.f76 0) (⟨[(0, .at 0 []), (6, .int .i64 q), (7, .int .i64 (q : Int))], [(0, bwR 2 k n), (2, bwB k l)]⟩ : DS) := by
 refine W.rtA [(0, aF)] [(0, 0), (1, 1), (2, 2)] [decide ((q:Int) < (q:Int)) = false] (ao (dF (by omega)))
theorem Lg {q n k : Nat} {l : Liz} {hout : Lrz} (hq : q ≤ 65536) (hw : Wt Try.f76 [0] hout (.tup []) (Aa Try.f76 0) (⟨[(0, .at 0 []), (6, .int .i64 q), (7, .int .i64 0)], [(0, bwE)]⟩ : DS)) : Pt 76 [(0, bwE)] [.at 0 [], .int .i64 q] hout (.tup []) := by
 refine pO Try.func76 (by kernel_rfl) ?_
 have hx : mx (q : Int) 0 = (q : Int) := by unfold mx; split <;> omega
 have hy : mn (q : Int) 65536 = (q : Int) := by unfold mn; split <;> omega
 refine W.sgA 0 [(1, aV (I6 q)), (2, aV (I6 q))] [(0, 0)] (⟨[(0, .at 0 []), (6, .int .i64 q), (7, .int .i64 0)], [(0, bwE)]⟩ : DS) [I6 (mx (q:Int) (0 : Int)) = I6 q, I6 (mn (q:Int) (65536 : Int)) = I6 q] (ac (cg (hx)) (ao (cg (hy)))) ?_
 exact hw
theorem Mc {q n k : Nat} {l : Liz} {hout : Lrz} (hq : q ≤ 65536) (hw : Wt Try.f76 [0, 1] hout (.tup []) (Aa Try.f76 0) (⟨[(0, .at 0 []), (6, .int .i64 q), (7, .int .i64 0)], [(0, bwR 1 k n), (1, bwB k l)]⟩ : DS)) : Pt 76 [(0, bwR 1 k n), (1, bwB k l)] [.at 0 [], .int .i64 q] hout (.tup []) := by
 refine pO Try.func76 (by kernel_rfl) ?_
 have hx : mx (q : Int) 0 = (q : Int) := by unfold mx; split <;> omega
 have hy : mn (q : Int) 65536 = (q : Int) := by unfold mn; split <;> omega
 refine W.sgA 0 [(1, aV (I6 q)), (2, aV (I6 q))] [(0, 0), (1, 1)] (⟨[(0, .at 0 []), (6, .int .i64 q), (7, .int .i64 0)], [(0, bwR 1 k n), (1, bwB k l)]⟩ : DS) [I6 (mx (q:Int) (0 : Int)) = I6 q, I6 (mn (q:Int) (65536 : Int)) = I6 q] (ac (cg (hx)) (ao (cg (hy)))) ?_
 exact hw
theorem SF {v i : Nat} {n k n2 k2 : Nat} {l l2 : Liz} {hout : Lrz} (hi : i < 64) (hv : v < 18446744073709551616) (hn : n ≤ 10000000) (hn2 : n2 ≤ 10000000) (c1 : Pt 88 [(0, bwE)] [.at 0 [], .int .u64 ((v / 2 ^ i : Nat) : Int)] [(0, bwR 1 k2 n2), (1, bwB k2 l2)] (.tup [])) (hw : Wt Try.f77 [0] hout (.tup []) (Aa Try.f77 0) (⟨[(0, .at 0 []), (1, .int .u64 v), (6, .int .i64 ((i : Int) - 1))], [(0, bwR 1 k2 n2), (1, bwB k2 l2)]⟩ : DS)) : Wt Try.f77 [0] hout (.tup []) (Aa Try.f77 0) (⟨[(0, .at 0 []), (1, .int .u64 v), (6, .int .i64 (i : Int))], [(0, bwE)]⟩ : DS) := by
 have hx : v / 2 ^ i < 18446744073709551616 := Nat.lt_of_le_of_lt (Nat.div_le_self _ _) hv
 refine W.sgA 0 [(5, aV (U6 ↑(v / 2 ^ i))), (6, cC true [(0, 0)] c1), (8, aV (I6 ((i:Int) - 1)))] [(0, 0), (161, 1)] (⟨[(0, .at 0 []), (1, .int .u64 v), (6, .int .i64 ((i : Int) - 1))], [(0, bwR 1 k2 n2), (1, bwB k2 l2)]⟩ : DS) [U6 (Int.fdiv (v:Int) ((2 : Int) ^ min i 64)) = U6 ↑(v / 2 ^ i), 0 ≤ (i:Int), _, I6 (IntKind.wrap .i64 ((i:Int) - 1)) = I6 ((i:Int) - 1)] (ac (cg (De rfl rfl (by omega))) (ac (by omega) (ac (c1) (ao (wj (by omega)))))) ?_
 exact hw
theorem Ua {v i : Nat} {n k n2 k2 : Nat} {l l2 : Liz} {hout : Lrz} (hi : i < 64) (hv : v < 18446744073709551616) (hn : n ≤ 10000000) (hn2 : n2 ≤ 10000000) (c1 : Pt 88 [(0, bwR 1 k n), (1, bwB k l)] [.at 0 [], .int .u64 ((v / 2 ^ i : Nat) : Int)] [(0, bwR 1 k2 n2), (1, bwB k2 l2)] (.tup [])) (hw : Wt Try.f77 [0] hout (.tup []) (Aa Try.f77 0) (⟨[(0, .at 0 []), (1, .int .u64 v), (6, .int .i64 ((i : Int) - 1))], [(0, bwR 1 k2 n2), (1, bwB k2 l2)]⟩ : DS)) : Wt Try.f77 [0] hout (.tup []) (Aa Try.f77 0) (⟨[(0, .at 0 []), (1, .int .u64 v), (6, .int .i64 (i : Int))], [(0, bwR 1 k n), (1, bwB k l)]⟩ : DS) := by
 have hx : v / 2 ^ i < 18446744073709551616 := Nat.lt_of_le_of_lt (Nat.div_le_self _ _) hv
 refine W.sgA 0 [(5, aV (U6 ↑(v / 2 ^ i))), (6, cC true [(0, 0), (1, 1)] c1), (8, aV (I6 ((i:Int) - 1)))] [(0, 0), (1, 1)] (⟨[(0, .at 0 []), (1, .int .u64 v), (6, .int .i64 ((i : Int) - 1))], [(0, bwR 1 k2 n2), (1, bwB k2 l2)]⟩ : DS) [U6 (Int.fdiv (v:Int) ((2 : Int) ^ min i 64)) = U6 ↑(v / 2 ^ i), 0 ≤ (i:Int), _, I6 (IntKind.wrap .i64 ((i:Int) - 1)) = I6 ((i:Int) - 1)] (ac (cg (De rfl rfl (by omega))) (ac (by omega) (ac (c1) (ao (wj (by omega)))))) ?_
 exact hw
theorem Us {v i : Nat} {n k n2 k2 : Nat} {l l2 : Liz} {hout : Lrz} (hi : i < 64) (hv : v < 18446744073709551616) (hn : n ≤ 10000000) (hn2 : n2 ≤ 10000000) (c1 : Pt 88 [(0, bwR 1 k n), (1, bwB k l)] [.at 0 [], .int .u64 ((v / 2 ^ i : Nat) : Int)] [(0, bwR 2 k2 n2), (2, bwB k2 l2)] (.tup [])) (hw : Wt Try.f77 [0] hout (.tup []) (Aa Try.f77 0) (⟨[(0, .at 0 []), (1, .int .u64 v), (6, .int .i64 ((i : Int) - 1))], [(0, bwR 1 k2 n2), (1, bwB k2 l2)]⟩ : DS)) : Wt Try.f77 [0] hout (.tup []) (Aa Try.f77 0) (⟨[(0, .at 0 []), (1, .int .u64 v), (6, .int .i64 (i : Int))], [(0, bwR 1 k n), (1, bwB k l)]⟩ : DS) := by
 have hx : v / 2 ^ i < 18446744073709551616 := Nat.lt_of_le_of_lt (Nat.div_le_self _ _) hv
 refine W.sgA 0 [(5, aV (U6 ↑(v / 2 ^ i))), (6, cC true [(0, 0), (1, 1)] c1), (8, aV (I6 ((i:Int) - 1)))] [(0, 0), (162, 1)] (⟨[(0, .at 0 []), (1, .int .u64 v), (6, .int .i64 ((i : Int) - 1))], [(0, bwR 1 k2 n2), (1, bwB k2 l2)]⟩ : DS) [U6 (Int.fdiv (v:Int) ((2 : Int) ^ min i 64)) = U6 ↑(v / 2 ^ i), 0 ≤ (i:Int), _, I6 (IntKind.wrap .i64 ((i:Int) - 1)) = I6 ((i:Int) - 1)] (ac (cg (De rfl rfl (by omega))) (ac (by omega) (ac (c1) (ao (wj (by omega)))))) ?_
 exact hw
theorem OI {v i : Nat} {n k n2 k2 : Nat} {l l2 : Liz} {hout : Lrz} (hi : i < 64) (hv : v < 18446744073709551616) (hn : n ≤ 10000000) (hn2 : n2 ≤ 10000000) (c1 : Pt 88 [(0, bwR 1 k n), (1, bwB k l)] [.at 0 [], .int .u64 ((v / 2 ^ i : Nat) : Int)] [(0, bwR 1 k2 n2), (1, bwB k2 l2)] (.tup [])) (hw : Wt Try.f77 [0, 1] hout (.tup []) (Aa Try.f77 0) (⟨[(0, .at 0 []), (1, .int .u64 v), (6, .int .i64 ((i : Int) - 1))], [(0, bwR 1 k2 n2), (1, bwB k2 l2)]⟩ : DS)) : Wt Try.f77 [0, 1] hout (.tup []) (Aa Try.f77 0) (⟨[(0, .at 0 []), (1, .int .u64 v), (6, .int .i64 (i : Int))], [(0, bwR 1 k n), (1, bwB k l)]⟩ : DS) := by
 have hx : v / 2 ^ i < 18446744073709551616 := Nat.lt_of_le_of_lt (Nat.div_le_self _ _) hv
 refine W.sgA 0 [(5, aV (U6 ↑(v / 2 ^ i))), (6, cC true [(0, 0), (1, 1)] c1), (8, aV (I6 ((i:Int) - 1)))] [(0, 0), (1, 1)] (⟨[(0, .at 0 []), (1, .int .u64 v), (6, .int .i64 ((i : Int) - 1))], [(0, bwR 1 k2 n2), (1, bwB k2 l2)]⟩ : DS) [U6 (Int.fdiv (v:Int) ((2 : Int) ^ min i 64)) = U6 ↑(v / 2 ^ i), 0 ≤ (i:Int), _, I6 (IntKind.wrap .i64 ((i:Int) - 1)) = I6 ((i:Int) - 1)] (ac (cg (De rfl rfl (by omega))) (ac (by omega) (ac (c1) (ao (wj (by omega)))))) ?_
 exact hw
theorem TE {v i : Nat} {n k n2 k2 : Nat} {l l2 : Liz} {hout : Lrz} (hi : i < 64) (hv : v < 18446744073709551616) (hn : n ≤ 10000000) (hn2 : n2 ≤ 10000000) (c1 : Pt 88 [(0, bwR 1 k n), (1, bwB k l)] [.at 0 [], .int .u64 ((v / 2 ^ i : Nat) : Int)] [(0, bwR 2 k2 n2), (2, bwB k2 l2)] (.tup [])) (hw : Wt Try.f77 [0, 1] hout (.tup []) (Aa Try.f77 0) (⟨[(0, .at 0 []), (1, .int .u64 v), (6, .int .i64 ((i : Int) - 1))], [(0, bwR 2 k2 n2), (2, bwB k2 l2)]⟩ : DS)) : Wt Try.f77 [0, 1] hout (.tup []) (Aa Try.f77 0) (⟨[(0, .at 0 []), (1, .int .u64 v), (6, .int .i64 (i : Int))], [(0, bwR 1 k n), (1, bwB k l)]⟩ : DS) := by
 have hx : v / 2 ^ i < 18446744073709551616 := Nat.lt_of_le_of_lt (Nat.div_le_self _ _) hv
 refine W.sgA 0 [(5, aV (U6 ↑(v / 2 ^ i))), (6, cC true [(0, 0), (1, 1)] c1), (8, aV (I6 ((i:Int) - 1)))] [(0, 0), (1, 1), (162, 2)] (⟨[(0, .at 0 []), (1, .int .u64 v), (6, .int .i64 ((i : Int) - 1))], [(0, bwR 2 k2 n2), (2, bwB k2 l2)]⟩ : DS) [U6 (Int.fdiv (v:Int) ((2 : Int) ^ min i 64)) = U6 ↑(v / 2 ^ i), 0 ≤ (i:Int), _, I6 (IntKind.wrap .i64 ((i:Int) - 1)) = I6 ((i:Int) - 1)] (ac (cg (De rfl rfl (by omega))) (ac (by omega) (ac (c1) (ao (wj (by omega)))))) ?_
 exact hw
theorem Tx {v i : Nat} {n k n2 k2 : Nat} {l l2 : Liz} {hout : Lrz} (hi : i < 64) (hv : v < 18446744073709551616) (hn : n ≤ 10000000) (hn2 : n2 ≤ 10000000) (c1 : Pt 88 [(0, bwR 1 k n), (1, bwB k l)] [.at 0 [], .int .u64 ((v / 2 ^ i : Nat) : Int)] [(0, bwR 1 k2 n2), (1, bwB k2 l2)] (.tup [])) (hw : Wt Try.f77 [0, 1] hout (.tup []) (Aa Try.f77 0) (⟨[(0, .at 0 []), (1, .int .u64 v), (6, .int .i64 ((i : Int) - 1))], [(0, bwR 2 k2 n2), (2, bwB k2 l2)]⟩ : DS)) : Wt Try.f77 [0, 1] hout (.tup []) (Aa Try.f77 0) (⟨[(0, .at 0 []), (1, .int .u64 v), (6, .int .i64 (i : Int))], [(0, bwR 2 k n), (2, bwB k l)]⟩ : DS) := by
 have hx : v / 2 ^ i < 18446744073709551616 := Nat.lt_of_le_of_lt (Nat.div_le_self _ _) hv
 refine W.sgA 0 [(5, aV (U6 ↑(v / 2 ^ i))), (6, cC true [(0, 0), (2, 1)] c1), (8, aV (I6 ((i:Int) - 1)))] [(0, 0), (1, 1), (2, 2)] (⟨[(0, .at 0 []), (1, .int .u64 v), (6, .int .i64 ((i : Int) - 1))], [(0, bwR 2 k2 n2), (2, bwB k2 l2)]⟩ : DS) [U6 (Int.fdiv (v:Int) ((2 : Int) ^ min i 64)) = U6 ↑(v / 2 ^ i), 0 ≤ (i:Int), _, I6 (IntKind.wrap .i64 ((i:Int) - 1)) = I6 ((i:Int) - 1)] (ac (cg (De rfl rfl (by omega))) (ac (by omega) (ac (c1) (ao (wj (by omega)))))) ?_
 exact hw
theorem TZ {v i : Nat} {n k n2 k2 : Nat} {l l2 : Liz} {hout : Lrz} (hi : i < 64) (hv : v < 18446744073709551616) (hn : n ≤ 10000000) (hn2 : n2 ≤ 10000000) (c1 : Pt 88 [(0, bwR 1 k n), (1, bwB k l)] [.at 0 [], .int .u64 ((v / 2 ^ i : Nat) : Int)] [(0, bwR 2 k2 n2), (2, bwB k2 l2)] (.tup [])) (hw : Wt Try.f77 [0, 1] hout (.tup []) (Aa Try.f77 0) (⟨[(0, .at 0 []), (1, .int .u64 v), (6, .int .i64 ((i : Int) - 1))], [(0, bwR 2 k2 n2), (2, bwB k2 l2)]⟩ : DS)) : Wt Try.f77 [0, 1] hout (.tup []) (Aa Try.f77 0) (⟨[(0, .at 0 []), (1, .int .u64 v), (6, .int .i64 (i : Int))], [(0, bwR 2 k n), (2, bwB k l)]⟩ : DS) := by
 have hx : v / 2 ^ i < 18446744073709551616 := Nat.lt_of_le_of_lt (Nat.div_le_self _ _) hv
 refine W.sgA 0 [(5, aV (U6 ↑(v / 2 ^ i))), (6, cC true [(0, 0), (2, 1)] c1), (8, aV (I6 ((i:Int) - 1)))] [(0, 0), (1, 1), (162, 2)] (⟨[(0, .at 0 []), (1, .int .u64 v), (6, .int .i64 ((i : Int) - 1))], [(0, bwR 2 k2 n2), (2, bwB k2 l2)]⟩ : DS) [U6 (Int.fdiv (v:Int) ((2 : Int) ^ min i 64)) = U6 ↑(v / 2 ^ i), 0 ≤ (i:Int), _, I6 (IntKind.wrap .i64 ((i:Int) - 1)) = I6 ((i:Int) - 1)] (ac (cg (De rfl rfl (by omega))) (ac (by omega) (ac (c1) (ao (wj (by omega)))))) ?_
 exact hw
theorem W_bwPX0 {v : Nat} {n k : Nat} {l : Liz} : Wt Try.f77 [0] [(0, bwR 1 k n), (1, bwB k l)] (.tup []) (Aa Try.f77 0) (⟨[(0, .at 0 []), (1, .int .u64 v), (6, .int .i64 (-1))], [(0, bwR 1 k n), (1, bwB k l)]⟩ : DS) := by
 refine W.rtA [] [(0, 0), (1, 1)] [] trivial
theorem W_bwPX1 {v : Nat} {n k : Nat} {l : Liz} : Wt Try.f77 [0, 1] [(0, bwR 1 k n), (1, bwB k l)] (.tup []) (Aa Try.f77 0) (⟨[(0, .at 0 []), (1, .int .u64 v), (6, .int .i64 (-1))], [(0, bwR 1 k n), (1, bwB k l)]⟩ : DS) := by
 refine W.rtA [] [(0, 0), (1, 1)] [] trivial
theorem W_bwPX2 {v : Nat} {n k : Nat} {l : Liz} : Wt Try.f77 [0, 1] [(0, bwR 2 k n), (2, bwB k l)] (.tup []) (Aa Try.f77 0) (⟨[(0, .at 0 []), (1, .int .u64 v), (6, .int .i64 (-1))], [(0, bwR 2 k n), (2, bwB k l)]⟩ : DS) := by
 refine W.rtA [] [(0, 0), (1, 1), (2, 2)] [] trivial
theorem Rk {v w n k : Nat} {l : Liz} {hout : Lrz} (hw0 : w + 1 ≤ 64) (hw : Wt Try.f77 [0] hout (.tup []) (Aa Try.f77 0) (⟨[(0, .at 0 []), (1, .int .u64 v), (6, .int .i64 (w : Int))], [(0, bwE)]⟩ : DS)) : Pt 77 [(0, bwE)] [.at 0 [], .int .u64 v, .int .i64 ((w + 1 : Nat) : Int)] hout (.tup []) := by
 refine pO Try.func77 (by kernel_rfl) ?_
 have hx : mx ((w + 1 : Nat) : Int) 0 = ((w + 1 : Nat) : Int) := by unfold mx; split <;> omega
 have hy : mn ((w + 1 : Nat) : Int) 64 = ((w + 1 : Nat) : Int) := by unfold mn; split <;> omega
 refine W.sgA 0 [(1, aV (I6 ↑(w + 1))), (2, aV (I6 ↑(w + 1))), (3, aV (I6 w))] [(0, 0)] (⟨[(0, .at 0 []), (1, .int .u64 v), (6, .int .i64 (w : Int))], [(0, bwE)]⟩ : DS) [I6 (mx (↑(w + 1) : Int) (0 : Int)) = I6 ↑(w + 1), I6 (mn (↑(w + 1) : Int) (64 : Int)) = I6 ↑(w + 1), I6 (IntKind.wrap .i64 ((↑(w + 1) : Int) - 1)) = I6 w] (ac (cg (hx)) (ac (cg (hy)) (ao (cg (Ab (by omega) (by omega) (by omega)))))) ?_
 exact hw
theorem I1 {v w n k : Nat} {l : Liz} {hout : Lrz} (hw0 : w + 1 ≤ 64) (hw : Wt Try.f77 [0, 1] hout (.tup []) (Aa Try.f77 0) (⟨[(0, .at 0 []), (1, .int .u64 v), (6, .int .i64 (w : Int))], [(0, bwR 1 k n), (1, bwB k l)]⟩ : DS)) : Pt 77 [(0, bwR 1 k n), (1, bwB k l)] [.at 0 [], .int .u64 v, .int .i64 ((w + 1 : Nat) : Int)] hout (.tup []) := by
 refine pO Try.func77 (by kernel_rfl) ?_
 have hx : mx ((w + 1 : Nat) : Int) 0 = ((w + 1 : Nat) : Int) := by unfold mx; split <;> omega
 have hy : mn ((w + 1 : Nat) : Int) 64 = ((w + 1 : Nat) : Int) := by unfold mn; split <;> omega
 refine W.sgA 0 [(1, aV (I6 ↑(w + 1))), (2, aV (I6 ↑(w + 1))), (3, aV (I6 w))] [(0, 0), (1, 1)] (⟨[(0, .at 0 []), (1, .int .u64 v), (6, .int .i64 (w : Int))], [(0, bwR 1 k n), (1, bwB k l)]⟩ : DS) [I6 (mx (↑(w + 1) : Int) (0 : Int)) = I6 ↑(w + 1), I6 (mn (↑(w + 1) : Int) (64 : Int)) = I6 ↑(w + 1), I6 (IntKind.wrap .i64 ((↑(w + 1) : Int) - 1)) = I6 w] (ac (cg (hx)) (ac (cg (hy)) (ao (cg (Ab (by omega) (by omega) (by omega)))))) ?_
 exact hw
end Go.Proofs
namespace Go.Proofs
open Go Go.Pe Go.Pm
set_option linter.unusedVariables false
def byt (g : Nat → Nat) : Nat := g 0 * 128 + g 1 * 64 + g 2 * 32 + g 3 * 16 + g 4 * 8 + g 5 * 4 + g 6 * 2 + g 7
def pk (B : List Nat) : List Int := (List.range ((B.length + 7) / 8)).map fun i => ((byt fun j => B.getD (8 * i + j) 0 : Nat) : Int)
def Bits (B : List Nat) : Prop := ∀ i, B.getD i 0 < 2
theorem Bits.nil : Bits [] := fun i => by simp
theorem Bits.append {A B : List Nat} (hA : Bits A) (hB : Bits B) : Bits (A ++ B) := fun i => by
 rcases Nat.lt_or_ge i A.length with h | h
 ·rw [List.getD_eq_getElem?_getD, List.getElem?_append_left h, ← List.getD_eq_getElem?_getD]; exact hA i
 ·rw [List.getD_eq_getElem?_getD, List.getElem?_append_right h, ← List.getD_eq_getElem?_getD]; exact hB _
theorem Bits.one (x : Nat) : Bits [x % 2] := fun i => by
 cases i with
 | zero => exact Nat.mod_lt _ (by decide)
 | succ i => simp
theorem Bj (B : List Nat) : (pk B).length = (B.length + 7) / 8 := by simp [pk]
theorem byt_lt {g : Nat → Nat} (h : ∀ j, g j < 2) : byt g < 256 := by
 have h0 := h 0; have h1 := h 1; have h2 := h 2; have h3 := h 3; have h4 := h 4; have h5 := h 5; have h6 := h 6; have h7 := h 7
 unfold byt
 omega
theorem HY {B : List Nat} (h : Bits B) : Bytes (pk B) := fun x hx => by
 unfold pk at hx
 obtain ⟨i, -, rfl⟩ := List.mem_map.1 hx
 have := byt_lt fun j => h (8 * i + j)
 omega
theorem Ha (B : List Nat) {i : Nat} (hi : i < (B.length + 7) / 8) : (pk B)[i]? = some ((byt fun j => B.getD (8 * i + j) 0 : Nat) : Int) := by
 simp [pk, hi]
theorem Gu (B : List Nat) (b i : Nat) : (B ++ [b]).getD i 0 = if i = B.length then b else B.getD i 0 := by
 rcases Nat.lt_trichotomy i B.length with h | h | h
 ·rw [if_neg (by omega), List.getD_eq_getElem?_getD, List.getElem?_append_left h, ← List.getD_eq_getElem?_getD]
 ·subst h; simp
 ·rw [if_neg (by omega)]
  rw [List.getD_eq_getElem?_getD, List.getD_eq_getElem?_getD, List.getElem?_eq_none (by simp; omega), List.getElem?_eq_none (by omega)]
theorem IG {f g : Nat → Nat} (h : ∀ j, j < 8 → f j = g j) : byt f = byt g := by
 unfold byt
 rw [h 0 (by omega), h 1 (by omega), h 2 (by omega), h 3 (by omega), h 4 (by omega), h 5 (by omega), h 6 (by omega), h 7 (by omega)]
theorem Dz {B : List Nat} {i : Nat} (h : B.length ≤ i) : B.getD i 0 = 0 := by
 rw [List.getD_eq_getElem?_getD, List.getElem?_eq_none h]
 rfl
theorem OG {B : List Nat} (b : Nat) (h : B.length % 8 = 0) : pk (B ++ [b]) = pk B ++ [((b * 128 : Nat) : Int)] := by
 apply List.ext_getElem?
 intro i
 have hl := Bj B
 have hl2 := Bj (B ++ [b])
 rw [List.length_append, List.length_singleton] at hl2
 rcases Nat.lt_trichotomy i ((B.length + 7) / 8) with hi | hi | hi
 ·rw [List.getElem?_append_left (by omega), Ha B hi, Ha _ (by rw [List.length_append, List.length_singleton]; omega)]
  congr 2
  refine IG fun j hj => ?_
  rw [Gu, if_neg (by omega)]
 ·rw [List.getElem?_append_right (by omega), show i - (pk B).length = 0 by omega, Ha _ (by rw [List.length_append, List.length_singleton]; omega)]
  show some _ = some _
  congr 2
  unfold byt
  simp only [Gu]
  rw [if_pos (by omega), if_neg (by omega), if_neg (by omega), if_neg (by omega), if_neg (by omega), if_neg (by omega), if_neg (by omega), if_neg (by omega)]
  rw [Dz (by omega), Dz (by omega), Dz (by omega), Dz (by omega), Dz (by omega), Dz (by omega), Dz (by omega)]
  omega
 ·rw [List.getElem?_eq_none (by omega), List.getElem?_eq_none (by rw [List.length_append, List.length_singleton]; omega)]
theorem Hy {i a b : Nat} (h : b < 2 ^ i) : 2 ^ i * a ||| b = 2 ^ i * a + b := (Nat.two_pow_add_eq_or_of_lt h a).symm
theorem byt_or {g : Nat → Nat} {r b : Nat} (hr : r < 8) (hg : ∀ j, r ≤ j → g j = 0) (hb : b < 2) : byt (fun j => if j = r then b else g j) = byt g ||| b * 2 ^ (7 - r) % 256 := by
 unfold byt
 dsimp only
 match r, hr with
 | 0, _ =>
  rw [hg 0 (by omega), hg 1 (by omega), hg 2 (by omega), hg 3 (by omega), hg 4 (by omega), hg 5 (by omega), hg 6 (by omega), hg 7 (by omega)]
  simp only [if_true, show ¬ (1 : Nat) = 0 by omega, show ¬ (2 : Nat) = 0 by omega, show ¬ (3 : Nat) = 0 by omega, show ¬ (4 : Nat) = 0 by omega, show ¬ (5 : Nat) = 0 by omega, show ¬ (6 : Nat) = 0 by omega, show ¬ (7 : Nat) = 0 by omega, if_false]
  have : b = 0 ∨ b = 1 := by omega
  rcases this with rfl | rfl <;> rfl
 | 1, _ =>
  rw [hg 1 (by omega), hg 2 (by omega), hg 3 (by omega), hg 4 (by omega), hg 5 (by omega), hg 6 (by omega), hg 7 (by omega)]
  have e := Hy (i := 7) (a := g 0) (b := b * 2 ^ (7 - 1) % 256) (by omega)
  simp only [if_true, show ¬ (0 : Nat) = 1 by omega, show ¬ (2 : Nat) = 1 by omega, show ¬ (3 : Nat) = 1 by omega, show ¬ (4 : Nat) = 1 by omega, show ¬ (5 : Nat) = 1 by omega, show ¬ (6 : Nat) = 1 by omega, show ¬ (7 : Nat) = 1 by omega, if_false]
  rw [show g 0 * 128 + 0 * 64 + 0 * 32 + 0 * 16 + 0 * 8 + 0 * 4 + 0 * 2 + 0 = 2 ^ 7 * g 0 by omega, e]
  omega
 | 2, _ =>
  rw [hg 2 (by omega), hg 3 (by omega), hg 4 (by omega), hg 5 (by omega), hg 6 (by omega), hg 7 (by omega)]
  have e := Hy (i := 6) (a := g 0 * 2 + g 1) (b := b * 2 ^ (7 - 2) % 256) (by omega)
  simp only [if_true, show ¬ (0 : Nat) = 2 by omega, show ¬ (1 : Nat) = 2 by omega, show ¬ (3 : Nat) = 2 by omega, show ¬ (4 : Nat) = 2 by omega, show ¬ (5 : Nat) = 2 by omega, show ¬ (6 : Nat) = 2 by omega, show ¬ (7 : Nat) = 2 by omega, if_false]
  rw [show g 0 * 128 + g 1 * 64 + 0 * 32 + 0 * 16 + 0 * 8 + 0 * 4 + 0 * 2 + 0 = 2 ^ 6 * (g 0 * 2 + g 1) by omega, e]
  omega
 | 3, _ =>
  rw [hg 3 (by omega), hg 4 (by omega), hg 5 (by omega), hg 6 (by omega), hg 7 (by omega)]
  have e := Hy (i := 5) (a := g 0 * 4 + g 1 * 2 + g 2) (b := b * 2 ^ (7 - 3) % 256) (by omega)
  simp only [if_true, show ¬ (0 : Nat) = 3 by omega, show ¬ (1 : Nat) = 3 by omega, show ¬ (2 : Nat) = 3 by omega, show ¬ (4 : Nat) = 3 by omega, show ¬ (5 : Nat) = 3 by omega, show ¬ (6 : Nat) = 3 by omega, show ¬ (7 : Nat) = 3 by omega, if_false]
  rw [show g 0 * 128 + g 1 * 64 + g 2 * 32 + 0 * 16 + 0 * 8 + 0 * 4 + 0 * 2 + 0 = 2 ^ 5 * (g 0 * 4 + g 1 * 2 + g 2) by omega, e]
  omega
 | 4, _ =>
  rw [hg 4 (by omega), hg 5 (by omega), hg 6 (by omega), hg 7 (by omega)]
  have e := Hy (i := 4) (a := g 0 * 8 + g 1 * 4 + g 2 * 2 + g 3) (b := b * 2 ^ (7 - 4) % 256) (by omega)
  simp only [if_true, show ¬ (0 : Nat) = 4 by omega, show ¬ (1 : Nat) = 4 by omega, show ¬ (2 : Nat) = 4 by omega, show ¬ (3 : Nat) = 4 by omega, show ¬ (5 : Nat) = 4 by omega, show ¬ (6 : Nat) = 4 by omega, show ¬ (7 : Nat) = 4 by omega, if_false]
  rw [show g 0 * 128 + g 1 * 64 + g 2 * 32 + g 3 * 16 + 0 * 8 + 0 * 4 + 0 * 2 + 0 = 2 ^ 4 * (g 0 * 8 + g 1 * 4 + g 2 * 2 + g 3) by omega, e]
  omega
 | 5, _ =>
  rw [hg 5 (by omega), hg 6 (by omega), hg 7 (by omega)]
  have e := Hy (i := 3) (a := g 0 * 16 + g 1 * 8 + g 2 * 4 + g 3 * 2 + g 4) (b := b * 2 ^ (7 - 5) % 256) (by omega)
  simp only [if_true, show ¬ (0 : Nat) = 5 by omega, show ¬ (1 : Nat) = 5 by omega, show ¬ (2 : Nat) = 5 by omega, show ¬ (3 : Nat) = 5 by omega, show ¬ (4 : Nat) = 5 by omega, show ¬ (6 : Nat) = 5 by omega, show ¬ (7 : Nat) = 5 by omega, if_false]
  rw [show g 0 * 128 + g 1 * 64 + g 2 * 32 + g 3 * 16 + g 4 * 8 + 0 * 4 + 0 * 2 + 0 = 2 ^ 3 * (g 0 * 16 + g 1 * 8 + g 2 * 4 + g 3 * 2 + g 4) by omega, e]
  omega
 | 6, _ =>
  rw [hg 6 (by omega), hg 7 (by omega)]
  have e := Hy (i := 2) (a := g 0 * 32 + g 1 * 16 + g 2 * 8 + g 3 * 4 + g 4 * 2 + g 5) (b := b * 2 ^ (7 - 6) % 256) (by omega)
  simp only [if_true, show ¬ (0 : Nat) = 6 by omega, show ¬ (1 : Nat) = 6 by omega, show ¬ (2 : Nat) = 6 by omega, show ¬ (3 : Nat) = 6 by omega, show ¬ (4 : Nat) = 6 by omega, show ¬ (5 : Nat) = 6 by omega, show ¬ (7 : Nat) = 6 by omega, if_false]
  rw [show g 0 * 128 + g 1 * 64 + g 2 * 32 + g 3 * 16 + g 4 * 8 + g 5 * 4 + 0 * 2 + 0 = 2 ^ 2 * (g 0 * 32 + g 1 * 16 + g 2 * 8 + g 3 * 4 + g 4 * 2 + g 5) by omega, e]
  omega
 | 7, _ =>
  rw [hg 7 (by omega)]
  have e := Hy (i := 1) (a := g 0 * 64 + g 1 * 32 + g 2 * 16 + g 3 * 8 + g 4 * 4 + g 5 * 2 + g 6) (b := b * 2 ^ (7 - 7) % 256) (by omega)
  simp only [if_true, show ¬ (0 : Nat) = 7 by omega, show ¬ (1 : Nat) = 7 by omega, show ¬ (2 : Nat) = 7 by omega, show ¬ (3 : Nat) = 7 by omega, show ¬ (4 : Nat) = 7 by omega, show ¬ (5 : Nat) = 7 by omega, show ¬ (6 : Nat) = 7 by omega, if_false]
  rw [show g 0 * 128 + g 1 * 64 + g 2 * 32 + g 3 * 16 + g 4 * 8 + g 5 * 4 + g 6 * 2 + 0 = 2 ^ 1 * (g 0 * 64 + g 1 * 32 + g 2 * 16 + g 3 * 8 + g 4 * 4 + g 5 * 2 + g 6) by omega, e]
  omega
theorem TY {B : List Nat} {i : Nat} (hi : i < (B.length + 7) / 8) : at0 (pk B) i = byt fun j => B.getD (8 * i + j) 0 := by
 unfold at0
 rw [List.getD_eq_getElem?_getD, Ha B hi]
 rfl
theorem TC {B : List Nat} (x : Nat) (h : B.length % 8 ≠ 0) : pk (B ++ [x % 2]) = bwS B.length x (pk B) := by
 have hl := Bj B
 have hl2 := Bj (B ++ [x % 2])
 rw [List.length_append, List.length_singleton] at hl2
 apply List.ext_getElem?
 intro i
 unfold bwS
 rw [List.getElem?_set]
 rcases Nat.lt_trichotomy i (B.length / 8) with hi | hi | hi
 ·rw [if_neg (by omega), Ha B (by omega), Ha _ (by rw [List.length_append, List.length_singleton]; omega)]
  congr 2
  refine IG fun j hj => ?_
  rw [Gu, if_neg (by omega)]
 ·rw [if_pos hi.symm, if_pos (by omega), Ha _ (by rw [List.length_append, List.length_singleton]; omega), TY (by omega)]
  congr 2
  rw [← byt_or (g := fun j => B.getD (8 * (B.length / 8) + j) 0) (r := B.length % 8) (b := x % 2) (Nat.mod_lt _ (by decide)) (fun j hj => Dz (by omega)) (Nat.mod_lt _ (by decide))]
  refine IG fun j hj => ?_
  rw [Gu, hi]
  by_cases hjr : j = B.length % 8
  ·rw [if_pos (by omega), if_pos hjr]
  ·rw [if_neg (by omega), if_neg hjr]
 ·rw [if_neg (by omega), List.getElem?_eq_none (by omega), List.getElem?_eq_none (by omega)]
theorem pk_one (x : Nat) : pk [x % 2] = [((x % 2 * 128 : Nat) : Int)] := by
 have := OG (B := []) (x % 2) rfl
 exact this
def Bi (v : Nat) : Nat → List Nat
 | 0 => []
 | w + 1 => v / 2 ^ w % 2 :: Bi v w
theorem D9 (v : Nat) : ∀ w, Bits (Bi v w)
 | 0 => Bits.nil
 | w + 1 => Bits.append (Bits.one (v / 2 ^ w)) (D9 v w)
theorem Bp (v : Nat) : ∀ w, (Bi v w).length = w
 | 0 => rfl
 | w + 1 => by rw [Bi, List.length_cons, Bp]
theorem Gt : ∀ q, Bits (List.replicate q 1)
 | 0 => Bits.nil
 | q + 1 => Bits.append (A := [1 % 2]) (Bits.one 1) (Gt q)
end Go.Proofs
namespace Go.Proofs
open Go Go.Pe Go.Pm
set_option maxRecDepth 100000
set_option linter.unusedVariables false
def bwF (id : Nat) (B : List Nat) : List (Nat × Row) := [(0, bwR id (pk B).length B.length), (id, bwB (pk B).length (pk B))]
theorem pk_ne {B : List Nat} (h : B ≠ []) : 0 < (pk B).length := by
 have := Bj B
 have := List.length_pos_iff.2 h
 omega
theorem one_E {x : Nat} (hx : x < 18446744073709551616) : Pt 88 [(0, bwE)] [.at 0 [], .int .u64 x] (bwF 1 [x % 2]) (.tup []) := by
 unfold bwF
 rw [pk_one]
 exact pc_oneA hx
theorem Jn {x : Nat} {B : List Nat} (hx : x < 18446744073709551616) (hB : Bits B) (hl : B.length ≤ 1000000) (h : B.length % 8 ≠ 0) : Pt 88 (bwF 1 B) [.at 0 [], .int .u64 x] (bwF 1 (B ++ [x % 2])) (.tup []) := by
 have h1 := Bj B
 have e : (bwS B.length x (pk B)).length = (pk B).length := by unfold bwS; rw [List.length_set]
 unfold bwF
 rw [TC x h, e, List.length_append, List.length_singleton]
 exact pc_oneC (HY hB) rfl (by omega) h (by omega) hx
theorem Lm {x : Nat} {B : List Nat} (hx : x < 18446744073709551616) (hB : Bits B) (hl : B.length ≤ 1000000) (h : B.length % 8 = 0) (h0 : B ≠ []) : Pt 88 (bwF 1 B) [.at 0 [], .int .u64 x] (bwF 2 (B ++ [x % 2])) (.tup []) := by
 have h1 := Bj B
 unfold bwF
 rw [OG (x % 2) h, List.length_append, List.length_append, List.length_singleton, List.length_singleton]
 exact pc_oneB (HY hB) rfl (by omega) (by omega) (pk_ne h0) hx
abbrev Wo (pins : List Nat) (q i : Nat) (id : Nat) (B B' : List Nat) (id' : Nat) : Prop := Wt Try.f76 pins (bwF id' B') (.tup []) (Aa Try.f76 0) ⟨[(0, .at 0 []), (6, .int .i64 q), (7, .int .i64 i)], bwF id B⟩
theorem J4 (B : List Nat) (r : Nat) : B ++ List.replicate (r + 1) 1 = (B ++ [1 % 2]) ++ List.replicate r 1 := by rw [List.replicate_succ, List.append_assoc]; rfl
theorem W_bo0 {q : Nat} (hq : q ≤ 65536) : ∀ (r i : Nat) (B : List Nat), i + r = q → Bits B → B ≠ [] → B.length + r ≤ 1000000 → Wo [0] q i 1 B (B ++ List.replicate r 1) 1
 | 0, i, B, hk, hB, h0, hl => by
  obtain rfl : i = q := by omega
  rw [List.replicate_zero, List.append_nil]
  exact W_bwOX0
 | r + 1, i, B, hk, hB, h0, hl => by
  have hl2 : (B ++ [1 % 2]).length = B.length + 1 := by simp
  rw [J4]
  have ih := W_bo0 hq r (i + 1) (B ++ [1 % 2]) (by omega) (hB.append (Bits.one 1)) (by simp) (by omega)
  by_cases h : B.length % 8 = 0
  ·exact TL (by omega) hq (by omega) (by omega) (Lm (x := 1) (by decide) hB (by omega) h h0) ih
  ·exact Ut (by omega) hq (by omega) (by omega) (Jn (x := 1) (by decide) hB (by omega) h) ih
theorem W_bo2 {q : Nat} (hq : q ≤ 65536) : ∀ (r i : Nat) (B : List Nat), i + r = q → Bits B → B ≠ [] → B.length + r ≤ 1000000 → Wo [0, 1] q i 2 B (B ++ List.replicate r 1) 2
 | 0, i, B, hk, hB, h0, hl => by
  obtain rfl : i = q := by omega
  rw [List.replicate_zero, List.append_nil]
  exact W_bwOX2
 | r + 1, i, B, hk, hB, h0, hl => by
  have hl2 : (B ++ [1 % 2]).length = B.length + 1 := by simp
  rw [J4]
  have ih := W_bo2 hq r (i + 1) (B ++ [1 % 2]) (by omega) (hB.append (Bits.one 1)) (by simp) (by omega)
  by_cases h : B.length % 8 = 0
  ·exact Ul (by omega) hq (by omega) (by omega) (Lm (x := 1) (by decide) hB (by omega) h h0) ih
  ·exact SH (by omega) hq (by omega) (by omega) (Jn (x := 1) (by decide) hB (by omega) h) ih
theorem W_bo1 {q : Nat} (hq : q ≤ 65536) : ∀ (r i : Nat) (B : List Nat), i + r = q → Bits B → B ≠ [] → B.length + r ≤ 1000000 → Wo [0, 1] q i 1 B (B ++ List.replicate r 1) 1 ∨ Wo [0, 1] q i 1 B (B ++ List.replicate r 1) 2
 | 0, i, B, hk, hB, h0, hl => by
  obtain rfl : i = q := by omega
  rw [List.replicate_zero, List.append_nil]
  exact .inl W_bwOX1
 | r + 1, i, B, hk, hB, h0, hl => by
  have hl2 : (B ++ [1 % 2]).length = B.length + 1 := by simp
  rw [J4]
  by_cases h : B.length % 8 = 0
  ·exact .inr (UV (by omega) hq (by omega) (by omega) (Lm (x := 1) (by decide) hB (by omega) h h0) (W_bo2 hq r (i + 1) (B ++ [1 % 2]) (by omega) (hB.append (Bits.one 1)) (by simp) (by omega)))
  ·rcases W_bo1 hq r (i + 1) (B ++ [1 % 2]) (by omega) (hB.append (Bits.one 1)) (by simp) (by omega) with ih | ih
   ·exact .inl (OU (by omega) hq (by omega) (by omega) (Jn (x := 1) (by decide) hB (by omega) h) ih)
   ·exact .inr (OU (by omega) hq (by omega) (by omega) (Jn (x := 1) (by decide) hB (by omega) h) ih)
theorem SY {q : Nat} {B : List Nat} (hq : q ≤ 65536) (hB : Bits B) (h0 : B ≠ []) (hl : B.length + q ≤ 1000000) : Pt 76 (bwF 1 B) [.at 0 [], .int .i64 q] (bwF 1 (B ++ List.replicate q 1)) (.tup []) ∨ Pt 76 (bwF 1 B) [.at 0 [], .int .i64 q] (bwF 2 (B ++ List.replicate q 1)) (.tup []) := by
 rcases W_bo1 hq q 0 B (by omega) hB h0 hl with h | h
 ·exact .inl (Mc hq h)
 ·exact .inr (Mc hq h)
theorem Rp : Pt 76 [(0, bwE)] [.at 0 [], .int .i64 0] [(0, bwE)] (.tup []) := Lg (q := 0) (n := 0) (k := 0) (l := []) (by omega) (W_bwOXE (q := 0) (n := 0) (k := 0) (l := []))
theorem Ox {q : Nat} (hq : q + 1 ≤ 65536) : Pt 76 [(0, bwE)] [.at 0 [], .int .i64 ((q + 1 : Nat) : Int)] (bwF 1 (List.replicate (q + 1) 1)) (.tup []) := by
 refine Lg (n := 0) (k := 0) (l := []) hq ?_
 have hw := W_bo0 hq q 1 [1 % 2] (by omega) (Bits.one 1) (by simp) (by simp; omega)
 exact Uj (i := 0) (n := 0) (k := 0) (l := []) (by omega) hq (by omega) (n2 := 1) (by omega) (one_E (x := 1) (by decide)) hw
abbrev Wp (pins : List Nat) (v : Nat) (i : Int) (id : Nat) (B B' : List Nat) (id' : Nat) : Prop := Wt Try.f77 pins (bwF id' B') (.tup []) (Aa Try.f77 0) ⟨[(0, .at 0 []), (1, .int .u64 v), (6, .int .i64 i)], bwF id B⟩
theorem IL (B : List Nat) (v r : Nat) : B ++ Bi v (r + 1) = (B ++ [v / 2 ^ r % 2]) ++ Bi v r := by rw [Bi, List.append_assoc]; rfl
theorem Dp {v : Nat} (hv : v < 18446744073709551616) (r : Nat) : v / 2 ^ r < 18446744073709551616 := Nat.lt_of_le_of_lt (Nat.div_le_self _ _) hv
theorem W_bq0 {v : Nat} (hv : v < 18446744073709551616) : ∀ (r : Nat) (B : List Nat), r ≤ 64 → Bits B → B ≠ [] → B.length + r ≤ 1000000 → Wp [0] v ((r : Int) - 1) 1 B (B ++ Bi v r) 1
 | 0, B, hr, hB, h0, hl => by
  rw [Bi, List.append_nil]
  exact W_bwPX0 (v := v)
 | r + 1, B, hr, hB, h0, hl => by
  have hl2 : (B ++ [v / 2 ^ r % 2]).length = B.length + 1 := by simp
  rw [IL, show (((r + 1 : Nat) : Int) - 1) = (r : Int) by omega]
  have ih := W_bq0 hv r (B ++ [v / 2 ^ r % 2]) (by omega) (hB.append (Bits.one _)) (by simp) (by omega)
  by_cases h : B.length % 8 = 0
  ·exact Us (by omega) hv (by omega) (by omega) (Lm (Dp hv r) hB (by omega) h h0) ih
  ·exact Ua (by omega) hv (by omega) (by omega) (Jn (Dp hv r) hB (by omega) h) ih
theorem W_bq2 {v : Nat} (hv : v < 18446744073709551616) : ∀ (r : Nat) (B : List Nat), r ≤ 64 → Bits B → B ≠ [] → B.length + r ≤ 1000000 → Wp [0, 1] v ((r : Int) - 1) 2 B (B ++ Bi v r) 2
 | 0, B, hr, hB, h0, hl => by
  rw [Bi, List.append_nil]
  exact W_bwPX2 (v := v)
 | r + 1, B, hr, hB, h0, hl => by
  have hl2 : (B ++ [v / 2 ^ r % 2]).length = B.length + 1 := by simp
  rw [IL, show (((r + 1 : Nat) : Int) - 1) = (r : Int) by omega]
  have ih := W_bq2 hv r (B ++ [v / 2 ^ r % 2]) (by omega) (hB.append (Bits.one _)) (by simp) (by omega)
  by_cases h : B.length % 8 = 0
  ·exact TZ (by omega) hv (by omega) (by omega) (Lm (Dp hv r) hB (by omega) h h0) ih
  ·exact Tx (by omega) hv (by omega) (by omega) (Jn (Dp hv r) hB (by omega) h) ih
theorem W_bq1 {v : Nat} (hv : v < 18446744073709551616) : ∀ (r : Nat) (B : List Nat), r ≤ 64 → Bits B → B ≠ [] → B.length + r ≤ 1000000 → ((B.length % 8 ≠ 0 → r < 8 - B.length % 8 + 1) ∧ (B.length % 8 = 0 → r = 0)) ∧ Wp [0, 1] v ((r : Int) - 1) 1 B (B ++ Bi v r) 1 ∨ Wp [0, 1] v ((r : Int) - 1) 1 B (B ++ Bi v r) 2
 | 0, B, hr, hB, h0, hl => by
  rw [Bi, List.append_nil]
  exact .inl ⟨⟨fun _ => by omega, fun _ => rfl⟩, W_bwPX1 (v := v)⟩
 | r + 1, B, hr, hB, h0, hl => by
  have hl2 : (B ++ [v / 2 ^ r % 2]).length = B.length + 1 := by simp
  rw [IL, show (((r + 1 : Nat) : Int) - 1) = (r : Int) by omega]
  by_cases h : B.length % 8 = 0
  ·exact .inr (TE (by omega) hv (by omega) (by omega) (Lm (Dp hv r) hB (by omega) h h0) (W_bq2 hv r (B ++ [v / 2 ^ r % 2]) (by omega) (hB.append (Bits.one _)) (by simp) (by omega)))
  ·rcases W_bq1 hv r (B ++ [v / 2 ^ r % 2]) (by omega) (hB.append (Bits.one _)) (by simp) (by omega) with ⟨hc, ih⟩ | ih
   ·refine .inl ⟨⟨fun _ => ?_, fun x => absurd x h⟩, OI (by omega) hv (by omega) (by omega) (Jn (Dp hv r) hB (by omega) h) ih⟩
    by_cases h9 : (B.length + 1) % 8 = 0
    ·have := hc.2 (by rw [hl2]; exact h9)
     omega
    ·have := hc.1 (by rw [hl2]; exact h9)
     rw [hl2] at this
     omega
   ·exact .inr (OI (by omega) hv (by omega) (by omega) (Jn (Dp hv r) hB (by omega) h) ih)
theorem pc_putE {v w : Nat} (hv : v < 18446744073709551616) (hw : w + 1 ≤ 64) : Pt 77 [(0, bwE)] [.at 0 [], .int .u64 v, .int .i64 ((w + 1 : Nat) : Int)] (bwF 1 (Bi v (w + 1))) (.tup []) := by
 refine Rk (n := 0) (k := 0) (l := []) hw ?_
 have h := W_bq0 hv w [v / 2 ^ w % 2] (by omega) (Bits.one _) (by simp) (by simp; omega)
 exact SF (i := w) (n := 0) (k := 0) (l := []) (by omega) hv (by omega) (n2 := 1) (by omega) (one_E (Dp hv w)) h
theorem QN {v w : Nat} {B : List Nat} (hv : v < 18446744073709551616) (hw : w + 1 ≤ 64) (hB : Bits B) (h0 : B ≠ []) (hl : B.length + (w + 1) ≤ 1000000) : Pt 77 (bwF 1 B) [.at 0 [], .int .u64 v, .int .i64 ((w + 1 : Nat) : Int)] (bwF 1 (B ++ Bi v (w + 1))) (.tup []) ∨ Pt 77 (bwF 1 B) [.at 0 [], .int .u64 v, .int .i64 ((w + 1 : Nat) : Int)] (bwF 2 (B ++ Bi v (w + 1))) (.tup []) := by
 rcases W_bq1 hv (w + 1) B hw hB h0 hl with ⟨-, h⟩ | h
 ·rw [show (((w + 1 : Nat) : Int) - 1) = (w : Int) by omega] at h
  exact .inl (I1 hw h)
 ·rw [show (((w + 1 : Nat) : Int) - 1) = (w : Int) by omega] at h
  exact .inr (I1 hw h)
theorem MJ {v w : Nat} {B : List Nat} (hv : v < 18446744073709551616) (hw : w + 1 ≤ 64) (h8 : 8 ≤ w + 1) (hB : Bits B) (h0 : B ≠ []) (hl : B.length + (w + 1) ≤ 1000000) : Pt 77 (bwF 1 B) [.at 0 [], .int .u64 v, .int .i64 ((w + 1 : Nat) : Int)] (bwF 2 (B ++ Bi v (w + 1))) (.tup []) := by
 rcases W_bq1 hv (w + 1) B hw hB h0 hl with ⟨h, -⟩ | h
 ·by_cases g : B.length % 8 = 0
  ·have := h.2 g; omega
  ·have := h.1 g; omega
 ·rw [show (((w + 1 : Nat) : Int) - 1) = (w : Int) by omega] at h
  exact I1 hw h
end Go.Proofs
namespace Go.Proofs
open Go Go.Pe Go.Pm
set_option maxRecDepth 100000
set_option linter.unusedVariables false
attribute [local irreducible] lv
theorem W_rpEE1 {v q k0 n0 k1 n1 k2 n2 k3 n3 : Nat} {l0 l1 l2 l3 : Liz} (hv : v < 18446744073709551616) (hq : v / 524288 = q) (hq2 : q ≤ 65536) (c1 : Pt 76 [(0, bwE)] [.at 0 [], .int .i64 q] [(0, bwE)] (.tup [])) (c2 : Pt 77 [(0, bwE)] [.at 0 [], .int .u64 0, .int .i64 1] [(0, bwR 1 k2 n2), (1, bwB k2 l2)] (.tup [])) (c3 : Pt 77 [(0, bwR 1 k2 n2), (1, bwB k2 l2)] [.at 0 [], .int .u64 v, .int .i64 19] [(0, bwR 2 k3 n3), (2, bwB k3 l3)] (.tup [])) : Pt 48 [(0, bwE)] [.at 0 [], .int .i64 19, .int .u64 v] [(0, bwR 1 k3 n3), (1, bwB k3 l3)] (.int .i64 0) := by
 refine pO Try.func48 (by kernel_rfl) ?_
 have d0 := Cy (p := 19) (by omega)
 have hq3 : ((v / 524288 : Nat) : Int) = (q : Int) := by rw [hq]
 clear hq
 refine W.rtA [(2, c9 d0), (3, aV (I6 19)), (6, aV (U6 ↑(v / 524288))), (7, aV (U6 q)), (9, aF), (12, aV (I6 q)), (13, cC true [(0, 0)] c1), (15, cC true [(0, 0)] c2), (19, cC true [(0, 0), (305, 1)] c3)] [(0, 0), (370, 1)] [_, I6 ↑(19 : Nat) = I6 19, U6 (Int.fdiv (v:Int) ((2 : Int) ^ 19)) = U6 ↑(v / 524288), (0 : Int) ≤ 19, U6 ↑(v / 524288) = U6 q, decide ((q:Int) > 65536) = false, I6 (IntKind.wrap .i64 (q:Int)) = I6 q, _, _, _] (ac (d0) (ac (cg (by omega)) (ac (cg (Be (y := 19) (s := 19) rfl rfl (by decide) (by omega))) (ac (by omega) (ac (cg (hq3)) (ac (dF (by omega)) (ac (wj (by omega)) (ac (c1) (ac (c2) (ao (c3)))))))))))
theorem W_rpE11 {v q k0 n0 k1 n1 k2 n2 k3 n3 : Nat} {l0 l1 l2 l3 : Liz} (hv : v < 18446744073709551616) (hq : v / 524288 = q) (hq2 : q ≤ 65536) (c1 : Pt 76 [(0, bwE)] [.at 0 [], .int .i64 q] [(0, bwR 1 k1 n1), (1, bwB k1 l1)] (.tup [])) (c2 : Pt 77 [(0, bwR 1 k1 n1), (1, bwB k1 l1)] [.at 0 [], .int .u64 0, .int .i64 1] [(0, bwR 1 k2 n2), (1, bwB k2 l2)] (.tup [])) (c3 : Pt 77 [(0, bwR 1 k2 n2), (1, bwB k2 l2)] [.at 0 [], .int .u64 v, .int .i64 19] [(0, bwR 2 k3 n3), (2, bwB k3 l3)] (.tup [])) : Pt 48 [(0, bwE)] [.at 0 [], .int .i64 19, .int .u64 v] [(0, bwR 1 k3 n3), (1, bwB k3 l3)] (.int .i64 0) := by
 refine pO Try.func48 (by kernel_rfl) ?_
 have d0 := Cy (p := 19) (by omega)
 have hq3 : ((v / 524288 : Nat) : Int) = (q : Int) := by rw [hq]
 clear hq
 refine W.rtA [(2, c9 d0), (3, aV (I6 19)), (6, aV (U6 ↑(v / 524288))), (7, aV (U6 q)), (9, aF), (12, aV (I6 q)), (13, cC true [(0, 0)] c1), (15, cC true [(0, 0), (273, 1)] c2), (19, cC true [(0, 0), (273, 1)] c3)] [(0, 0), (370, 1)] [_, I6 ↑(19 : Nat) = I6 19, U6 (Int.fdiv (v:Int) ((2 : Int) ^ 19)) = U6 ↑(v / 524288), (0 : Int) ≤ 19, U6 ↑(v / 524288) = U6 q, decide ((q:Int) > 65536) = false, I6 (IntKind.wrap .i64 (q:Int)) = I6 q, _, _, _] (ac (d0) (ac (cg (by omega)) (ac (cg (Be (y := 19) (s := 19) rfl rfl (by decide) (by omega))) (ac (by omega) (ac (cg (hq3)) (ac (dF (by omega)) (ac (wj (by omega)) (ac (c1) (ac (c2) (ao (c3)))))))))))
theorem W_rpE12 {v q k0 n0 k1 n1 k2 n2 k3 n3 : Nat} {l0 l1 l2 l3 : Liz} (hv : v < 18446744073709551616) (hq : v / 524288 = q) (hq2 : q ≤ 65536) (c1 : Pt 76 [(0, bwE)] [.at 0 [], .int .i64 q] [(0, bwR 1 k1 n1), (1, bwB k1 l1)] (.tup [])) (c2 : Pt 77 [(0, bwR 1 k1 n1), (1, bwB k1 l1)] [.at 0 [], .int .u64 0, .int .i64 1] [(0, bwR 2 k2 n2), (2, bwB k2 l2)] (.tup [])) (c3 : Pt 77 [(0, bwR 1 k2 n2), (1, bwB k2 l2)] [.at 0 [], .int .u64 v, .int .i64 19] [(0, bwR 2 k3 n3), (2, bwB k3 l3)] (.tup [])) : Pt 48 [(0, bwE)] [.at 0 [], .int .i64 19, .int .u64 v] [(0, bwR 1 k3 n3), (1, bwB k3 l3)] (.int .i64 0) := by
 refine pO Try.func48 (by kernel_rfl) ?_
 have d0 := Cy (p := 19) (by omega)
 have hq3 : ((v / 524288 : Nat) : Int) = (q : Int) := by rw [hq]
 clear hq
 refine W.rtA [(2, c9 d0), (3, aV (I6 19)), (6, aV (U6 ↑(v / 524288))), (7, aV (U6 q)), (9, aF), (12, aV (I6 q)), (13, cC true [(0, 0)] c1), (15, cC true [(0, 0), (273, 1)] c2), (19, cC true [(0, 0), (306, 1)] c3)] [(0, 0), (370, 1)] [_, I6 ↑(19 : Nat) = I6 19, U6 (Int.fdiv (v:Int) ((2 : Int) ^ 19)) = U6 ↑(v / 524288), (0 : Int) ≤ 19, U6 ↑(v / 524288) = U6 q, decide ((q:Int) > 65536) = false, I6 (IntKind.wrap .i64 (q:Int)) = I6 q, _, _, _] (ac (d0) (ac (cg (by omega)) (ac (cg (Be (y := 19) (s := 19) rfl rfl (by decide) (by omega))) (ac (by omega) (ac (cg (hq3)) (ac (dF (by omega)) (ac (wj (by omega)) (ac (c1) (ac (c2) (ao (c3)))))))))))
theorem W_rpF11 {v q k0 n0 k1 n1 k2 n2 k3 n3 : Nat} {l0 l1 l2 l3 : Liz} (hv : v < 18446744073709551616) (hq : v / 524288 = q) (hq2 : q ≤ 65536) (c1 : Pt 76 [(0, bwR 1 k0 n0), (1, bwB k0 l0)] [.at 0 [], .int .i64 q] [(0, bwR 1 k1 n1), (1, bwB k1 l1)] (.tup [])) (c2 : Pt 77 [(0, bwR 1 k1 n1), (1, bwB k1 l1)] [.at 0 [], .int .u64 0, .int .i64 1] [(0, bwR 1 k2 n2), (1, bwB k2 l2)] (.tup [])) (c3 : Pt 77 [(0, bwR 1 k2 n2), (1, bwB k2 l2)] [.at 0 [], .int .u64 v, .int .i64 19] [(0, bwR 2 k3 n3), (2, bwB k3 l3)] (.tup [])) : Pt 48 [(0, bwR 1 k0 n0), (1, bwB k0 l0)] [.at 0 [], .int .i64 19, .int .u64 v] [(0, bwR 2 k3 n3), (2, bwB k3 l3)] (.int .i64 0) := by
 refine pO Try.func48 (by kernel_rfl) ?_
 have d0 := Cy (p := 19) (by omega)
 have hq3 : ((v / 524288 : Nat) : Int) = (q : Int) := by rw [hq]
 clear hq
 refine W.rtA [(2, c9 d0), (3, aV (I6 19)), (6, aV (U6 ↑(v / 524288))), (7, aV (U6 q)), (9, aF), (12, aV (I6 q)), (13, cC true [(0, 0), (1, 1)] c1), (15, cC true [(0, 0), (1, 1)] c2), (19, cC true [(0, 0), (1, 1)] c3)] [(0, 0), (1, 1), (370, 2)] [_, I6 ↑(19 : Nat) = I6 19, U6 (Int.fdiv (v:Int) ((2 : Int) ^ 19)) = U6 ↑(v / 524288), (0 : Int) ≤ 19, U6 ↑(v / 524288) = U6 q, decide ((q:Int) > 65536) = false, I6 (IntKind.wrap .i64 (q:Int)) = I6 q, _, _, _] (ac (d0) (ac (cg (by omega)) (ac (cg (Be (y := 19) (s := 19) rfl rfl (by decide) (by omega))) (ac (by omega) (ac (cg (hq3)) (ac (dF (by omega)) (ac (wj (by omega)) (ac (c1) (ac (c2) (ao (c3)))))))))))
theorem W_rpF12 {v q k0 n0 k1 n1 k2 n2 k3 n3 : Nat} {l0 l1 l2 l3 : Liz} (hv : v < 18446744073709551616) (hq : v / 524288 = q) (hq2 : q ≤ 65536) (c1 : Pt 76 [(0, bwR 1 k0 n0), (1, bwB k0 l0)] [.at 0 [], .int .i64 q] [(0, bwR 1 k1 n1), (1, bwB k1 l1)] (.tup [])) (c2 : Pt 77 [(0, bwR 1 k1 n1), (1, bwB k1 l1)] [.at 0 [], .int .u64 0, .int .i64 1] [(0, bwR 2 k2 n2), (2, bwB k2 l2)] (.tup [])) (c3 : Pt 77 [(0, bwR 1 k2 n2), (1, bwB k2 l2)] [.at 0 [], .int .u64 v, .int .i64 19] [(0, bwR 2 k3 n3), (2, bwB k3 l3)] (.tup [])) : Pt 48 [(0, bwR 1 k0 n0), (1, bwB k0 l0)] [.at 0 [], .int .i64 19, .int .u64 v] [(0, bwR 2 k3 n3), (2, bwB k3 l3)] (.int .i64 0) := by
 refine pO Try.func48 (by kernel_rfl) ?_
 have d0 := Cy (p := 19) (by omega)
 have hq3 : ((v / 524288 : Nat) : Int) = (q : Int) := by rw [hq]
 clear hq
 refine W.rtA [(2, c9 d0), (3, aV (I6 19)), (6, aV (U6 ↑(v / 524288))), (7, aV (U6 q)), (9, aF), (12, aV (I6 q)), (13, cC true [(0, 0), (1, 1)] c1), (15, cC true [(0, 0), (1, 1)] c2), (19, cC true [(0, 0), (306, 1)] c3)] [(0, 0), (1, 1), (370, 2)] [_, I6 ↑(19 : Nat) = I6 19, U6 (Int.fdiv (v:Int) ((2 : Int) ^ 19)) = U6 ↑(v / 524288), (0 : Int) ≤ 19, U6 ↑(v / 524288) = U6 q, decide ((q:Int) > 65536) = false, I6 (IntKind.wrap .i64 (q:Int)) = I6 q, _, _, _] (ac (d0) (ac (cg (by omega)) (ac (cg (Be (y := 19) (s := 19) rfl rfl (by decide) (by omega))) (ac (by omega) (ac (cg (hq3)) (ac (dF (by omega)) (ac (wj (by omega)) (ac (c1) (ac (c2) (ao (c3)))))))))))
theorem W_rpF21 {v q k0 n0 k1 n1 k2 n2 k3 n3 : Nat} {l0 l1 l2 l3 : Liz} (hv : v < 18446744073709551616) (hq : v / 524288 = q) (hq2 : q ≤ 65536) (c1 : Pt 76 [(0, bwR 1 k0 n0), (1, bwB k0 l0)] [.at 0 [], .int .i64 q] [(0, bwR 2 k1 n1), (2, bwB k1 l1)] (.tup [])) (c2 : Pt 77 [(0, bwR 1 k1 n1), (1, bwB k1 l1)] [.at 0 [], .int .u64 0, .int .i64 1] [(0, bwR 1 k2 n2), (1, bwB k2 l2)] (.tup [])) (c3 : Pt 77 [(0, bwR 1 k2 n2), (1, bwB k2 l2)] [.at 0 [], .int .u64 v, .int .i64 19] [(0, bwR 2 k3 n3), (2, bwB k3 l3)] (.tup [])) : Pt 48 [(0, bwR 1 k0 n0), (1, bwB k0 l0)] [.at 0 [], .int .i64 19, .int .u64 v] [(0, bwR 2 k3 n3), (2, bwB k3 l3)] (.int .i64 0) := by
 refine pO Try.func48 (by kernel_rfl) ?_
 have d0 := Cy (p := 19) (by omega)
 have hq3 : ((v / 524288 : Nat) : Int) = (q : Int) := by rw [hq]
 clear hq
 refine W.rtA [(2, c9 d0), (3, aV (I6 19)), (6, aV (U6 ↑(v / 524288))), (7, aV (U6 q)), (9, aF), (12, aV (I6 q)), (13, cC true [(0, 0), (1, 1)] c1), (15, cC true [(0, 0), (274, 1)] c2), (19, cC true [(0, 0), (274, 1)] c3)] [(0, 0), (1, 1), (370, 2)] [_, I6 ↑(19 : Nat) = I6 19, U6 (Int.fdiv (v:Int) ((2 : Int) ^ 19)) = U6 ↑(v / 524288), (0 : Int) ≤ 19, U6 ↑(v / 524288) = U6 q, decide ((q:Int) > 65536) = false, I6 (IntKind.wrap .i64 (q:Int)) = I6 q, _, _, _] (ac (d0) (ac (cg (by omega)) (ac (cg (Be (y := 19) (s := 19) rfl rfl (by decide) (by omega))) (ac (by omega) (ac (cg (hq3)) (ac (dF (by omega)) (ac (wj (by omega)) (ac (c1) (ac (c2) (ao (c3)))))))))))
theorem W_rpF22 {v q k0 n0 k1 n1 k2 n2 k3 n3 : Nat} {l0 l1 l2 l3 : Liz} (hv : v < 18446744073709551616) (hq : v / 524288 = q) (hq2 : q ≤ 65536) (c1 : Pt 76 [(0, bwR 1 k0 n0), (1, bwB k0 l0)] [.at 0 [], .int .i64 q] [(0, bwR 2 k1 n1), (2, bwB k1 l1)] (.tup [])) (c2 : Pt 77 [(0, bwR 1 k1 n1), (1, bwB k1 l1)] [.at 0 [], .int .u64 0, .int .i64 1] [(0, bwR 2 k2 n2), (2, bwB k2 l2)] (.tup [])) (c3 : Pt 77 [(0, bwR 1 k2 n2), (1, bwB k2 l2)] [.at 0 [], .int .u64 v, .int .i64 19] [(0, bwR 2 k3 n3), (2, bwB k3 l3)] (.tup [])) : Pt 48 [(0, bwR 1 k0 n0), (1, bwB k0 l0)] [.at 0 [], .int .i64 19, .int .u64 v] [(0, bwR 2 k3 n3), (2, bwB k3 l3)] (.int .i64 0) := by
 refine pO Try.func48 (by kernel_rfl) ?_
 have d0 := Cy (p := 19) (by omega)
 have hq3 : ((v / 524288 : Nat) : Int) = (q : Int) := by rw [hq]
 clear hq
 refine W.rtA [(2, c9 d0), (3, aV (I6 19)), (6, aV (U6 ↑(v / 524288))), (7, aV (U6 q)), (9, aF), (12, aV (I6 q)), (13, cC true [(0, 0), (1, 1)] c1), (15, cC true [(0, 0), (274, 1)] c2), (19, cC true [(0, 0), (306, 1)] c3)] [(0, 0), (1, 1), (370, 2)] [_, I6 ↑(19 : Nat) = I6 19, U6 (Int.fdiv (v:Int) ((2 : Int) ^ 19)) = U6 ↑(v / 524288), (0 : Int) ≤ 19, U6 ↑(v / 524288) = U6 q, decide ((q:Int) > 65536) = false, I6 (IntKind.wrap .i64 (q:Int)) = I6 q, _, _, _] (ac (d0) (ac (cg (by omega)) (ac (cg (Be (y := 19) (s := 19) rfl rfl (by decide) (by omega))) (ac (by omega) (ac (cg (hq3)) (ac (dF (by omega)) (ac (wj (by omega)) (ac (c1) (ac (c2) (ao (c3)))))))))))
def Ci (v : Nat) : List Nat := List.replicate (v / 524288) 1 ++ Bi 0 1 ++ Bi v 19
theorem EE (v : Nat) : Bits (Ci v) := ((Gt _).append (D9 0 1)).append (D9 v 19)
theorem Dm (v : Nat) : (Ci v).length = v / 524288 + 20 := by
 unfold Ci
 rw [List.length_append, List.length_append, Bp, Bp, List.length_replicate]
theorem Np {A B : List Nat} (h : B ≠ []) : A ++ B ≠ [] := fun e => h (List.append_eq_nil_iff.1 e).2
theorem JV (v w : Nat) : Bi v (w + 1) ≠ [] := by rw [Bi]; exact List.cons_ne_nil _ _
theorem UA {v : Nat} (hv : v < 18446744073709551616) (hq : v / 524288 ≤ 65536) : Pt 48 [(0, bwE)] [.at 0 [], .int .i64 19, .int .u64 v] (bwF 1 (Ci v)) (.int .i64 0) := by
 have hB0 : Bits (Bi 0 1) := D9 0 1
 unfold Ci
 by_cases h0 : v / 524288 = 0
 ·rw [h0, List.replicate_zero, List.nil_append]
  exact W_rpEE1 (k0 := 0) (n0 := 0) (l0 := []) (k1 := 0) (n1 := 0) (l1 := []) hv h0 (by omega) Rp (pc_putE (v := 0) (w := 0) (by decide) (by omega)) (MJ (w := 18) hv (by omega) (by omega) hB0 (JV 0 0) (by rw [Bp]; omega))
 ·obtain ⟨q, hq1⟩ : ∃ q, v / 524288 = q + 1 := ⟨v / 524288 - 1, by omega⟩
  rw [hq1]
  have hne : List.replicate (q + 1) 1 ≠ [] := by rw [List.replicate_succ]; exact List.cons_ne_nil _ _
  have hb1 := Gt (q + 1)
  have c3 := MJ (v := v) (w := 18) (B := List.replicate (q + 1) 1 ++ Bi 0 1) hv (by omega) (by omega) (hb1.append hB0) (Np (JV 0 0)) (by rw [List.length_append, Bp, List.length_replicate]; omega)
  rcases QN (v := 0) (w := 0) (by decide) (by omega) hb1 hne (by rw [List.length_replicate]; omega) with c2 | c2
  ·exact W_rpE11 (k0 := 0) (n0 := 0) (l0 := []) hv hq1 (by omega) (Ox (by omega)) c2 c3
  ·exact W_rpE12 (k0 := 0) (n0 := 0) (l0 := []) hv hq1 (by omega) (Ox (by omega)) c2 c3
theorem TS {v : Nat} {B : List Nat} (hv : v < 18446744073709551616) (hq : v / 524288 ≤ 65536) (hB : Bits B) (hne : B ≠ []) (hl : B.length ≤ 900000) : Pt 48 (bwF 1 B) [.at 0 [], .int .i64 19, .int .u64 v] (bwF 2 (B ++ Ci v)) (.int .i64 0) := by
 have hB0 : Bits (Bi 0 1) := D9 0 1
 unfold Ci
 rw [← List.append_assoc, ← List.append_assoc]
 generalize hqq : v / 524288 = q at *
 have hb1 := hB.append (Gt q)
 have hne1 : B ++ List.replicate q 1 ≠ [] := fun e => hne (List.append_eq_nil_iff.1 e).1
 have hl1 : (B ++ List.replicate q 1).length = B.length + q := by rw [List.length_append, List.length_replicate]
 have c3 := MJ (v := v) (w := 18) (B := B ++ List.replicate q 1 ++ Bi 0 1) hv (by omega) (by omega) (hb1.append hB0) (Np (JV 0 0)) (by rw [List.length_append, Bp]; omega)
 rcases SY hq hB hne (by omega) with c1 | c1 <;> rcases QN (v := 0) (w := 0) (by decide) (by omega) hb1 hne1 (by omega) with c2 | c2
 ·exact W_rpF11 hv hqq hq c1 c2 c3
 ·exact W_rpF12 hv hqq hq c1 c2 c3
 ·exact W_rpF21 hv hqq hq c1 c2 c3
 ·exact W_rpF22 hv hqq hq c1 c2 c3
def dS0 (nl : Bool) (n : Nat) (L : List Int) : DS := ⟨[(0, .int .i64 19), (6, .at 0 []), (7, .int .u64 0), (12, .vec nl (.iarr .u64 n L)), (13, .int .i64 n), (14, .int .i64 0)], [(0, bwE)]⟩
def dS1 (nl : Bool) (n i s k m : Nat) (L l : List Int) : DS := ⟨[(0, .int .i64 19), (6, .at 0 []), (7, .int .u64 s), (12, .vec nl (.iarr .u64 n L)), (13, .int .i64 n), (14, .int .i64 i)], [(0, bwR 1 k m), (1, bwB k l)]⟩
theorem SX {nl : Bool} {n : Nat} {L : Liz} {hout : Lrz} {res : PV} (hw : Wt Try.f22 [] hout res (Aa Try.f22 0) (dS0 nl n L)) : Pt 22 [] [.int .i64 19, .vec nl (.iarr .u64 n L)] hout res := by
 refine pO Try.func22 (by kernel_rfl) ?_
 have c1 := TK
 refine W.sgA 0 [(2, c9 c1)] [(96, 0)] (dS0 nl n L) [_] (ao (c1)) ?_
 exact hw
theorem W_st0 {nl : Bool} {n x k m : Nat} {L l : Liz} {hout : Lrz} {res : PV} (hn : n ≤ 100000) (h0 : 0 < n) (g : L.getD 0 0 = (x : Int)) (hx : x < 18446744073709551616) (c1 : Pt 48 [(0, bwE)] [.at 0 [], .int .i64 19, .int .u64 x] [(0, bwR 1 k m), (1, bwB k l)] (.int .i64 0))
  (hw : Wt Try.f22 [] hout res (Aa Try.f22 0) (dS1 nl n 1 x k m L l)) : Wt Try.f22 [] hout res (Aa Try.f22 0) (dS0 nl n L) := by
 refine W.sgA 0 [(0, aT), (2, aV (U6 x)), (11, aV (U6 x)), (12, cC true [(0, 0)] c1), (18, aV (I6 1))] [(0, 0), (257, 1)] (dS1 nl n 1 x k m L l) [decide (0 < (n:Int)) = true, (0 : Int) ≤ 0, 0 < (n:Int), U6 (List.getD L 0 (0 : Int)) = U6 x, 0 < n, U6 (IntKind.wrap .u64 ((x:Int) - 0)) = U6 x, _, I6 (IntKind.wrap .i64 ((0 : Int) + (1 : Int))) = I6 1] (ac (dT (by omega)) (ob2 (by omega) (ac (cg (g)) (ac (by omega) (ac (cg (Ai rfl (by omega) (by omega))) (ac (c1) (ao (wj (by omega))))))))) ?_
 exact hw
theorem W_st1 {nl : Bool} {n i s d k m k2 m2 : Nat} {L l l2 : Liz} {hout : Lrz} {res : PV} (hn : n ≤ 100000) (hi : i < n) (g : L.getD i 0 = ((s + d : Nat) : Int)) (hx : s + d < 18446744073709551616) (c1 : Pt 48 [(0, bwR 1 k m), (1, bwB k l)] [.at 0 [], .int .i64 19, .int .u64 d] [(0, bwR 2 k2 m2), (2, bwB k2 l2)] (.int .i64 0))
  (hw : Wt Try.f22 [] hout res (Aa Try.f22 0) (dS1 nl n (i + 1) (s + d) k2 m2 L l2)) : Wt Try.f22 [] hout res (Aa Try.f22 0) (dS1 nl n i s k m L l) := by
 refine W.sgA 0 [(0, aT), (2, aV (U6 ↑(s + d))), (6, aF), (11, aV (U6 d)), (12, cC true [(0, 0), (1, 1)] c1), (18, aV (I6 ↑(i + 1)))] [(0, 0), (258, 1)] (dS1 nl n (i + 1) (s + d) k2 m2 L l2) [decide ((i:Int) < (n:Int)) = true, 0 ≤ (i:Int), (i:Int) < (n:Int), U6 (List.getD L i (0 : Int)) = U6 ↑(s + d), i < n, decide ((↑(s + d) : Int) < (s:Int)) = false, U6 (IntKind.wrap .u64 ((↑(s + d) : Int) - (s:Int))) = U6 d, _, I6 (IntKind.wrap .i64 ((i:Int) + 1)) = I6 ↑(i + 1)] (ac (dT (by omega)) (ob2 (by omega) (ac (cg (g)) (ac (by omega) (ac (dF (by omega)) (ac (cg (Ai (by omega) (by omega) (by omega))) (ac (c1) (ao (wj (by omega)))))))))) ?_
 exact hw
theorem Ph {k m : Nat} {l : Liz} (hl : l.length = k) (hk : k ≤ 1000000) : Pt 49 [(0, bwR 1 k m), (1, bwB k l)] [.at 0 []] [(0, bwR 1 k m), (1, ⟨.iarr .u8 k l, true⟩)] (.vec false (.iarr .u8 k l)) := by
 refine pO Try.func49 (by kernel_rfl) ?_
 have c1 := ED (nl := false) (show k ≤ 1000000000 by omega) hl (fun x => by cases x)
 have ht : l.take k = l := List.take_of_length_le (by omega)
 refine W.rtA [(5, cL false [] c1)] [(0, 0), (1, 1)] [0 + k ≤ k, rr ([] : List (Nat × Row)), ([PV.vec false (B8 k (List.take k l))] : List PV) = [PV.vec false (B8 k l)], _] (ac (by omega) (ac rfl (ac (by rw [List.take_of_length_le (show List.length l ≤ k by omega)]) (ao (c1)))))
theorem Om : Pt 49 [(0, bwE)] [.at 0 []] [(0, bwE)] (.vec true (.iarr .u8 0 [])) := by
 refine pO Try.func49 (by kernel_rfl) ?_
 have c1 := ED (nl := true) (n := 0) (l := []) (by omega) rfl (fun _ => rfl)
 refine W.rtA [(5, c9 c1)] [(0, 0)] [_] (ao (c1))
theorem W_stE {nl : Bool} {n s k m : Nat} {L l : Liz} (hl : l.length = k) (hk : k ≤ 1000000) : Wt Try.f22 [] [] (.tup [.vec false (.iarr .u8 k l), .int .i64 0]) (Aa Try.f22 0) (dS1 nl n n s k m L l) := by
 have c1 := Ph (m := m) hl hk
 refine W.rtA [(0, aF), (2, cC false [(0, 0), (1, 1)] c1)] [] [decide ((n:Int) < (n:Int)) = false, _] (ac (dF (by omega)) (ao (c1)))
theorem W_stE0 {nl : Bool} {L : Liz} : Wt Try.f22 [] [] (.tup [.vec true (.iarr .u8 0 []), .int .i64 0]) (Aa Try.f22 0) (dS0 nl 0 L) := by
 have c1 := Om
 refine W.rtA [(2, cC true [(0, 0)] c1)] [] [_] (ao (c1))
def inL (l : List Nat) : List Int := l.map fun x : Nat => (x : Int)
def stB : Nat → List Nat → List Nat
 | _, [] => []
 | s, x :: l => Ci (x - s) ++ stB x l
def Mj : Nat → List Nat → Prop
 | _, [] => True
 | s, x :: l => s ≤ x ∧ Mj x l
theorem Qt (v : Nat) : Ci v ≠ [] := Np (JV v 18)
theorem FN : ∀ (l : List Nat) (s : Nat), Bits (stB s l)
 | [], s => Bits.nil
 | x :: l, s => (EE _).append (FN l x)
theorem W_st {nl : Bool} {n : Nat} {L : Liz} (hn : n ≤ 2000) : ∀ (r : List Nat) (i s : Nat) (B : List Nat), i + r.length = n → L.drop i = inL r → Mj s r → (∀ x ∈ r, x < 1073741824) → Bits B → B ≠ [] → B.length ≤ 20 * i + s / 524288 → s < 1073741824 →
  Wt Try.f22 [] [] (.tup [.vec false (.iarr .u8 (pk (B ++ stB s r)).length (pk (B ++ stB s r))), .int .i64 0]) (Aa Try.f22 0) (dS1 nl n i s (pk B).length B.length L (pk B))
 | [], i, s, B, hi, hL, hr, hx, hB, h0, hb, hs => by
  obtain rfl : i = n := by simpa using hi
  have := Bj B
  rw [stB, List.append_nil]
  exact W_stE rfl (by omega)
 | x :: r, i, s, B, hi, hL, hr, hx, hB, h0, hb, hs => by
  rw [List.length_cons] at hi
  have hin : i < L.length := by
   rcases Nat.lt_or_ge i L.length with h | h
   ·exact h
   ·rw [List.drop_of_length_le h] at hL; cases hL
  have e1 : L.drop i = L[i] :: L.drop (i + 1) := List.drop_eq_getElem_cons hin
  rw [e1] at hL
  obtain ⟨g1, g2⟩ := List.cons.inj hL
  have g : L.getD i 0 = ((s + (x - s) : Nat) : Int) := by
   rw [List.getD_eq_getElem?_getD, List.getElem?_eq_getElem hin, show s + (x - s) = x by have := hr.1; omega]
   exact g1
  have hxx := hx x (by simp)
  have hlen := Dm (x - s)
  have hd : (x - s) / 524288 + s / 524288 ≤ x / 524288 := by have := hr.1; omega
  have c1 := TS (v := x - s) (by omega) (by omega) hB h0 (by omega)
  have ih := W_st (nl := nl) (L := L) hn r (i + 1) x (B ++ Ci (x - s)) (by omega) g2 hr.2 (fun y hy => hx y (by simp [hy])) (hB.append (EE _)) (Np (Qt _)) (by rw [List.length_append, hlen]; omega) hxx
  rw [stB, ← List.append_assoc]
  have ih2 := W_st1 (n := n) (s := s) (d := x - s) (by omega) (by omega) g (by omega) c1 (by rw [show s + (x - s) = x by have := hr.1; omega]; exact ih)
  exact ih2
theorem Sm {nl : Bool} {n : Nat} {r : List Nat} (hn : n ≤ 2000) (hl : r.length = n) (h0 : 0 < n) (hr : Mj 0 r) (hx : ∀ x ∈ r, x < 1073741824) : Pt 22 [] [.int .i64 19, .vec nl (.iarr .u64 n (inL r))] [] (.tup [.vec false (.iarr .u8 (pk (stB 0 r)).length (pk (stB 0 r))), .int .i64 0]) := by
 cases r with
 | nil => rw [List.length_nil] at hl; omega
 | cons x r =>
  rw [List.length_cons] at hl
  have hxx := hx x (by simp)
  have hlen := Dm x
  have c1 := UA (v := x) (by omega) (by omega)
  have hw := W_st (nl := nl) (n := n) (L := inL (x :: r)) hn r 1 x (Ci x) (by omega) rfl hr.2 (fun y hy => hx y (by simp [hy])) (EE _) (Qt _) (by omega) hxx
  rw [stB, Nat.sub_zero]
  exact SX (W_st0 (by omega) h0 rfl (by omega) c1 hw)
theorem Rh {nl : Bool} : Pt 22 [] [.int .i64 19, .vec nl (.iarr .u64 0 [])] [] (.tup [.vec true (.iarr .u8 0 []), .int .i64 0]) := SX W_stE0
end Go.Proofs
namespace Go.Proofs
open Go Go.Pe Go.Pm
set_option maxRecDepth 100000
set_option linter.unusedVariables false
attribute [local irreducible] lv
theorem RI {x : Nat} (hx : x < 253) : Pt 21 [(0, wrN)] [.at 0 [], .int .u64 x] [(0, wrR 2 1), (2, Cf 1 (le x 1))] (.tup []) := by
 refine pO Try.func21 (by kernel_rfl) ?_
 have c1 := Ms (x := x) (w := 1) (by omega) (by omega) (by omega)
 refine W.rtA [(1, aT), (5, cC true [(0, 0)] c1)] [(0, 0), (146, 2)] [decide ((x:Int) < 253) = true, _] (ac (dT (by omega)) (ao (c1)))
theorem Rm {x : Nat} (hx : ¬ x < 253) (hx2 : x < 65536) : Pt 21 [(0, wrN)] [.at 0 [], .int .u64 x] [(0, wrR 2 3), (2, Cf 3 (le 253 1 ++ le x 2))] (.tup []) := by
 refine pO Try.func21 (by kernel_rfl) ?_
 have c1 := Ms (x := 253) (w := 1) (by omega) (by omega) (by omega)
 have c2 := Un (x := x) (w := 2) (n := 1) (l := le 253 1) (by omega) (by omega) (Az _ _) (by omega)
 refine W.rtA [(1, aF), (4, aT), (7, cC true [(0, 0)] c1), (10, cC true [(0, 0), (178, 1)] c2)] [(0, 0), (226, 2)] [decide ((x:Int) < 253) = false, decide ((x:Int) ≤ 65535) = true, _, _] (ac (dF (by omega)) (ac (dT (by omega)) (ac (c1) (ao (c2)))))
def Cm (x : Nat) : List Int := if x < 253 then le x 1 else le 253 1 ++ le x 2
theorem F8 (x : Nat) : (Cm x).length = if x < 253 then 1 else 3 := by
 unfold Cm
 split
 ·exact Az _ _
 ·rw [List.length_append, Az, Az]
theorem LW {x : Nat} (hx : x < 65536) : Pt 21 [(0, wrN)] [.at 0 [], .int .u64 x] [(0, wrR 2 (Cm x).length), (2, Cf (Cm x).length (Cm x))] (.tup []) := by
 rw [F8]
 unfold Cm
 by_cases h : x < 253
 ·rw [if_pos h, if_pos h]
  exact RI h
 ·rw [if_neg h, if_neg h]
  exact Rm h hx
theorem W_bld0 {nl : Bool} {k0 k1 : Int} {o : Liz} (c1 : Pt 19 [] [.vec nl (.parr 1 0 ish [])] [] (.vec true (.parr 1 0 ish [])))
  (c2 : Pt 21 [(0, wrN)] [.at 0 [], .int .u64 0] [(0, wrR 2 1), (2, Cf 1 o)] (.tup [])) (c3 : Pt 23 [] [.iarr .u64 2 [k0, k1], .vec true (.parr 1 0 ish []), .int .u64 0] [(1, Ac 0 [])] (.ref 1 [] 1 0 0))
  (c4 : Pt 22 [] [.int .i64 19, .vec false (.iarr .u64 0 [])] [] (.tup [.vec true (.iarr .u8 0 []), .int .i64 0]))
  (c5 : Pt 24 [(0, wrR 1 1), (1, Cf 1 o)] [.at 0 [], .vec false (.parr 1 1 ish [.vec true (.iarr .u8 0 [])])] [(0, wrR 2 1), (2, Cf 1 o)] (.tup []))
  (c6 : Pt 25 [(0, wrR 1 1), (1, Cf 1 o)] [.at 0 []] [(0, wrR 1 1), (1, Cf 1 o), (2, Cf 1 o)] (.ref 2 [] 1 0 1)) :
  Pt 11 [] [.iarr .u64 2 [k0, k1], .vec nl (.parr 1 0 ish [])] [(1, Cf 1 o)] (.tup [.ref 1 [] 1 0 1, .int .i64 0]) := by
 refine pO Try.func11 (by kernel_rfl) ?_
 have c7 := N8
 refine W.rtA [(4, c9 c1), (7, aV (I6 0)), (9, c9 c7), (13, aV (I6 0)), (14, aV (U6 0)), (15, cC true [(209, 0)] c2), (19, aV (I6 0)), (20, aV (U6 0)), (21, aV (U6 0)), (22, c9 c3), (23, c9 c4), (34, cC true [(209, 0), (306, 1)] c5), (36, cC true [(209, 0), (610, 1)] c6)] [(642, 1)] [_, I6 ↑(0 : Nat) = I6 0, _, I6 ↑(0 : Nat) = I6 0, U6 (IntKind.wrap .u64 (0 : Int)) = U6 0, _, I6 ↑(0 : Nat) = I6 0, U6 (IntKind.wrap .u64 (0 : Int)) = U6 0, U6 (IntKind.wrap .u64 ((784931 : Int) * (0 : Int))) = U6 0, _, 0 ≤ 0, _, 1 ≤ 1, _, _] (ac (c1) (ac (cg (by omega)) (ac (c7) (ac (cg (by omega)) (ac (cg (Ai rfl (by omega) (by omega))) (ac (c2) (ac (cg (by omega)) (ac (cg (Ai rfl (by omega) (by omega))) (ac (cg (Ai rfl (by omega) (by omega))) (ac (c3) (ac (by omega) (ac (c4) (ac (by omega) (ac (c5) (ao (c6))))))))))))))))
theorem W_bld {nl : Bool} {n k a b m t : Nat} {k0 k1 : Int} {M U : Lpz} {nums o s q : Liz} (hn : n ≤ 1000000) (hk : k ≤ 1000) (hU : U.length = k) (hL : nums.length = k) (ht : k * 784931 = t) (c1 : Pt 19 [] [.vec nl (.parr 1 n ish M)] [(1, ⟨.parr 1 k ish U, false⟩)] (.ref 1 [] 1 0 k))
  (c2 : Pt 21 [(0, wrN)] [.at 0 [], .int .u64 k] [(0, wrR 2 a), (2, Cf a o)] (.tup [])) (c3 : Pt 23 [] [.iarr .u64 2 [k0, k1], .vec false (.parr 1 k ish U), .int .u64 t] [(1, Ac k nums)] (.ref 1 [] 1 0 k))
  (c4 : Pt 22 [] [.int .i64 19, .vec false (.iarr .u64 k nums)] [] (.tup [.vec false (.iarr .u8 b s), .int .i64 0]))
  (c5 : Pt 24 [(0, wrR 1 a), (1, Cf a o)] [.at 0 [], .vec false (.parr 1 1 ish [.vec false (.iarr .u8 b s)])] [(0, wrR 2 m), (2, Cf m q)] (.tup []))
  (c6 : Pt 25 [(0, wrR 1 m), (1, Cf m q)] [.at 0 []] [(0, wrR 1 m), (1, Cf m q), (2, Cf m q)] (.ref 2 [] 1 0 m)) :
  Pt 11 [] [.iarr .u64 2 [k0, k1], .vec nl (.parr 1 n ish M)] [(1, Cf m q)] (.tup [.ref 1 [] 1 0 m, .int .i64 0]) := by
 refine pO Try.func11 (by kernel_rfl) ?_
 have c7 := N8
 have h1 : U.take k = U := List.take_of_length_le (by omega)
 have h2 : nums.take k = nums := List.take_of_length_le (by omega)
 have h3 : ((784931 * k % 18446744073709551616 : Nat) : Int) = (t : Int) := by omega
 have h4 : ((784931 * k : Nat) : Int) = (t : Int) := by omega
 refine W.rtA [(4, c0 c1), (8, aF), (9, c9 c7), (14, aV (U6 k)), (15, cC true [(209, 0)] c2), (20, aV (U6 k)), (21, aV (U6 t)), (22, cL true [] c3), (23, cL false [] c4), (34, cC true [(209, 0), (306, 1)] c5), (36, cC true [(209, 0), (610, 1)] c6)] [(642, 1)] [_, decide ((k:Int) > 1000) = false, _, U6 (IntKind.wrap .u64 (k:Int)) = U6 k, _, U6 (IntKind.wrap .u64 (k:Int)) = U6 k, U6 (IntKind.wrap .u64 (784931 * (k:Int))) = U6 t, 0 + k ≤ k, rr ([] : List (Nat × Row)), ([B6 2 [k0, k1], PV.vec false (PV.parr 1 k (Sh.vec 1 (Sh.int .u8)) (List.take k U)), U6 t] : List PV) = [B6 2 [k0, k1], PV.vec false (PV.parr 1 k (Sh.vec 1 (Sh.int .u8)) U), U6 t], _, 0 + k ≤ k, rr ([] : List (Nat × Row)), ([I6 19, PV.vec false (B6 k (List.take k nums))] : List PV) = [I6 19, PV.vec false (B6 k nums)], _, 1 ≤ 1, _, _] (ac (c1) (ac (dF (by omega)) (ac (c7) (ac (cg (Ai rfl (by omega) (by omega))) (ac (c2) (ac (cg (Ai rfl (by omega) (by omega))) (ac (cg (Ai h4 (by omega) (by omega))) (ac (by omega) (ac rfl (ac (by rw [List.take_of_length_le (show List.length U ≤ k by omega)]) (ac (c3) (ac (by omega) (ac rfl (ac (by rw [List.take_of_length_le (show List.length nums ≤ k by omega)]) (ac (c4) (ac (by omega) (ac (c5) (ao (c6)))))))))))))))))))
end Go.Proofs
namespace Go.Proofs
open Go Go.Pe Go.Pm
set_option maxRecDepth 100000
set_option linter.unusedVariables false
attribute [local irreducible] lv
def KF (U : List It) (b : List Int) : Bool := U.any fun u => decide (u.2 = b)
def Bo : List It → List It → List It
 | U, [] => U
 | U, x :: l => if KF U x.2 = true then Bo U l else Bo (U ++ [x]) l
structure BQ (x : It) : Prop where
 b : Bytes x.2
 nl : x.1 = true → x.2 = []
 len : x.2.length ≤ 1000000
theorem Qz : ∀ (U : List It), (∀ u ∈ U, Bytes u.2) → ∀ {b : List Int}, Bytes b → CX (ksI U) (.str (strOf b)) = KF U b
 | [], _, b, _ => rfl
 | u :: U, h, b, hb => by
  have ih := Qz U (fun v hv => h v (List.mem_cons_of_mem _ hv)) hb
  unfold CX ksI KF at ih ⊢
  rw [List.map_cons, List.any_cons, List.any_cons, ih]
  congr 1
  unfold Ei
  rw [decide_eq_decide]
  exact ⟨fun e => (ET hb (h u (by simp)) e).symm, fun e => by rw [e]⟩
theorem Mg : ∀ (K : List PV) (V : List Int) (q : PV), CX K q = false → AO K V q = 0
 | [], V, q, _ => by cases V <;> rfl
 | k :: K, [], q, _ => rfl
 | k :: K, v :: V, q, h => by
  unfold CX at h
  rw [List.any_cons, Bool.or_eq_false_iff] at h
  unfold AO
  rw [if_neg (by rw [h.1]; decide)]
  exact Mg K V q h.2
theorem Nu : ∀ (K : List PV) (V : List Int) (s : ByteArray) (x : Int), CX K (.str s) = false → K.length = V.length → AO (K ++ [.str s]) (V ++ [x]) (.str s) = x
 | [], [], s, x, _, _ => by simp [AO, Ei]
 | [], v :: V, s, x, _, h => by simp at h
 | k :: K, [], s, x, _, h => by simp at h
 | k :: K, v :: V, s, x, h, hl => by
  unfold CX at h
  rw [List.any_cons, Bool.or_eq_false_iff] at h
  rw [List.cons_append, List.cons_append]
  unfold AO
  rw [if_neg (by rw [h.1]; decide)]
  exact Nu K V s x h.2 (by simpa using hl)
theorem OA : ∀ (K : List PV) (V : List Int) (q : PV), CX K q = true → K.length = V.length → AO K V q ∈ V
 | [], V, q, h, _ => by cases h
 | k :: K, [], q, _, h => by simp at h
 | k :: K, v :: V, q, h, hl => by
  unfold CX at h
  rw [List.any_cons, Bool.or_eq_true] at h
  unfold AO
  by_cases e : Ei q k = true
  ·rw [if_pos e]; simp
  ·rw [if_neg e]
   exact List.mem_cons_of_mem _ (OA K V q (h.resolve_left e) (by simpa using hl))
theorem Oh : ∀ (K : List PV) (V : List Int) (q : PV) (x : Int), CX K q = true → K.length = V.length → AO K (Dn K V q x) q = x
 | [], V, q, x, h, _ => by cases h
 | k :: K, [], q, x, _, h => by simp at h
 | k :: K, v :: V, q, x, h, hl => by
  unfold CX at h
  rw [List.any_cons, Bool.or_eq_true] at h
  unfold Dn
  by_cases e : Ei q k = true
  ·rw [if_pos e]
   unfold AO
   rw [if_pos e]
  ·rw [if_neg e]
   unfold AO
   rw [if_neg e]
   exact Oh K V q x (h.resolve_left e) (by simpa using hl)
theorem QX : ∀ (K : List PV) (V : List Int) (q : PV) (x : Int), (Dn K V q x).length = V.length ∧ ∀ y ∈ Dn K V q x, y = x ∨ y ∈ V
 | [], V, q, x => by
  cases V <;> exact ⟨rfl, fun y hy => .inr hy⟩
 | k :: K, [], q, x => ⟨rfl, fun y hy => .inr hy⟩
 | k :: K, v :: V, q, x => by
  unfold Dn
  split
  ·refine ⟨rfl, fun y hy => ?_⟩
   rcases List.mem_cons.1 hy with rfl | hy
   ·exact .inl rfl
   ·exact .inr (List.mem_cons_of_mem _ hy)
  ·have ih := QX K V q x
   refine ⟨by rw [List.length_cons, List.length_cons, ih.1], fun y hy => ?_⟩
   rcases List.mem_cons.1 hy with rfl | hy
   ·exact .inr (by simp)
   ·exact (ih.2 y hy).imp_right (List.mem_cons_of_mem _)
theorem Bw {I : List It} {i : Nat} (h : i < I.length) : (I.map itB).getD i .undef = .vec (I.getD i default).1 (.iarr .u8 (I.getD i default).2.length (I.getD i default).2) := by
 simp [List.getD_eq_getElem?_getD, h, itB]
theorem Jl {I : List It} (ho : ∀ x ∈ I, BQ x) {i : Nat} (h : i < I.length) : BQ (I.getD i default) := by
 have : I.getD i default = I[i] := by simp [List.getD_eq_getElem?_getD, h]
 rw [this]; exact ho _ (List.getElem_mem h)
theorem drop_at {α : Type} [Inhabited α] {I : List α} {i : Nat} (h : i < I.length) : I.drop i = I.getD i default :: I.drop (i + 1) := by
 rw [List.drop_eq_getElem_cons h]; simp [List.getD_eq_getElem?_getD, h]
theorem I8 : ∀ (l U : List It), U.length ≤ (Bo U l).length ∧ (Bo U l).length ≤ U.length + l.length
 | [], U => ⟨Nat.le_refl _, by rw [Bo]; simp⟩
 | x :: l, U => by
  unfold Bo
  split
  ·have := I8 l U
   rw [List.length_cons]; omega
  ·have := I8 l (U ++ [x])
   rw [List.length_append, List.length_singleton] at this
   rw [List.length_cons]; omega
theorem IY {P : It → Prop} : ∀ (l U : List It), (∀ x ∈ U, P x) → (∀ x ∈ l, P x) → ∀ x ∈ Bo U l, P x
 | [], U, hU, _ => hU
 | y :: l, U, hU, hl => by
  unfold Bo
  split
  ·exact IY l U hU fun x hx => hl x (List.mem_cons_of_mem _ hx)
  ·refine IY l (U ++ [y]) (fun x hx => ?_) fun x hx => hl x (List.mem_cons_of_mem _ hx)
   rcases List.mem_append.1 hx with hx | hx
   ·exact hU x hx
   ·rw [List.mem_singleton.1 hx]; exact hl y (by simp)
theorem W_un {nl : Bool} {I : List It} (hn : I.length ≤ 900000) (ho : ∀ x ∈ I, BQ x) : ∀ (r i : Nat) (U : List It) (V : List Int), i + r = I.length → 0 < i → (∀ u ∈ U, BQ u) → U.length ≤ i → V.length = U.length → (∀ v ∈ V, 1 ≤ v ∧ v ≤ (i : Int)) →
  Wt Try.f19 [] [(1, ⟨.parr 1 (Bo U (I.drop i)).length ish ((Bo U (I.drop i)).map itB), false⟩)] (.ref 1 [] 1 0 (Bo U (I.drop i)).length) (Aa Try.f19 0) (dU nl I.length i U.length (I.map itB) (ksI U) V (U.map itB))
 | 0, i, U, V, hk, h0, hU, hl, hV, hv => by
  obtain rfl : i = I.length := by omega
  rw [List.drop_of_length_le (Nat.le_refl _), Bo]
  exact W_uE
 | r + 1, i, U, V, hk, h0, hU, hl, hV, hv => by
  have hi : i < I.length := by omega
  have hx := Jl ho hi
  have g := Bw hi
  have hs := Qz U (fun u hu => (hU u hu).b) hx.b
  have hkl : (ksI U).length = V.length := by rw [hV]; simp [ksI]
  rw [drop_at hi, Bo]
  by_cases h : KF U (I.getD i default).2 = true
  ·rw [if_pos h]
   rw [h] at hs
   have hb := hv _ (OA _ V _ hs hkl)
   have hm := QX (ksI U) V (.str (strOf (I.getD i default).2)) (AO (ksI U) V (.str (strOf (I.getD i default).2)) + 1)
   have hw := W_un (nl := nl) hn ho r (i + 1) U (Dn (ksI U) V (.str (strOf (I.getD i default).2)) (AO (ksI U) V (.str (strOf (I.getD i default).2)) + 1)) (by omega) (by omega) hU (by omega) (by rw [hm.1, hV]) (fun v hv2 => by
    rcases hm.2 v hv2 with rfl | h3
    ·omega
    ·have := hv v h3; omega)
   exact W_uO hi (by omega) g rfl hb.1 (by omega) hs rfl (Oh _ V _ _ hs hkl) hw
  ·rw [if_neg h]
   have hf : KF U (I.getD i default).2 = false := by simpa using h
   rw [hf] at hs
   have hw := W_un (nl := nl) hn ho r (i + 1) (U ++ [I.getD i default]) (V ++ [1]) (by omega) (by omega) (fun u hu => by
    rcases List.mem_append.1 hu with hu | hu
    ·exact hU u hu
    ·rw [List.mem_singleton.1 hu]; exact hx) (by rw [List.length_append, List.length_singleton]; omega) (by rw [List.length_append, List.length_append, hV]; rfl) (fun v hv2 => by
    rcases List.mem_append.1 hv2 with h3 | h3
    ·have := hv v h3; omega
    ·rw [List.mem_singleton.1 h3]; omega)
   have e1 : ksI (U ++ [I.getD i default]) = ksI U ++ [.str (strOf (I.getD i default).2)] := by unfold ksI; rw [List.map_append]; rfl
   have e2 : (U ++ [I.getD i default]).map itB = U.map itB ++ [.vec (I.getD i default).1 (.iarr .u8 (I.getD i default).2.length (I.getD i default).2)] := by rw [List.map_append]; rfl
   rw [e1, e2, List.length_append, List.length_singleton] at hw
   exact W_uN hi (by omega) hl (by rw [List.length_map]) g rfl hs (Mg _ V _ hs) (Nu _ V _ 1 hs hkl) hw
theorem R5 {nl : Bool} {I : List It} (hn : I.length ≤ 900000) (h0 : 0 < I.length) (ho : ∀ x ∈ I, BQ x) : Pt 19 [] [.vec nl (.parr 1 I.length ish (I.map itB))] [(1, ⟨.parr 1 (Bo [] I).length ish ((Bo [] I).map itB), false⟩)] (.ref 1 [] 1 0 (Bo [] I).length) := by
 refine W_uIn ?_
 have hx := Jl ho h0
 have e : Bo [] I = Bo [I.getD 0 default] (I.drop 1) := by
  have := drop_at h0
  rw [List.drop_zero] at this
  conv => lhs; rw [this]
  rw [Bo, if_neg (by simp [KF])]
  rfl
 rw [e]
 have hw := W_un (nl := nl) hn ho (I.length - 1) 1 [I.getD 0 default] [1] (by omega) (by omega) (fun u hu => by rw [List.mem_singleton.1 hu]; exact hx) (Nat.le_refl 1) rfl (fun v hv => by rw [List.mem_singleton.1 hv]; omega)
 exact W_ul0 h0 (by omega) (Bw h0) rfl hw
def CL (k0 k1 t : Nat) (u : It) : Nat := MC k0 k1 u.2 * t / 18446744073709551616
def Cu (k0 k1 t : Nat) (U : List It) : List Int := U.map fun u => (CL k0 k1 t u : Int)
theorem Fu {k0 k1 : Nat} {l : List Int} (h0 : k0 < 18446744073709551616) (h1 : k1 < 18446744073709551616) (hb : Bytes l) : MC k0 k1 l < 18446744073709551616 := by
 have hB : ∀ (q : Nat) (v : V4) (l : List Int), v.Ok → Bytes l → (Ed v l q).Ok := by
  intro q
  induction q with
  | zero => intro v l hv _; exact hv
  | succ q ih => intro v l hv hb; exact ih _ _ (hv.tk (Ef hb 8)) (hb.drop _)
 unfold MC sipF sipE
 have hv := hB (l.length / 8) (Ep k0 k1) l (MB h0 h1) hb
 have hd : Bytes (l.drop (8 * (l.length / 8))) := hb.drop _
 have hdl : (l.drop (8 * (l.length / 8))).length < 8 := by rw [List.length_drop]; omega
 have hk := Ef hd (l.drop (8 * (l.length / 8))).length
 have hk2 : 2 ^ (8 * (l.drop (8 * (l.length / 8))).length) ≤ 2 ^ 64 := Nat.pow_le_pow_right (by omega) (by omega)
 have ho : l.length % 256 * 72057594037927936 ||| lv (l.drop (8 * (l.length / 8))) (l.drop (8 * (l.length / 8))).length < 18446744073709551616 := Nat.or_lt_two_pow (n := 64) (by omega) (Nat.lt_of_lt_of_le hk hk2)
 have hw := hv.tk ho
 exact sipX_lt (V4.Ok.rnd (V4.Ok.rnd (V4.Ok.rnd (V4.Ok.rnd ⟨hw.a, hw.b, BO hw.c (by decide), hw.d⟩))))
theorem Mx {k0 k1 t : Nat} {u : It} (h0 : k0 < 18446744073709551616) (h1 : k1 < 18446744073709551616) (hb : Bytes u.2) (ht : 0 < t) : CL k0 k1 t u < t := by
 unfold CL
 have := Fu h0 h1 hb
 rw [Nat.div_lt_iff_lt_mul (by decide), Nat.mul_comm]
 exact Nat.mul_lt_mul_of_pos_left this ht
theorem W_num {nl : Bool} {k0 k1 t : Nat} {U : List It} (h0 : k0 < 18446744073709551616) (h1 : k1 < 18446744073709551616) (ht : t < 18446744073709551616) (hn : U.length < 65536) (ho : ∀ x ∈ U, BQ x) : ∀ (r i : Nat), i + r = U.length →
  Wt Try.f23 [] [(1, Ac U.length ((Cu k0 k1 t U).mergeSort (fun x y => decide (x ≤ y))))] (.ref 1 [] 1 0 U.length) (Aa Try.f23 0) (dN0 nl U.length i t k0 k1 (U.map itB) ((Cu k0 k1 t U).take i))
 | 0, i, hk => by
  obtain rfl : i = U.length := by omega
  have hl : (Cu k0 k1 t U).length = U.length := by simp [Cu]
  rw [List.take_of_length_le (by omega)]
  exact W_nE (UJ hn hl)
 | r + 1, i, hk => by
  have hi : i < U.length := by omega
  have hx := Jl ho hi
  have hs : (Cu k0 k1 t U).take (i + 1) = (Cu k0 k1 t U).take i ++ [((CL k0 k1 t (U.getD i default) : Nat) : Int)] := by
   rw [List.take_add_one]
   congr 1
   simp [Cu, List.getD_eq_getElem?_getD, hi]
  have ih := W_num (nl := nl) h0 h1 ht hn ho r (i + 1) (by omega)
  rw [hs] at ih
  exact W_nS hi (by omega) (by rw [List.length_take]; simp [Cu]; omega) (Bw hi) rfl (II rfl hx.len h0 h1 hx.b) (DV (Fu h0 h1 hx.b) ht) ih
theorem KE {nl : Bool} {k0 k1 t : Nat} {U : List It} (h0 : k0 < 18446744073709551616) (h1 : k1 < 18446744073709551616) (ht : t < 18446744073709551616) (hn : U.length < 65536) (ho : ∀ x ∈ U, BQ x) :
  Pt 23 [] [.iarr .u64 2 [(k0 : Int), (k1 : Int)], .vec nl (.parr 1 U.length ish (U.map itB)), .int .u64 t] [(1, Ac U.length ((Cu k0 k1 t U).mergeSort (fun x y => decide (x ≤ y))))] (.ref 1 [] 1 0 U.length) :=
 W_nIn (by omega) (W_num h0 h1 ht hn ho U.length 0 (by omega))
end Go.Proofs
namespace Go.Proofs
open Go Go.Pe Go.Pm
set_option maxRecDepth 100000
set_option linter.unusedVariables false
attribute [local irreducible] lv
def vH (e c : Nat) (L : List Int) : List (Nat × Row) := if e = 0 then [(1, Ac c L)] else []
def vP (e c : Nat) : PV := if e = 0 then .tup [.ref 1 [] 1 0 c, .int .i64 0] else .tup [AV, .int .i64 e]
theorem Q4 (k o m : Nat) : Ce k o m < 100 := by
 unfold Ce
 split
 ·omega
 ·split <;> omega
theorem NZ {l : List Int} {n a : Nat} : gE l n a < 100 := by
 have := Q4 (8 * n - a) (gO l n a) 65536
 unfold gE
 split
 ·exact this
 ·split <;> omega
theorem Ej {l : List Int} {n c a e : Nat} {o : List Int} (h : e ≠ 0) : vlE l n c (o, a, e) = e := if_pos h
theorem Nr {l : List Int} {n c a : Nat} {o : List Int} (hc : 0 < c) : vlE l n c (o, a, 0) = if 8 * n - a < 8 ∧ Cg l a (8 * n - a) = true then 0 else 3 := by
 unfold vlE
 rw [if_neg (by simp), if_neg (by omega)]
theorem W_v {nl : Bool} {n c : Nat} {l : Liz} (hn : n ≤ 1000000) (hb : Bytes l) (hc : c ≤ 1000) : ∀ (k a s i : Nat) (o : List Int), i + k = c → 0 < i → o.length = i → s < c * 784931 → a ≤ 8 * n →
  Wt Try.f14 [] (vH (vlE l n c (vlF l n (c * 784931) k a s o)) c (vlF l n (c * 784931) k a s o).1) (vP (vlE l n c (vlF l n (c * 784931) k a s o)) c) (Aa Try.f14 0) (dV nl n a c s i l o)
 | 0, a, s, i, o, hk, h0, ho, hs, ha => by
  obtain rfl : i = c := by omega
  have c1 := Kv (nl := nl) hn hb ha
  unfold vlF
  rw [Nr h0]
  by_cases h : 8 * n - a < 8 ∧ Cg l a (8 * n - a) = true
  ·rw [decide_eq_true h] at c1
   rw [if_pos h]
   exact W_vX (b := true) h0 hc c1
  ·rw [decide_eq_false h] at c1
   rw [if_neg h]
   exact W_vXn h0 hc c1
 | k + 1, a, s, i, o, hk, h0, ho, hs, ha => by
  have c1 := Qu (nl := nl) hn hb ha
  unfold vlF
  by_cases he : gE l n a = 0
  ·rw [if_pos he, if_pos he] at c1
   rw [he] at c1
   obtain ⟨hA, hO⟩ := Qi ha he
   have hv := Qv hO
   rw [if_neg (not_not_intro he)]
   by_cases hl : c * 784931 ≤ s + gV l n a
   ·rw [if_pos hl, Ej (by decide)]
    exact W_vB (by omega) hc hv (by omega) hl c1
   ·rw [if_neg hl]
    exact W_vS ho (by omega) hc hv (by omega) (by omega) c1 (W_v hn hb hc k _ _ _ _ (by omega) (by omega) (by simp [ho]) (by omega) hA)
  ·rw [if_neg he, if_neg he] at c1
   rw [if_pos he, Ej he]
   unfold vH vP
   rw [if_neg he, if_neg he]
   exact W_vE (by omega) hc he NZ c1
def Br (b : List Int) : Nat := (Rd.mk b 0).vn 1000
def K9 (b : List Int) : Nat := (Rd.mk b 0).ve 1000
def vS (b : List Int) : List Int := ((Rd.mk b 0).var 1000).s
def EZ (b : List Int) : List Int × Nat × Nat := vlF (vS b) (vS b).length (Br b * 784931) (Br b) 0 0 []
def vE (b : List Int) : Nat := if K9 b ≠ 0 then K9 b else vlE (vS b) (vS b).length (Br b) (EZ b)
theorem W_v0 {nl : Bool} {l : Liz} {c : Nat} (hn : l.length ≤ 1000000) (hb : Bytes l) (hc : c ≤ 1000) (h0 : 0 < c) :
  Wt Try.f14 [] (vH (vlE l l.length c (vlF l l.length (c * 784931) c 0 0 [])) c (vlF l l.length (c * 784931) c 0 0 []).1) (vP (vlE l l.length c (vlF l l.length (c * 784931) c 0 0 [])) c) (Aa Try.f14 0) (dV0 nl l.length 0 c l) := by
 obtain ⟨k, rfl⟩ : ∃ k, c = k + 1 := ⟨c - 1, by omega⟩
 have c1 := Qu (nl := nl) (a := 0) hn hb (by omega)
 rw [show vlF l l.length ((k + 1) * 784931) (k + 1) 0 0 [] = if gE l l.length 0 ≠ 0 then ([], 0, gE l l.length 0) else if (k + 1) * 784931 ≤ 0 + gV l l.length 0 then ([], 0, 5) else vlF l l.length ((k + 1) * 784931) k (gA l l.length 0) (0 + gV l l.length 0) ([] ++ [((0 + gV l l.length 0 : Nat) : Int)]) from rfl]
 by_cases he : gE l l.length 0 = 0
 ·rw [if_pos he, if_pos he] at c1
  rw [he] at c1
  obtain ⟨hA, hO⟩ := Qi (Nat.zero_le _) he
  have hv := Qv hO
  rw [if_neg (not_not_intro he), Nat.zero_add]
  by_cases hl : (k + 1) * 784931 ≤ gV l l.length 0
  ·rw [if_pos hl, Ej (by decide)]
   exact W_vB0 (by omega) hc hv hl c1
  ·rw [if_neg hl]
   exact W_vS0 (by omega) hc hv (by omega) c1 (W_v hn hb hc k _ _ _ _ (by omega) (by omega) rfl (by omega) hA)
 ·rw [if_neg he, if_neg he] at c1
  rw [if_pos he, Ej he]
  unfold vH vP
  rw [if_neg he, if_neg he]
  exact W_vE0 (by omega) hc he NZ c1
theorem W_vInE {nl : Bool} {m a e x : Nat} {b : Liz} (he : e ≠ 0) (he2 : e ≤ 100) (c1 : Pt 29 [] [.vec nl (.iarr .u8 m b)] [(1, rdq nl m b 0 0)] (.at 1 [])) (c2 : Pt 30 [(0, rdq nl m b 0 0)] [.at 0 [], .int .u64 1000] [(0, rdq nl m b a e)] (.int .u64 x)) (c3 : Pt 31 [(0, rdq nl m b a e)] [.at 0 []] [(0, rdq nl m b a e)] (.int .i64 e)) :
  Pt 14 [] [.vec nl (.iarr .u8 m b)] [] (.tup [AV, .int .i64 e]) := by
 refine pO Try.func14 (by kernel_rfl) ?_
 unfold AV
 refine W.rtA [(3, c0 c1), (6, cC false [(113, 0)] c2), (9, cC false [(113, 0)] c3), (12, aT)] [] [_, _, _, ((e:Int) != 0) = true] (ac (c1) (ac (c2) (ac (c3) (ao (bne_iff_ne.2 (by omega))))))
theorem W_vIn {nl : Bool} {m a x w : Nat} {b s : Liz} {hout : Lrz} {res : PV} (c1 : Pt 29 [] [.vec nl (.iarr .u8 m b)] [(1, rdq nl m b 0 0)] (.at 1 [])) (c2 : Pt 30 [(0, rdq nl m b 0 0)] [.at 0 [], .int .u64 1000] [(0, rdq nl m b a 0)] (.int .u64 x)) (c3 : Pt 31 [(0, rdq nl m b a 0)] [.at 0 []] [(0, rdq nl m b a 0)] (.int .i64 0))
  (c4 : Pt 34 [(0, rdq nl m b a 0)] [.at 0 []] [(0, rdq nl m b a 0)] (.int .i64 w)) (c5 : Pt 33 [(0, rdq nl m b a 0)] [.at 0 [], .int .i64 w] [(0, rdq nl m b (a + w) 0)] (.vec nl (.iarr .u8 w s))) (c6 : Pt 32 [] [.vec nl (.iarr .u8 w s)] [(1, btR nl w s 0)] (.at 1 []))
  (hw : Wt Try.f14 [] hout res (Aa Try.f14 0) (dV0 nl w 0 x s)) :
  Pt 14 [] [.vec nl (.iarr .u8 m b)] hout res := by
 refine pO Try.func14 (by kernel_rfl) ?_
 unfold dV0 AV at hw
 refine W.sgA 0 [(3, c0 c1), (6, cC false [(113, 0)] c2), (9, cC false [(113, 0)] c3), (15, cC false [(113, 0)] c4), (16, cC false [(113, 0)] c5), (17, c0 c6)] [(337, 0)] (dV0 nl w 0 x s) [_, _, _, _, _, _] (ac (c1) (ac (c2) (ac (c3) (ac (c4) (ac (c5) (ao (c6))))))) ?_
 exact hw
theorem var_e (r : Rd) (m : Nat) : (r.var m).e = r.ve m := by
 unfold Rd.var
 split
 ·rename_i h; exact h.symm
 ·rfl
theorem MX {nl : Bool} {m : Nat} {b : Liz} (hl : b.length = m) (hm : m ≤ 1000000) (hb : Bytes b) (hnl : nl = true → m = 0) :
  Pt 14 [] [.vec nl (.iarr .u8 m b)] (if Br b = 0 then [] else vH (vE b) (Br b) (EZ b).1) (if Br b = 0 then .tup [AV, .int .i64 (vE b)] else vP (vE b) (Br b)) := by
 have hr : (Rd.mk b 0).In b m := ⟨hl, by show b.length ≤ m; omega, by show b = b.drop (m - b.length); rw [hl, Nat.sub_self, List.drop_zero], hb⟩
 have c1 := pc_rdOf (nl := nl) hm hl hnl
 have c2 := UO (m := 1000) hr hm (show (0 : Nat) ≤ 100 by omega) (by decide) hnl
 have e0 : m - (Rd.mk b 0).s.length = 0 := by show m - b.length = 0; omega
 rw [e0, var_e] at c2
 have hr2 := hr.var 1000
 have hcl : Br b ≤ 1000 := Rd.Qy _ _
 have hE : (Rd.mk b 0).ve 1000 ≤ 100 := by
  unfold Rd.ve
  split
  ·split
   ·omega
   ·split
    ·omega
    ·split <;> omega
  ·exact Nat.zero_le 100
 have c3 := Tf (nl := nl) (a := m - ((Rd.mk b 0).var 1000).s.length) (e := (Rd.mk b 0).ve 1000) hl hE
 unfold vE
 by_cases h : (Rd.mk b 0).ve 1000 = 0
 ·rw [h] at c2 c3
  have h' : ¬ K9 b ≠ 0 := not_not_intro h
  rw [if_neg h']
  have c4 := Sb (nl := nl) (a := m - ((Rd.mk b 0).var 1000).s.length) (e := 0) hl hm (by omega)
  have hle := hr2.le
  have hsl : m - (m - ((Rd.mk b 0).var 1000).s.length) = (vS b).length := by show m - (m - ((Rd.mk b 0).var 1000).s.length) = ((Rd.mk b 0).var 1000).s.length; omega
  rw [hsl] at c4
  have c5 := Km (nl := nl) (a := m - ((Rd.mk b 0).var 1000).s.length) (w := (vS b).length) hl hm (by show m - ((Rd.mk b 0).var 1000).s.length + ((Rd.mk b 0).var 1000).s.length ≤ m; omega) hnl
  have hs : (b.drop (m - ((Rd.mk b 0).var 1000).s.length)).take (vS b).length = vS b := by
   rw [← hr2.eq]
   exact List.take_of_length_le (Nat.le_refl _)
  rw [hs] at c5
  have hbs : Bytes (vS b) := hr2.bytes
  have hsl2 : (vS b).length ≤ m := hle
  have c6 := pc_btOf (nl := nl) (show (vS b).length ≤ 1000000 by omega) rfl (fun x => by have := hnl x; omega)
  refine W_vIn c1 c2 c3 c4 c5 c6 ?_
  show Wt Try.f14 [] _ _ _ (dV0 nl (vS b).length 0 (Br b) (vS b))
  by_cases h0 : Br b = 0
  ·rw [if_pos h0, if_pos h0]
   have e : vlE (vS b) (vS b).length (Br b) (EZ b) = if 0 < (vS b).length then 3 else 0 := by
    unfold EZ
    rw [h0]
    unfold vlE vlF
    dsimp only
    rw [if_neg (by simp)]
    by_cases hz : 0 < (vS b).length
    ·rw [if_pos ⟨rfl, hz⟩, if_pos hz]
    ·rw [if_neg (fun x => hz x.2), if_neg hz]
     have : (vS b).length = 0 := by omega
     rw [this]
     rfl
   rw [e, h0]
   have cL := CF (nl := nl) (n := (vS b).length) (a := 0) (l := vS b) (by omega) (by omega)
   by_cases hz : 0 < (vS b).length
   ·rw [if_pos hz]
    exact W_vZn (q := 8 * (vS b).length - 0) (by omega) cL
   ·rw [if_neg hz]
    have hz0 : (vS b).length = 0 := by omega
    rw [hz0] at cL ⊢
    have cC := Kv (nl := nl) (n := 0) (a := 0) (l := vS b) (by omega) hbs (by omega)
    exact W_vZ cL cC
  ·rw [if_neg h0, if_neg h0]
   exact W_v0 (by omega) hbs hcl (by omega)
 ·have h' : K9 b ≠ 0 := h
  have h0 : Br b = 0 := by
   show (Rd.mk b 0).vn 1000 = 0
   unfold Rd.vn
   rw [if_neg h]
  rw [if_pos h', if_pos h0, if_pos h0]
  exact W_vInE h hE c1 c2 c3
end Go.Proofs
namespace Go.Proofs
open Go Go.Pe Go.Pm
set_option maxRecDepth 100000
set_option linter.unusedVariables false
attribute [local irreducible] lv
theorem Mf (x : Int) : Pt 72 [] [.int .u64 x] [] (.bool false) := by
 refine pO Try.func72 (by kernel_rfl) ?_
 refine W.rtA [(3, aF)] [] [(x != x) = false] (ao (bne_eq_false_iff_eq.2 (by omega)))
def dBs (nl : Bool) (n i j : Nat) (x : Int) (L : List Int) : DS := ⟨[(0, .vec nl (.iarr .u64 n L)), (1, .int .u64 x), (6, .int .i64 n), (7, .int .i64 i), (8, .int .i64 j)], []⟩
def bsF (L : List Int) (x : Int) : Nat → Nat → Nat → Nat
 | 0, i, _ => i
 | k + 1, i, j => if i < j then (if L.getD ((i + j) / 2) 0 < x then bsF L x k ((i + j) / 2 + 1) j else bsF L x k i ((i + j) / 2)) else i
theorem W_bsL {nl : Bool} {n i j h : Nat} {x : Int} {L : Liz} {hout : Lrz} {res : PV} (hn : n ≤ 100000) (hij : i < j) (hj : j ≤ n) (hh : (i + j) / 2 = h) (g : L.getD h 0 < x)
  (hw : Wt Try.f44 [] hout res (Aa Try.f44 0) (dBs nl n (h + 1) j x L)) : Wt Try.f44 [] hout res (Aa Try.f44 0) (dBs nl n i j x L) := by
 have hh2 : (((i + j) / 2 : Nat) : Int) = (h : Int) := by rw [hh]
 have hhj : h < n := by omega
 clear hh
 refine W.sgA 0 [(2, aT), (5, aV (I6 ↑(i + j))), (6, aV (U6 ↑(i + j))), (7, aV (U6 ↑((i + j) / 2))), (8, aV (I6 h)), (15, aK (PV.bool true)), (17, aV (I6 ↑(h + 1)))] [] (dBs nl n (h + 1) j x L) [decide ((i:Int) < (j:Int)) = true, I6 (IntKind.wrap .i64 ((i:Int) + (j:Int))) = I6 ↑(i + j), U6 (IntKind.wrap .u64 (↑(i + j) : Int)) = U6 ↑(i + j), U6 (Int.fdiv (↑(i + j) : Int) ((2 : Int) ^ 1)) = U6 ↑((i + j) / 2), (0 : Int) ≤ 1, I6 (IntKind.wrap .i64 (↑((i + j) / 2) : Int)) = I6 h, 0 ≤ (h:Int), (h:Int) < (n:Int), h < n, Pt 71 [] [U6 (List.getD L h (0 : Int)), U6 x] [] (PV.bool true), I6 (IntKind.wrap .i64 ((h:Int) + 1)) = I6 ↑(h + 1)] (ac (dT (by omega)) (ac (wj (by omega)) (ac (cg (Ai rfl (by omega) (by omega))) (ac (cg (Be (y := 1) (s := 1) rfl rfl (by decide) (by omega))) (ac (by omega) (ac (cg (Ab hh2 (by omega) (by omega))) (ob3 (by omega) (ac (A8 _ _ (by first | omega | decide)) (ao (wj (by omega))))))))))) ?_
 exact hw
theorem W_bsR {nl : Bool} {n i j h : Nat} {x : Int} {L : Liz} {hout : Lrz} {res : PV} (hn : n ≤ 100000) (hij : i < j) (hj : j ≤ n) (hh : (i + j) / 2 = h) (g : ¬ L.getD h 0 < x)
  (hw : Wt Try.f44 [] hout res (Aa Try.f44 0) (dBs nl n i h x L)) : Wt Try.f44 [] hout res (Aa Try.f44 0) (dBs nl n i j x L) := by
 have hh2 : (((i + j) / 2 : Nat) : Int) = (h : Int) := by rw [hh]
 have hhj : h < n := by omega
 clear hh
 refine W.sgA 0 [(2, aT), (5, aV (I6 ↑(i + j))), (6, aV (U6 ↑(i + j))), (7, aV (U6 ↑((i + j) / 2))), (8, aV (I6 h)), (15, aK (PV.bool false))] [] (dBs nl n i h x L) [decide ((i:Int) < (j:Int)) = true, I6 (IntKind.wrap .i64 ((i:Int) + (j:Int))) = I6 ↑(i + j), U6 (IntKind.wrap .u64 (↑(i + j) : Int)) = U6 ↑(i + j), U6 (Int.fdiv (↑(i + j) : Int) ((2 : Int) ^ 1)) = U6 ↑((i + j) / 2), (0 : Int) ≤ 1, I6 (IntKind.wrap .i64 (↑((i + j) / 2) : Int)) = I6 h, 0 ≤ (h:Int), (h:Int) < (n:Int), h < n, Pt 71 [] [U6 (List.getD L h (0 : Int)), U6 x] [] (PV.bool false)] (ac (dT (by omega)) (ac (wj (by omega)) (ac (cg (Ai rfl (by omega) (by omega))) (ac (cg (Be (y := 1) (s := 1) rfl rfl (by decide) (by omega))) (ac (by omega) (ac (cg (Ab hh2 (by omega) (by omega))) (ob3 (by omega) (ao (BD _ _ (by first | omega | decide)))))))))) ?_
 exact hw
theorem W_bsE {nl : Bool} {n i j : Nat} {x : Int} {L : Liz} (hn : n ≤ 100000) (hij : ¬ i < j) (hi : i ≤ n) : Wt Try.f44 [] [] (.tup [.int .i64 i, .bool (decide (i < n ∧ L.getD i 0 = x))]) (Aa Try.f44 0) (dBs nl n i j x L) := by
 have c1 := Mf (L.getD i 0)
 have c2 := Mf x
 by_cases h : i < n
 ·by_cases g : L.getD i 0 = x
  ·rw [decide_eq_true ⟨h, g⟩]
   refine W.rtA [(2, aF), (6, aT), (11, aV (U6 x)), (13, aT)] [] [decide ((i:Int) < (j:Int)) = false, decide ((i:Int) < (n:Int)) = true, 0 ≤ (i:Int), (i:Int) < (n:Int), U6 (List.getD L i (0 : Int)) = U6 x, i < n, (x == x) = true] (ac (dF (by omega)) (ac (dT (by omega)) (ob2 (by omega) (ac (cg (g)) (ac (by omega) (ao (dT (by omega))))))))
  ·rw [decide_eq_false (fun z => g z.2)]
   refine W.rtA [(2, aF), (6, aT), (13, aF), (19, c9 c1)] [] [decide ((i:Int) < (j:Int)) = false, decide ((i:Int) < (n:Int)) = true, 0 ≤ (i:Int), (i:Int) < (n:Int), i < n, (List.getD L i (0 : Int) == x) = false, 0 ≤ (i:Int), (i:Int) < (n:Int), i < n, _] (ac (dF (by omega)) (ac (dT (by omega)) (ob3 (by omega) (ac (dF (by omega)) (ob3 (by omega) (ao (c1)))))))
 ·rw [decide_eq_false (fun z => h z.1)]
  refine W.rtA [(2, aF), (6, aF)] [] [decide ((i:Int) < (j:Int)) = false, decide ((i:Int) < (n:Int)) = false] (ac (dF (by omega)) (ao (dF (by omega))))
theorem W_bs {nl : Bool} {n : Nat} {x : Int} {L : Liz} (hn : n ≤ 100000) : ∀ (k i j : Nat), j ≤ i + k → i ≤ n → j ≤ n →
  Wt Try.f44 [] [] (.tup [.int .i64 (bsF L x k i j), .bool (decide (bsF L x k i j < n ∧ L.getD (bsF L x k i j) 0 = x))]) (Aa Try.f44 0) (dBs nl n i j x L)
 | 0, i, j, hk, hi, hj => by
  unfold bsF
  exact W_bsE hn (by omega) hi
 | k + 1, i, j, hk, hi, hj => by
  unfold bsF
  by_cases h : i < j
  ·rw [if_pos h]
   by_cases g : L.getD ((i + j) / 2) 0 < x
   ·rw [if_pos g]
    exact W_bsL hn h hj rfl g (W_bs hn k _ _ (by omega) (by omega) hj)
   ·rw [if_neg g]
    exact W_bsR hn h hj rfl g (W_bs hn k _ _ (by omega) hi (by omega))
  ·rw [if_neg h]
   exact W_bsE hn h hi
theorem pc_bs {nl : Bool} {n : Nat} {x : Int} {L : Liz} (hn : n ≤ 100000) : Pt 44 [] [.vec nl (.iarr .u64 n L), .int .u64 x] [] (.tup [.int .i64 (bsF L x n 0 n), .bool (decide (bsF L x n 0 n < n ∧ L.getD (bsF L x n 0 n) 0 = x))]) := by
 refine pO Try.func44 (by kernel_rfl) ?_
 have hw := W_bs (nl := nl) (x := x) (L := L) hn n 0 n (by omega) (by omega) (by omega)
 generalize bsF L x n 0 n = r at *
 generalize decide (r < n ∧ L.getD r 0 = x) = d at *
 refine W.sgA 0 [] [] (dBs nl n 0 n x L) [] trivial ?_
 exact hw
def dAn (nl : Bool) (n i : Nat) (k0 k1 : Int) (M : List PV) : DS := ⟨[(3, .at 0 []), (8, AV), (10, .vec true (.iarr .i64 0 [])), (24, .vec nl (.parr 1 n ish M)), (25, .int .i64 n), (26, .int .i64 i)], [(0, ⟨.iarr .u64 2 [k0, k1], false⟩)]⟩
def dA0 (nl : Bool) (n i c : Nat) (k0 k1 : Int) (M : List PV) (L : List Int) : DS := ⟨[(3, .at 0 []), (8, .ref 1 [] 1 0 c), (10, .vec true (.iarr .i64 0 [])), (24, .vec nl (.parr 1 n ish M)), (25, .int .i64 n), (26, .int .i64 i)], [(0, ⟨.iarr .u64 2 [k0, k1], false⟩), (1, Ac c L)]⟩
def dA1 (nl : Bool) (n i c a : Nat) (k0 k1 : Int) (M : List PV) (L A : List Int) : DS := ⟨[(3, .at 0 []), (8, .ref 1 [] 1 0 c), (10, .ref 2 [] 1 0 a), (24, .vec nl (.parr 1 n ish M)), (25, .int .i64 n), (26, .int .i64 i)], [(0, ⟨.iarr .u64 2 [k0, k1], false⟩), (1, Ac c L), (2, ⟨.iarr .i64 a A, false⟩)]⟩
theorem W_anS {nl b : Bool} {n i m s : Nat} {k0 k1 : Int} {M : Lpz} {l : Liz} {hout : Lrz} {res : PV} (hi : i < n) (hn : n ≤ 100000) (g : M.getD i .undef = .vec b (.iarr .u8 m l)) (hl : l.length = m)
  (c1 : Pt 43 [] [.iarr .u64 2 [k0, k1], .vec b (.iarr .u8 m l)] [] (.int .u64 s)) (c2 : Pt 42 [] [.int .u64 s, .int .u64 0] [] (.int .u64 0)) (c3 : Pt 44 [] [AV, .int .u64 0] [] (.tup [.int .i64 0, .bool false]))
  (hw : Wt Try.f17 [] hout res (Aa Try.f17 0) (dAn nl n (i + 1) k0 k1 M)) : Wt Try.f17 [] hout res (Aa Try.f17 0) (dAn nl n i k0 k1 M) := by
 unfold dAn AV at *
 refine W.sgA 0 [(0, aT), (3, aE g), (8, c9 c1), (10, aV (I6 0)), (11, aV (U6 0)), (12, aV (U6 0)), (13, c9 c2), (17, c9 c3), (24, aV (I6 ↑(i + 1)))] [(0, 0)] (dAn nl n (i + 1) k0 k1 M) [decide ((i:Int) < (n:Int)) = true, 0 ≤ (i:Int), (i:Int) < (n:Int), _, i < n, _, I6 ↑(0 : Nat) = I6 0, U6 (IntKind.wrap .u64 (0 : Int)) = U6 0, U6 (IntKind.wrap .u64 ((784931 : Int) * (0 : Int))) = U6 0, _, _, I6 (IntKind.wrap .i64 ((i:Int) + 1)) = I6 ↑(i + 1)] (ac (dT (by omega)) (ob2 (by omega) (ac (ex g) (ac (by omega) (ac (c1) (ac (cg (by omega)) (ac (cg (Ai rfl (by omega) (by omega))) (ac (cg (Ai rfl (by omega) (by omega))) (ac (c2) (ac (c3) (ao (wj (by omega))))))))))))) ?_
 exact hw
theorem W_a0N {nl b : Bool} {n i m s c t x j : Nat} {k0 k1 : Int} {M : Lpz} {l L : Liz} {hout : Lrz} {res : PV} (hi : i < n) (hn : n ≤ 100000) (hc : c ≤ 1000) (hL : L.length = c) (ht : c * 784931 = t) (g : M.getD i .undef = .vec b (.iarr .u8 m l)) (hl : l.length = m)
  (c1 : Pt 43 [] [.iarr .u64 2 [k0, k1], .vec b (.iarr .u8 m l)] [] (.int .u64 s)) (c2 : Pt 42 [] [.int .u64 s, .int .u64 t] [] (.int .u64 x)) (c3 : Pt 44 [] [.vec false (.iarr .u64 c L), .int .u64 x] [] (.tup [.int .i64 j, .bool false]))
  (hw : Wt Try.f17 [] hout res (Aa Try.f17 0) (dA0 nl n (i + 1) c k0 k1 M L)) : Wt Try.f17 [] hout res (Aa Try.f17 0) (dA0 nl n i c k0 k1 M L) := by
 have h2 : L.take c = L := List.take_of_length_le (by omega)
 have h4 : ((784931 * c : Nat) : Int) = (t : Int) := by omega
 refine W.sgA 0 [(0, aT), (3, aE g), (8, c9 c1), (11, aV (U6 c)), (12, aV (U6 t)), (13, c9 c2), (17, cL true [] c3), (24, aV (I6 ↑(i + 1)))] [(0, 0), (1, 1)] (dA0 nl n (i + 1) c k0 k1 M L) [decide ((i:Int) < (n:Int)) = true, 0 ≤ (i:Int), (i:Int) < (n:Int), _, i < n, _, U6 (IntKind.wrap .u64 (c:Int)) = U6 c, U6 (IntKind.wrap .u64 (784931 * (c:Int))) = U6 t, _, 0 + c ≤ c, rr ([] : List (Nat × Row)), ([PV.vec false (B6 c (List.take c L)), U6 x] : List PV) = [PV.vec false (B6 c L), U6 x], _, I6 (IntKind.wrap .i64 ((i:Int) + 1)) = I6 ↑(i + 1)] (ac (dT (by omega)) (ob2 (by omega) (ac (ex g) (ac (by omega) (ac (c1) (ac (cg (Ai rfl (by omega) (by omega))) (ac (cg (Ai h4 (by omega) (by omega))) (ac (c2) (ac (by omega) (ac rfl (ac (by rw [List.take_of_length_le (show List.length L ≤ c by omega)]) (ac (c3) (ao (wj (by omega))))))))))))))) ?_
 exact hw
theorem W_a0Y {nl b : Bool} {n i m s c t x j : Nat} {k0 k1 : Int} {M : Lpz} {l L : Liz} {hout : Lrz} {res : PV} (hi : i < n) (hn : n ≤ 100000) (hc : c ≤ 1000) (hL : L.length = c) (ht : c * 784931 = t) (g : M.getD i .undef = .vec b (.iarr .u8 m l)) (hl : l.length = m)
  (c1 : Pt 43 [] [.iarr .u64 2 [k0, k1], .vec b (.iarr .u8 m l)] [] (.int .u64 s)) (c2 : Pt 42 [] [.int .u64 s, .int .u64 t] [] (.int .u64 x)) (c3 : Pt 44 [] [.vec false (.iarr .u64 c L), .int .u64 x] [] (.tup [.int .i64 j, .bool true]))
  (hw : Wt Try.f17 [] hout res (Aa Try.f17 0) (dA1 nl n (i + 1) c 1 k0 k1 M L [(i : Int)])) : Wt Try.f17 [] hout res (Aa Try.f17 0) (dA0 nl n i c k0 k1 M L) := by
 have h2 : L.take c = L := List.take_of_length_le (by omega)
 have h4 : ((784931 * c : Nat) : Int) = (t : Int) := by omega
 refine W.sgA 0 [(0, aT), (3, aE g), (8, c9 c1), (11, aV (U6 c)), (12, aV (U6 t)), (13, c9 c2), (17, cL true [] c3), (29, aV (I6 ↑(i + 1)))] [(0, 0), (1, 1), (496, 2)] (dA1 nl n (i + 1) c 1 k0 k1 M L [(i : Int)]) [decide ((i:Int) < (n:Int)) = true, 0 ≤ (i:Int), (i:Int) < (n:Int), _, i < n, _, U6 (IntKind.wrap .u64 (c:Int)) = U6 c, U6 (IntKind.wrap .u64 (784931 * (c:Int))) = U6 t, _, 0 + c ≤ c, rr ([] : List (Nat × Row)), ([PV.vec false (B6 c (List.take c L)), U6 x] : List PV) = [PV.vec false (B6 c L), U6 x], _, 1 ≤ 1, 0 < 1, 8 ≤ 140737488355328, 1 ≤ 9223372036854775807, I6 (IntKind.wrap .i64 ((i:Int) + 1)) = I6 ↑(i + 1)] (ac (dT (by omega)) (ob2 (by omega) (ac (ex g) (ac (by omega) (ac (c1) (ac (cg (Ai rfl (by omega) (by omega))) (ac (cg (Ai h4 (by omega) (by omega))) (ac (c2) (ac (by omega) (ac rfl (ac (by rw [List.take_of_length_le (show List.length L ≤ c by omega)]) (ac (c3) (ob4 (by omega) (ao (wj (by omega)))))))))))))))) ?_
 exact hw
theorem W_a1N {nl b : Bool} {n i m s c t x j a : Nat} {k0 k1 : Int} {M : Lpz} {l L A : Liz} {hout : Lrz} {res : PV} (hi : i < n) (hn : n ≤ 100000) (hc : c ≤ 1000) (hL : L.length = c) (ht : c * 784931 = t) (g : M.getD i .undef = .vec b (.iarr .u8 m l)) (hl : l.length = m)
  (c1 : Pt 43 [] [.iarr .u64 2 [k0, k1], .vec b (.iarr .u8 m l)] [] (.int .u64 s)) (c2 : Pt 42 [] [.int .u64 s, .int .u64 t] [] (.int .u64 x)) (c3 : Pt 44 [] [.vec false (.iarr .u64 c L), .int .u64 x] [] (.tup [.int .i64 j, .bool false]))
  (hw : Wt Try.f17 [] hout res (Aa Try.f17 0) (dA1 nl n (i + 1) c a k0 k1 M L A)) : Wt Try.f17 [] hout res (Aa Try.f17 0) (dA1 nl n i c a k0 k1 M L A) := by
 have h2 : L.take c = L := List.take_of_length_le (by omega)
 have h4 : ((784931 * c : Nat) : Int) = (t : Int) := by omega
 refine W.sgA 0 [(0, aT), (3, aE g), (8, c9 c1), (11, aV (U6 c)), (12, aV (U6 t)), (13, c9 c2), (17, cL true [] c3), (24, aV (I6 ↑(i + 1)))] [(0, 0), (1, 1), (2, 2)] (dA1 nl n (i + 1) c a k0 k1 M L A) [decide ((i:Int) < (n:Int)) = true, 0 ≤ (i:Int), (i:Int) < (n:Int), _, i < n, _, U6 (IntKind.wrap .u64 (c:Int)) = U6 c, U6 (IntKind.wrap .u64 (784931 * (c:Int))) = U6 t, _, 0 + c ≤ c, rr ([] : List (Nat × Row)), ([PV.vec false (B6 c (List.take c L)), U6 x] : List PV) = [PV.vec false (B6 c L), U6 x], _, I6 (IntKind.wrap .i64 ((i:Int) + 1)) = I6 ↑(i + 1)] (ac (dT (by omega)) (ob2 (by omega) (ac (ex g) (ac (by omega) (ac (c1) (ac (cg (Ai rfl (by omega) (by omega))) (ac (cg (Ai h4 (by omega) (by omega))) (ac (c2) (ac (by omega) (ac rfl (ac (by rw [List.take_of_length_le (show List.length L ≤ c by omega)]) (ac (c3) (ao (wj (by omega))))))))))))))) ?_
 exact hw
theorem W_a1Y {nl b : Bool} {n i m s c t x j a : Nat} {k0 k1 : Int} {M : Lpz} {l L A : Liz} {hout : Lrz} {res : PV} (hi : i < n) (hn : n ≤ 100000) (hc : c ≤ 1000) (hL : L.length = c) (ht : c * 784931 = t) (hA : A.length = a) (ha : a ≤ i) (g : M.getD i .undef = .vec b (.iarr .u8 m l)) (hl : l.length = m)
  (c1 : Pt 43 [] [.iarr .u64 2 [k0, k1], .vec b (.iarr .u8 m l)] [] (.int .u64 s)) (c2 : Pt 42 [] [.int .u64 s, .int .u64 t] [] (.int .u64 x)) (c3 : Pt 44 [] [.vec false (.iarr .u64 c L), .int .u64 x] [] (.tup [.int .i64 j, .bool true]))
  (hw : Wt Try.f17 [] hout res (Aa Try.f17 0) (dA1 nl n (i + 1) c (a + 1) k0 k1 M L (A ++ [(i : Int)]))) : Wt Try.f17 [] hout res (Aa Try.f17 0) (dA1 nl n i c a k0 k1 M L A) := by
 have h2 : L.take c = L := List.take_of_length_le (by omega)
 have h4 : ((784931 * c : Nat) : Int) = (t : Int) := by omega
 refine W.sgA 0 [(0, aT), (3, aE g), (8, c9 c1), (11, aV (U6 c)), (12, aV (U6 t)), (13, c9 c2), (17, cL true [] c3), (27, Ans.ups [(2, none), (496, some (Row.mk (BI (a + 1) (A ++ [(i:Int)])) false))]), (29, aV (I6 ↑(i + 1)))] [(0, 0), (1, 1), (496, 2)] (dA1 nl n (i + 1) c (a + 1) k0 k1 M L (A ++ [(i : Int)])) [decide ((i:Int) < (n:Int)) = true, 0 ≤ (i:Int), (i:Int) < (n:Int), _, i < n, _, U6 (IntKind.wrap .u64 (c:Int)) = U6 c, U6 (IntKind.wrap .u64 (784931 * (c:Int))) = U6 t, _, 0 + c ≤ c, rr ([] : List (Nat × Row)), ([PV.vec false (B6 c (List.take c L)), U6 x] : List PV) = [PV.vec false (B6 c L), U6 x], _, ([(2, none), (496, some (Row.mk (BI (a + 1) (List.take a A ++ [(i:Int)])) false))] : List (Nat × Option Row)) = [(2, none), (496, some (Row.mk (BI (a + 1) (A ++ [(i:Int)])) false))], 1 ≤ 1, 0 + a = a, (a + 1) * 8 ≤ 140737488355328, a + 1 ≤ 9223372036854775807, I6 (IntKind.wrap .i64 ((i:Int) + 1)) = I6 ↑(i + 1)] (ac (dT (by omega)) (ob2 (by omega) (ac (ex g) (ac (by omega) (ac (c1) (ac (cg (Ai rfl (by omega) (by omega))) (ac (cg (Ai h4 (by omega) (by omega))) (ac (c2) (ac (by omega) (ac rfl (ac (by rw [List.take_of_length_le (show List.length L ≤ c by omega)]) (ac (c3) (ac (by rw [List.take_of_length_le (show List.length A ≤ a by omega)]) (ac (by omega) (ac (by omega) (ob2 (by omega) (ao (wj (by omega))))))))))))))))))) ?_
 exact hw
def Bq : PV := .vec true (.iarr .i64 0 [])
theorem W_anE {nl : Bool} {n : Nat} {k0 k1 : Int} {M : Lpz} : Wt Try.f17 [] [] (.tup [Bq, .int .i64 0]) (Aa Try.f17 0) (dAn nl n n k0 k1 M) := by
 unfold Bq dAn AV
 refine W.rtA [(0, aF)] [] [decide ((n:Int) < (n:Int)) = false] (ao (dF (by omega)))
theorem W_a0E {nl : Bool} {n c : Nat} {k0 k1 : Int} {M : Lpz} {L : Liz} : Wt Try.f17 [] [] (.tup [Bq, .int .i64 0]) (Aa Try.f17 0) (dA0 nl n n c k0 k1 M L) := by
 unfold Bq
 refine W.rtA [(0, aF)] [] [decide ((n:Int) < (n:Int)) = false] (ao (dF (by omega)))
theorem W_a1E {nl : Bool} {n c a : Nat} {k0 k1 : Int} {M : Lpz} {L A : Liz} : Wt Try.f17 [] [(1, ⟨.iarr .i64 a A, false⟩)] (.tup [.ref 1 [] 1 0 a, .int .i64 0]) (Aa Try.f17 0) (dA1 nl n n c a k0 k1 M L A) := by
 refine W.rtA [(0, aF)] [(2, 1)] [decide ((n:Int) < (n:Int)) = false] (ao (dF (by omega)))
theorem Tp {nl nb : Bool} {n mb : Nat} {k0 k1 : Int} {M : Lpz} {b : Liz} {hout : Lrz} {res : PV} (c1 : Pt 14 [] [.vec nb (.iarr .u8 mb b)] [] (.tup [AV, .int .i64 0])) (hw : Wt Try.f17 [] hout res (Aa Try.f17 0) (dAn nl n 0 k0 k1 M)) :
  Pt 17 [] [.iarr .u64 2 [k0, k1], .vec nb (.iarr .u8 mb b), .vec nl (.parr 1 n ish M)] hout res := by
 refine pO Try.func17 (by kernel_rfl) ?_
 unfold AV at c1
 unfold dAn AV at hw
 refine W.sgA 0 [(4, c9 c1)] [(64, 0)] (dAn nl n 0 k0 k1 M) [_] (ao (c1)) ?_
 exact hw
theorem W_a0In {nl nb : Bool} {n mb c : Nat} {k0 k1 : Int} {M : Lpz} {b L : Liz} {hout : Lrz} {res : PV} (c1 : Pt 14 [] [.vec nb (.iarr .u8 mb b)] [(1, Ac c L)] (.tup [.ref 1 [] 1 0 c, .int .i64 0])) (hw : Wt Try.f17 [] hout res (Aa Try.f17 0) (dA0 nl n 0 c k0 k1 M L)) :
  Pt 17 [] [.iarr .u64 2 [k0, k1], .vec nb (.iarr .u8 mb b), .vec nl (.parr 1 n ish M)] hout res := by
 refine pO Try.func17 (by kernel_rfl) ?_
 refine W.sgA 0 [(4, c9 c1)] [(64, 0), (129, 1)] (dA0 nl n 0 c k0 k1 M L) [_] (ao (c1)) ?_
 exact hw
end Go.Proofs
namespace Go.Proofs
open Go Go.Pe Go.Pm
set_option linter.unusedVariables false
theorem byt_bit {g : Nat → Nat} (h : ∀ j, g j < 2) {r : Nat} (hr : r < 8) : byt g / 2 ^ (7 - r) % 2 = g r := by
 have h0 := h 0; have h1 := h 1; have h2 := h 2; have h3 := h 3; have h4 := h 4; have h5 := h 5; have h6 := h 6; have h7 := h 7
 unfold byt
 match r, hr with
 | 0, _ | 1, _ | 2, _ | 3, _ | 4, _ | 5, _ | 6, _ | 7, _ => simp only [Nat.reduceSub, Nat.reducePow]; omega
theorem Qw {B : List Nat} (hB : Bits B) {i : Nat} (hi : i < 8 * (pk B).length) : bt (pk B) i = B.getD i 0 := by
 have hl := Bj B
 unfold bt
 rw [TY (by omega), byt_bit (fun j => hB _) (Nat.mod_lt _ (by decide))]
 congr 1
 omega
theorem Oa {B : List Nat} (hB : Bits B) : ∀ (q a k : Nat), a + k = 8 * (pk B).length → q < k → (∀ j, j < q → B.getD (a + j) 0 = 1) → B.getD (a + q) 0 = 0 → AA (pk B) a k = q
 | q, a, 0, hk, hq, _, _ => by omega
 | 0, a, k + 1, hk, hq, h1, h0 => by
  unfold AA
  rw [Qw hB (by omega), if_neg]
  rw [Nat.add_zero] at h0
  omega
 | q + 1, a, k + 1, hk, hq, h1, h0 => by
  unfold AA
  rw [Qw hB (by omega), if_pos (by have := h1 0 (by omega); rwa [Nat.add_zero] at this)]
  rw [Oa hB q (a + 1) k (by omega) (by omega) (fun j hj => by have := h1 (j + 1) (by omega); rwa [show a + (j + 1) = a + 1 + j by omega] at this) (by rwa [show a + (q + 1) = a + 1 + q by omega] at h0)]
theorem Mq (v : Nat) : ∀ (w j : Nat), j < w → (Bi v w).getD j 0 = v / 2 ^ (w - 1 - j) % 2
 | 0, j, h => by omega
 | w + 1, 0, h => by rw [Bi]; rfl
 | w + 1, j + 1, h => by
  rw [Bi, List.getD_cons_succ, Mq v w j (by omega), show w + 1 - 1 - (j + 1) = w - 1 - j by omega]
theorem Qh {B : List Nat} (hB : Bits B) (v : Nat) : ∀ (w a x : Nat), a + w ≤ 8 * (pk B).length → (∀ j, j < w → B.getD (a + j) 0 = v / 2 ^ (w - 1 - j) % 2) → Ee (pk B) w a x = x * 2 ^ w + v % 2 ^ w
 | 0, a, x, _, _ => by unfold Ee; simp [Nat.mod_one]
 | w + 1, a, x, ha, h => by
  unfold Ee
  have hb : bt (pk B) a = v / 2 ^ w % 2 := by
   rw [Qw hB (by omega)]
   have := h 0 (by omega)
   rwa [Nat.add_zero, show w + 1 - 1 - 0 = w by omega] at this
  rw [Qh hB v w (a + 1) _ (by omega) (fun j hj => by have := h (j + 1) (by omega); rwa [show a + (j + 1) = a + 1 + j by omega, show w + 1 - 1 - (j + 1) = w - 1 - j by omega] at this), hb]
  have e : 2 * x * 2 ^ w = x * (2 ^ w * 2) := by rw [Nat.mul_comm 2 x, Nat.mul_assoc, Nat.mul_comm 2]
  rw [Nat.pow_succ, Nat.mod_mul, Nat.add_mul, Nat.mul_comm (v / 2 ^ w % 2) (2 ^ w), e]
  omega
theorem MH (A B : List Nat) {i : Nat} (h : i < A.length) : (A ++ B).getD i 0 = A.getD i 0 := by
 rw [List.getD_eq_getElem?_getD, List.getElem?_append_left h, ← List.getD_eq_getElem?_getD]
theorem PN (A B : List Nat) (i : Nat) : (A ++ B).getD (A.length + i) 0 = B.getD i 0 := by
 rw [List.getD_eq_getElem?_getD, List.getElem?_append_right (by omega), Nat.add_sub_cancel_left, ← List.getD_eq_getElem?_getD]
theorem rep_get {q j : Nat} (h : j < q) : (List.replicate q 1).getD j 0 = 1 := by
 rw [List.getD_eq_getElem?_getD, List.getElem?_replicate, if_pos h]; rfl
theorem g_one {P R : List Nat} {v : Nat} (hB : Bits (P ++ Ci v ++ R)) (hq : v / 524288 ≤ 65536) :
  gE (pk (P ++ Ci v ++ R)) (pk (P ++ Ci v ++ R)).length P.length = 0 ∧ gV (pk (P ++ Ci v ++ R)) (pk (P ++ Ci v ++ R)).length P.length = v ∧ gA (pk (P ++ Ci v ++ R)) (pk (P ++ Ci v ++ R)).length P.length = (P ++ Ci v).length := by
 have hl := Bj (P ++ Ci v ++ R)
 have hr := Dm v
 have hlen : (P ++ Ci v ++ R).length = P.length + (v / 524288 + 20) + R.length := by rw [List.length_append, List.length_append, hr]
 have hget : ∀ j, j < v / 524288 + 20 → (P ++ Ci v ++ R).getD (P.length + j) 0 = (Ci v).getD j 0 := fun j hj => by
  rw [List.append_assoc, PN, MH _ _ (by omega)]
 have hq1 : ∀ j, j < v / 524288 → (Ci v).getD j 0 = 1 := fun j hj => by
  unfold Ci
  rw [MH _ _ (by rw [List.length_append, List.length_replicate]; omega), MH _ _ (by rw [List.length_replicate]; omega), rep_get hj]
 have hq0 : (Ci v).getD (v / 524288) 0 = 0 := by
  unfold Ci
  rw [MH _ _ (by rw [List.length_append, List.length_replicate, Bp]; omega)]
  have := PN (List.replicate (v / 524288) 1) (Bi 0 1) 0
  rw [List.length_replicate, Nat.add_zero] at this
  rw [this]
  rfl
 have hqv : ∀ j, j < 19 → (Ci v).getD (v / 524288 + 1 + j) 0 = v / 2 ^ (19 - 1 - j) % 2 := fun j hj => by
  unfold Ci
  have := PN (List.replicate (v / 524288) 1 ++ Bi 0 1) (Bi v 19) j
  rw [List.length_append, List.length_replicate, Bp] at this
  rw [this, Mq v 19 j hj]
 have hO : gO (pk (P ++ Ci v ++ R)) (pk (P ++ Ci v ++ R)).length P.length = v / 524288 := by
  unfold gO
  refine Oa hB _ _ _ (by omega) (by omega) (fun j hj => ?_) ?_
  ·rw [hget j (by omega), hq1 j hj]
  ·rw [hget _ (by omega), hq0]
 refine ⟨?_, ?_, ?_⟩
 ·unfold gE
  rw [hO]
  have e : Ce (8 * (pk (P ++ Ci v ++ R)).length - P.length) (v / 524288) 65536 = 0 := by
   unfold Ce
   rw [if_neg (by omega), if_neg (by omega)]
  rw [e, if_neg (by decide), if_neg (by omega)]
 ·unfold gV
  rw [hO]
  rw [Qh hB v 19 _ 0 (by omega) (fun j hj => by rw [show P.length + v / 524288 + 1 + j = P.length + (v / 524288 + 1 + j) by omega, hget _ (by omega), hqv j hj])]
  rw [Nat.zero_mul, Nat.zero_add]
  omega
 ·unfold gA
  rw [hO, List.length_append, hr]
  omega
theorem UQ {n lim : Nat} {l : List Int} : ∀ (r : List Nat) (s : Nat) (P : List Nat) (o : List Int), Bits P → Mj s r → (∀ x ∈ r, x < lim) → (∀ x ∈ r, x < 1073741824) → l = pk (P ++ stB s r) → n = l.length → vlF l n lim r.length P.length s o = (o ++ inL r, (P ++ stB s r).length, 0)
 | [], s, P, o, hP, hr, hx, hx2, hl, hn => by
  rw [stB, List.append_nil]
  show (o, P.length, 0) = _
  unfold inL
  rw [List.map_nil, List.append_nil]
 | x :: r, s, P, o, hP, hr, hx, hx2, hl, hn => by
  have hxx := hx x (by simp)
  have hx30 := hx2 x (by simp)
  have hB : Bits (P ++ Ci (x - s) ++ stB x r) := (hP.append (EE _)).append (FN _ _)
  have e : P ++ stB s (x :: r) = P ++ Ci (x - s) ++ stB x r := by rw [stB, List.append_assoc]
  have hg := g_one hB (by omega)
  rw [← e, ← hl, ← hn] at hg
  rw [List.length_cons]
  unfold vlF
  have hs := hr.1
  rw [hg.1, if_neg (by decide), hg.2.1, hg.2.2, show s + (x - s) = x by omega, if_neg (by omega)]
  rw [UQ r x (P ++ Ci (x - s)) (o ++ [(x : Int)]) (hP.append (EE _)) hr.2 (fun y hy => hx y (by simp [hy])) (fun y hy => hx2 y (by simp [hy])) (by rw [hl, e]) hn, e]
  unfold inL
  rw [List.append_assoc, List.map_cons]
  rfl
theorem OP {B : List Nat} (hB : Bits B) : ∀ (k a : Nat), B.length ≤ a → a + k = 8 * (pk B).length → Cg (pk B) a k = true
 | 0, a, _, _ => rfl
 | k + 1, a, h, hk => by
  unfold Cg
  rw [Qw hB (by omega), Dz h, if_pos rfl]
  exact OP hB k (a + 1) (by omega) (by omega)
theorem vlE_st {l : List Int} {c : Nat} {r : List Nat} (hl : l = pk (stB 0 r)) (hc : c = r.length) (h0 : 0 < c) : vlE l l.length c (inL r, (stB 0 r).length, 0) = 0 := by
 have hlen := Bj (stB 0 r)
 have hB := FN r 0
 subst hl
 rw [Nr h0, if_pos ⟨by omega, OP hB _ _ (Nat.le_refl _) (by omega)⟩]
end Go.Proofs
namespace Go.Proofs
open Go Go.Pe Go.Pm
set_option maxRecDepth 100000
set_option linter.unusedVariables false
theorem SE {x : Nat} (h : x < 256) : le x 1 = [(x : Int)] := by
 have e : le x 1 = [((x / 2 ^ (8 * 0) % 256 : Nat) : Int)] := rfl
 rw [e]
 congr 2
 omega
theorem le_two (x : Nat) : le x 2 = [((x % 256 : Nat) : Int), ((x / 256 % 256 : Nat) : Int)] := by
 have e : le x 2 = [((x / 2 ^ (8 * 0) % 256 : Nat) : Int), ((x / 2 ^ (8 * 1) % 256 : Nat) : Int)] := rfl
 rw [e]
 congr 2
 omega
theorem Uc {k : Nat} (hk : k ≤ 1000) (s : List Int) : K9 (Cm k ++ s) = 0 ∧ Br (Cm k ++ s) = k ∧ vS (Cm k ++ s) = s := by
 by_cases h : k < 253
 ·have e : Cm k ++ s = (k : Int) :: s := by unfold Cm; rw [if_pos h, SE (by omega)]; rfl
  have e0 : at0 (Cm k ++ s) 0 = k := by rw [e]; rfl
  have ew : wdt k = 0 := by unfold wdt; rw [if_neg (by omega), if_neg (by omega), if_neg (by omega)]
  have el : lst k = 0 := by unfold lst; rw [if_neg (by omega), if_neg (by omega), if_neg (by omega)]
  have ev : Aw (Cm k ++ s) = k := by unfold Aw; rw [e0, ew, if_pos rfl]
  have e1 : (Rd.mk (Cm k ++ s) 0).ve 1000 = 0 := by
   unfold Rd.ve
   dsimp only
   rw [if_pos rfl, ev, e0, ew, el, if_neg (by rw [e]; simp), if_neg (by omega), if_neg (by omega)]
  refine ⟨e1, ?_, ?_⟩
  ·show (Rd.mk (Cm k ++ s) 0).vn 1000 = k
   unfold Rd.vn
   rw [if_pos e1]
   exact ev
  ·show ((Rd.mk (Cm k ++ s) 0).var 1000).s = s
   unfold Rd.var
   rw [if_pos e1]
   dsimp only
   rw [e0, ew, e]
   rfl
 ·have e : Cm k ++ s = (253 : Int) :: ((k % 256 : Nat) : Int) :: ((k / 256 % 256 : Nat) : Int) :: s := by unfold Cm; rw [if_neg h, SE (x := 253) (by omega), le_two]; rfl
  have e0 : at0 (Cm k ++ s) 0 = 253 := by rw [e]; rfl
  have ev : Aw (Cm k ++ s) = k := by
   unfold Aw
   rw [e0, if_neg (by decide), e]
   show lv (((k % 256 : Nat) : Int) :: ((k / 256 % 256 : Nat) : Int) :: s) 2 = k
   have : lv (((k % 256 : Nat) : Int) :: ((k / 256 % 256 : Nat) : Int) :: s) 2 = k % 256 + (k / 256 % 256) * 256 := by
    simp [lv, at0]
    omega
   omega
  have e1 : (Rd.mk (Cm k ++ s) 0).ve 1000 = 0 := by
   unfold Rd.ve
   dsimp only
   rw [if_pos rfl, ev, e0, if_neg (by rw [e, show wdt 253 = 2 from rfl]; simp), if_neg (by rw [show lst 253 = 253 from rfl]; omega), if_neg (by omega)]
  refine ⟨e1, ?_, ?_⟩
  ·show (Rd.mk (Cm k ++ s) 0).vn 1000 = k
   unfold Rd.vn
   rw [if_pos e1]
   exact ev
  ·show ((Rd.mk (Cm k ++ s) 0).var 1000).s = s
   unfold Rd.var
   rw [if_pos e1]
   dsimp only
   rw [e0, e]
   rfl
def nsN (k0 k1 : Nat) (U : List It) : List Nat := ((Cu k0 k1 (U.length * 784931) U).mergeSort (fun x y => decide (x ≤ y))).map Int.toNat
theorem LA : ∀ {m : List Int}, (∀ x ∈ m, 0 ≤ x) → inL (m.map Int.toNat) = m
 | [], _ => rfl
 | x :: m, h => by
  have ih := LA fun y hy => h y (List.mem_cons_of_mem _ hy)
  unfold inL at ih ⊢
  rw [List.map_cons, List.map_cons, ih, Int.toNat_of_nonneg (h x (by simp))]
theorem Oe : ∀ {l : List Int} {s : Nat}, (∀ x ∈ l, (s : Int) ≤ x) → l.Pairwise (fun x y => decide (x ≤ y) = true) → Mj s (l.map Int.toNat)
 | [], s, _, _ => trivial
 | x :: l, s, h, hp => by
  rw [List.pairwise_cons] at hp
  have hx := h x (by simp)
  refine ⟨by omega, Oe (fun y hy => ?_) hp.2⟩
  have := of_decide_eq_true (hp.1 y hy)
  omega
theorem Me (l : List Int) : (l.mergeSort (fun x y => decide (x ≤ y))).Pairwise (fun x y => decide (x ≤ y) = true) :=
 List.pairwise_mergeSort (fun a b c h1 h2 => by simp only [decide_eq_true_eq] at *; omega) (fun a b => by by_cases h : a ≤ b <;> simp [h]; omega) l
structure Keys (k0 k1 : Nat) : Prop where
 a : k0 < 18446744073709551616
 b : k1 < 18446744073709551616
theorem JZ {k0 k1 : Nat} (hk : Keys k0 k1) {U : List It} (ho : ∀ x ∈ U, BQ x) {x : Int} (hx : x ∈ (Cu k0 k1 (U.length * 784931) U).mergeSort (fun x y => decide (x ≤ y))) : 0 ≤ x ∧ x < ((U.length * 784931 : Nat) : Int) := by
 rw [List.mem_mergeSort] at hx
 obtain ⟨u, hu, rfl⟩ := List.mem_map.1 hx
 have hpos : 0 < U.length := List.length_pos_of_mem hu
 have := Mx (t := U.length * 784931) (u := u) hk.a hk.b (ho u hu).b (by omega)
 omega
theorem Qm {k0 k1 : Nat} (hk : Keys k0 k1) {U : List It} (ho : ∀ x ∈ U, BQ x) : inL (nsN k0 k1 U) = (Cu k0 k1 (U.length * 784931) U).mergeSort (fun x y => decide (x ≤ y)) := LA fun x hx => (JZ hk ho hx).1
theorem Db (k0 k1 : Nat) (U : List It) : (nsN k0 k1 U).length = U.length := by unfold nsN Cu; rw [List.length_map, List.length_mergeSort, List.length_map]
theorem MN (k0 k1 : Nat) : nsN k0 k1 [] = [] := by simp [nsN, Cu]
theorem LM {k0 k1 : Nat} (hk : Keys k0 k1) {U : List It} (ho : ∀ x ∈ U, BQ x) : Mj 0 (nsN k0 k1 U) := Oe (fun x hx => (JZ hk ho hx).1) (Me _)
theorem KR {k0 k1 : Nat} (hk : Keys k0 k1) {U : List It} (ho : ∀ x ∈ U, BQ x) : ∀ x ∈ nsN k0 k1 U, x < U.length * 784931 := fun x hx => by
 unfold nsN at hx
 obtain ⟨y, hy, rfl⟩ := List.mem_map.1 hx
 have := JZ hk ho hy
 omega
theorem Qj : ∀ (r : List Nat) (s : Nat), (∀ x ∈ r, x < 1073741824) → (stB s r).length ≤ 2068 * r.length
 | [], s, _ => Nat.le_refl 0
 | x :: r, s, h => by
  have ih := Qj r x fun y hy => h y (List.mem_cons_of_mem _ hy)
  have hx := h x (by simp)
  rw [stB, List.length_append, Dm, List.length_cons]
  omega
def CV (k0 k1 : Nat) (U : List It) : List Int := Cm U.length ++ pk (stB 0 (nsN k0 k1 U))
def bldM (k0 k1 : Nat) (I : List It) : List Int := CV k0 k1 (Bo [] I)
theorem Jm {k0 k1 : Nat} (hk : Keys k0 k1) {U : List It} (ho : ∀ x ∈ U, BQ x) (hU : U.length ≤ 1000) : (CV k0 k1 U).length ≤ 300000 ∧ 0 < (CV k0 k1 U).length := by
 have h1 := Qj (nsN k0 k1 U) 0 fun x hx => by have := KR hk ho x hx; omega
 have h2 := Bj (stB 0 (nsN k0 k1 U))
 have h3 := F8 U.length
 rw [Db] at h1
 unfold CV
 rw [List.length_append, h2, h3]
 split <;> omega
theorem OM {nl : Bool} {k0 k1 : Nat} {I : List It} (hk : Keys k0 k1) (hn : I.length ≤ 60000) (ho : ∀ x ∈ I, BQ x) (hU : (Bo [] I).length ≤ 1000) :
  Pt 11 [] [.iarr .u64 2 [(k0 : Int), (k1 : Int)], .vec nl (.parr 1 I.length ish (I.map itB))] [(1, Cf (bldM k0 k1 I).length (bldM k0 k1 I))] (.tup [.ref 1 [] 1 0 (bldM k0 k1 I).length, .int .i64 0]) := by
 by_cases h0 : I.length = 0
 ·obtain rfl := List.eq_nil_of_length_eq_zero h0
  have c2 := LW (x := 0) (by omega)
  have c3 := KE (nl := true) (t := 0) (U := []) hk.a hk.b (by omega) (by simp) (fun x hx => by cases hx)
  have e : (Cu k0 k1 0 []).mergeSort (fun x y => decide (x ≤ y)) = [] := by simp [Cu]
  rw [e] at c3
  have c5 := NU (nl := false) (l := [(true, 0, [])]) (c := 1) (n := 1) (m := 1) (b := Cm 0) (q := Cm 0) rfl (by omega) (fun x hx => by rw [List.mem_singleton.1 hx]; exact ⟨rfl, fun y hy => by cases hy⟩) (by omega) (by omega) rfl (by show Cm 0 ++ ([[]] : List (List Int)).flatten = _; simp) rfl
  have eM : bldM k0 k1 [] = Cm 0 := by
   show Cm 0 ++ pk (stB 0 (nsN k0 k1 [])) = Cm 0
   rw [MN]
   exact List.append_nil _
  rw [eM]
  exact W_bld0 O1 c2 c3 Rh c5 (KO (by omega) (by omega) rfl)
 ·have hoU : ∀ x ∈ Bo [] I, BQ x := IY I [] (fun x hx => by cases hx) ho
  have hpos : 0 < (Bo [] I).length := by
   obtain ⟨x, l, rfl⟩ : ∃ x l, I = x :: l := List.exists_cons_of_ne_nil (fun e => h0 (by rw [e]; rfl))
   have := (I8 l [x]).1
   have e : Bo [] (x :: l) = Bo [x] l := by rw [Bo, if_neg (by simp [KF])]; rfl
   rw [e]
   exact this
  have c1 := R5 (nl := nl) (I := I) (by omega) (by omega) ho
  unfold bldM
  generalize Bo [] I = U at *
  have hlen := Jm hk hoU hU
  have c2 := LW (x := U.length) (by omega)
  have c3 := KE (nl := false) (t := U.length * 784931) hk.a hk.b (by omega) (by omega) hoU
  have c4 := Sm (nl := false) (r := nsN k0 k1 U) (n := U.length) (by omega) (Db _ _ _) hpos (LM hk hoU) (fun x hx => by have := KR hk hoU x hx; omega)
  rw [Qm hk hoU] at c4
  have c5 := NU (nl := false) (l := [(false, (pk (stB 0 (nsN k0 k1 U))).length, pk (stB 0 (nsN k0 k1 U)))]) (c := 1) (n := (Cm U.length).length) (m := (CV k0 k1 U).length) (b := Cm U.length) (q := CV k0 k1 U) rfl (by omega) (fun x hx => by rw [List.mem_singleton.1 hx]; exact ⟨rfl, HY (FN _ _)⟩) (by omega) (by omega) rfl (by show Cm U.length ++ ([pk (stB 0 (nsN k0 k1 U))] : List (List Int)).flatten = _; unfold CV; simp) rfl
  have hl : ((Cu k0 k1 (U.length * 784931) U).mergeSort (fun x y => decide (x ≤ y))).length = U.length := by rw [List.length_mergeSort]; simp [Cu]
  exact W_bld (by omega) hU (by rw [List.length_map]) hl rfl c1 c2 c3 c4 c5 (KO hlen.2 (by omega) rfl)
theorem NN {k0 k1 : Nat} (hk : Keys k0 k1) {U : List It} (ho : ∀ x ∈ U, BQ x) (hU : U.length ≤ 1000) : vE (CV k0 k1 U) = 0 ∧ Br (CV k0 k1 U) = U.length ∧ (EZ (CV k0 k1 U)).1 = inL (nsN k0 k1 U) := by
 obtain ⟨e1, e2, e3⟩ := Uc hU (pk (stB 0 (nsN k0 k1 U)))
 have hr : EZ (CV k0 k1 U) = (inL (nsN k0 k1 U), (stB 0 (nsN k0 k1 U)).length, 0) := by
  unfold EZ CV
  rw [e2, e3]
  have := UQ (n := (pk (stB 0 (nsN k0 k1 U))).length) (lim := U.length * 784931) (l := pk (stB 0 (nsN k0 k1 U))) (nsN k0 k1 U) 0 [] [] Bits.nil (LM hk ho) (KR hk ho) (fun x hx => by have := KR hk ho x hx; omega) rfl rfl
  rw [Db, List.nil_append, List.nil_append] at this
  exact this
 refine ⟨?_, e2, by rw [hr]⟩
 unfold vE
 have e1' : K9 (CV k0 k1 U) = 0 := e1
 have e2' : Br (CV k0 k1 U) = U.length := e2
 have e3' : vS (CV k0 k1 U) = pk (stB 0 (nsN k0 k1 U)) := e3
 rw [if_neg (by rw [e1']; simp), hr, e2', e3']
 by_cases h0 : 0 < U.length
 ·exact vlE_st rfl (Db _ _ _).symm h0
 ·have hU0 : U = [] := List.eq_nil_of_length_eq_zero (by omega)
  subst hU0
  rw [MN]
  rfl
end Go.Proofs
namespace Go.Proofs
open Go Go.Pe Go.Pm
set_option maxRecDepth 100000
attribute [local irreducible] lv
-- texts of bits
theorem Bits.sub {B : List Nat} (h : Bits B) (i n : Nat) : Bits ((B.drop i).take n) := fun j => by
 rw [List.getD_eq_getElem?_getD, List.getElem?_take]
 split
 ·rw [List.getElem?_drop, ← List.getD_eq_getElem?_getD]; exact h _
 ·exact Nat.zero_lt_two
end Go.Proofs
namespace Go.Proofs
open Go Go.Pe Go.Pm
set_option maxRecDepth 100000
attribute [local irreducible] lv
def sv (x : It) : PV := .str (strOf x.2)
theorem Ue {I : List It} {i : Nat} (h : i < I.length) : (I.map sv).getD i .undef = .str (strOf (I.getD i default).2) := by
 simp [List.getD_eq_getElem?_getD, h, sv]
theorem OD {I : List It} (f : It → PV) {i : Nat} (h : i < I.length) : (I.take (i + 1)).map f = (I.take i).map f ++ [f (I.getD i default)] := by
 rw [List.take_add_one, List.getElem?_eq_getElem h, List.map_append, List.getD_eq_getElem?_getD, List.getElem?_eq_getElem h]; rfl
-- items as texts
theorem Qn {nl : Bool} {I : List It} (hn : I.length ≤ 1000000) (ho : ∀ x ∈ I, BQ x) : ∀ (k i : Nat), i + k = I.length → 0 < i →
  Wt Try.f13 [] [(1, rowS I.length (I.map sv))] (.ref 1 [] 1 0 I.length) (Aa Try.f13 0) (dTx nl I.length i (I.map itB) ((I.take i).map sv))
 | 0, i, h, h0 => by
  obtain rfl : i = I.length := by omega
  rw [List.take_length]
  exact W_tX
 | k + 1, i, h, h0 => by
  have hw := Qn (nl := nl) hn ho k (i + 1) (by omega) (by omega)
  rw [OD sv (by omega)] at hw
  have hx := Jl ho (i := i) (by omega)
  exact W_t (by omega) hn (by rw [List.length_map, List.length_take]; omega) (Bw (by omega)) rfl hx.b hw
theorem Ot {nl : Bool} {I : List It} (h0 : 0 < I.length) (hn : I.length ≤ 1000000) (ho : ∀ x ∈ I, BQ x) : Pt 13 [] [.vec nl (.parr 1 I.length ish (I.map itB))] [(1, rowS I.length (I.map sv))] (.ref 1 [] 1 0 I.length) := by
 refine W_tIn hn ?_
 have hw := Qn (nl := nl) hn ho (I.length - 1) 1 (by omega) (by omega)
 have hx := Jl ho (i := 0) h0
 have e : (I.take 1).map sv = [sv (I.getD 0 default)] := by
  have := OD sv (I := I) (i := 0) h0
  simpa using this
 rw [e] at hw
 exact W_t0 h0 hn (Bw h0) rfl hx.b hw
theorem Ls {nl : Bool} : Pt 13 [] [.vec nl (.parr 1 0 ish [])] [] nilS := W_tIn (by decide) W_tX0
-- each once
theorem JE {k0 k1 n : Nat} {u : It} (hk : Keys k0 k1) (hu : BQ u) (hul : u.2.length ≤ 900000) (hn : n ≤ 1000000) : Pt 45 [] [.iarr .u64 2 [(k0 : Int), (k1 : Int)], .str (strOf u.2), .int .i64 n] [] (.int .u64 (CL k0 k1 (n * 784931) u : Nat)) := by
 have hs : (strOf u.2).size = u.2.length := Ag _
 have c := Uq (nl := false) (n := u.2.length) rfl hul hk.a hk.b hu.b
 refine W_nb13 (x := MC k0 k1 u.2) (by omega) (Fu hk.a hk.b hu.b) hn rfl ?_ (RL (Fu hk.a hk.b hu.b) (by omega))
 rw [hs, Bb hu.b]
 exact c
theorem dropI {o : List Int} {a : Nat} (h : a < o.length) : o.drop a = o.getD a 0 :: o.drop (a + 1) := by
 rw [List.drop_eq_getElem_cons h]; simp [List.getD_eq_getElem?_getD, h]
end Go.Proofs
namespace Go.Proofs
open Go Go.Pe Go.Pm
set_option maxRecDepth 100000
set_option linter.unusedVariables false
def M8 (k0 k1 c : Nat) (L : List Int) (u : It) : Bool := decide (bsF L (CL k0 k1 (c * 784931) u) c 0 c < c ∧ L.getD (bsF L (CL k0 k1 (c * 784931) u) c 0 c) 0 = (CL k0 k1 (c * 784931) u : Int))
def Ic (k0 k1 c : Nat) (L : List Int) : Nat → List It → List Int → List Int
 | _, [], A => A
 | i, u :: l, A => Ic k0 k1 c L (i + 1) l (if M8 k0 k1 c L u = true then A ++ [(i : Int)] else A)
def aH (F : List Int) : List (Nat × Row) := if F = [] then [] else [(1, ⟨.iarr .i64 F.length F, false⟩)]
def aP (F : List Int) : PV := if F = [] then .tup [Bq, .int .i64 0] else .tup [.ref 1 [] 1 0 F.length, .int .i64 0]
theorem Qf {nl : Bool} {k0 k1 c : Nat} {L : Liz} {I : List It} (hk : Keys k0 k1) (hn : I.length ≤ 100000) (hc : c ≤ 1000) (hL : L.length = c) (ho : ∀ x ∈ I, BQ x) : ∀ (r i : Nat) (A : List Int), i + r = I.length → A ≠ [] → A.length ≤ i →
  Wt Try.f17 [] (aH (Ic k0 k1 c L i (I.drop i) A)) (aP (Ic k0 k1 c L i (I.drop i) A)) (Aa Try.f17 0) (dA1 nl I.length i c A.length k0 k1 (I.map itB) L A)
 | 0, i, A, hk2, hA, hl => by
  obtain rfl : i = I.length := by omega
  rw [List.drop_of_length_le (Nat.le_refl _)]
  unfold Ic aH aP
  rw [if_neg hA, if_neg hA]
  exact W_a1E
 | r + 1, i, A, hk2, hA, hl => by
  have hi : i < I.length := by omega
  have hx := Jl ho hi
  have hs := Fu hk.a hk.b hx.b
  have ht : c * 784931 < 18446744073709551616 := by omega
  rw [drop_at hi]
  unfold Ic
  have c3 := pc_bs (nl := false) (x := (CL k0 k1 (c * 784931) (I.getD i default) : Int)) (L := L) (show c ≤ 100000 by omega)
  by_cases h : M8 k0 k1 c L (I.getD i default) = true
  ·rw [if_pos h]
   have h' := of_decide_eq_true h
   rw [decide_eq_true h'] at c3
   have ih := Qf (nl := nl) hk hn hc hL ho r (i + 1) (A ++ [(i : Int)]) (by omega) (by simp) (by rw [List.length_append, List.length_singleton]; omega)
   rw [List.length_append, List.length_singleton] at ih
   exact W_a1Y hi hn hc hL rfl rfl hl (Bw hi) rfl (II rfl hx.len hk.a hk.b hx.b) (DV hs ht) c3 ih
  ·rw [if_neg h]
   have h' : ¬ (bsF L (CL k0 k1 (c * 784931) (I.getD i default)) c 0 c < c ∧ L.getD (bsF L (CL k0 k1 (c * 784931) (I.getD i default)) c 0 c) 0 = (CL k0 k1 (c * 784931) (I.getD i default) : Int)) := fun z => h (decide_eq_true z)
   rw [decide_eq_false h'] at c3
   have ih := Qf (nl := nl) hk hn hc hL ho r (i + 1) A (by omega) hA (by omega)
   exact W_a1N hi hn hc hL rfl (Bw hi) rfl (II rfl hx.len hk.a hk.b hx.b) (DV hs ht) c3 ih
theorem TQ {nl : Bool} {k0 k1 c : Nat} {L : Liz} {I : List It} (hk : Keys k0 k1) (hn : I.length ≤ 100000) (hc : c ≤ 1000) (hL : L.length = c) (ho : ∀ x ∈ I, BQ x) : ∀ (r i : Nat), i + r = I.length →
  Wt Try.f17 [] (aH (Ic k0 k1 c L i (I.drop i) [])) (aP (Ic k0 k1 c L i (I.drop i) [])) (Aa Try.f17 0) (dA0 nl I.length i c k0 k1 (I.map itB) L)
 | 0, i, hk2 => by
  obtain rfl : i = I.length := by omega
  rw [List.drop_of_length_le (Nat.le_refl _)]
  unfold Ic aH aP
  rw [if_pos rfl, if_pos rfl]
  exact W_a0E
 | r + 1, i, hk2 => by
  have hi : i < I.length := by omega
  have hx := Jl ho hi
  have hs := Fu hk.a hk.b hx.b
  have ht : c * 784931 < 18446744073709551616 := by omega
  rw [drop_at hi]
  unfold Ic
  have c3 := pc_bs (nl := false) (x := (CL k0 k1 (c * 784931) (I.getD i default) : Int)) (L := L) (show c ≤ 100000 by omega)
  by_cases h : M8 k0 k1 c L (I.getD i default) = true
  ·rw [if_pos h, List.nil_append]
   have h' := of_decide_eq_true h
   rw [decide_eq_true h'] at c3
   have hle : i = 0 ∨ 0 < i := by omega
   have ih := Qf (nl := nl) hk hn hc hL ho r (i + 1) [(i : Int)] (by omega) (by simp) (by simp)
   exact W_a0Y hi hn hc hL rfl (Bw hi) rfl (II rfl hx.len hk.a hk.b hx.b) (DV hs ht) c3 ih
  ·rw [if_neg h]
   have h' : ¬ (bsF L (CL k0 k1 (c * 784931) (I.getD i default)) c 0 c < c ∧ L.getD (bsF L (CL k0 k1 (c * 784931) (I.getD i default)) c 0 c) 0 = (CL k0 k1 (c * 784931) (I.getD i default) : Int)) := fun z => h (decide_eq_true z)
   rw [decide_eq_false h'] at c3
   exact W_a0N hi hn hc hL rfl (Bw hi) rfl (II rfl hx.len hk.a hk.b hx.b) (DV hs ht) c3 (TQ (nl := nl) hk hn hc hL ho r (i + 1) (by omega))
theorem P6 {nl : Bool} {k0 k1 : Nat} {I : List It} (hk : Keys k0 k1) (hn : I.length ≤ 100000) (ho : ∀ x ∈ I, BQ x) : ∀ (r i : Nat), i + r = I.length →
  Wt Try.f17 [] [] (.tup [Bq, .int .i64 0]) (Aa Try.f17 0) (dAn nl I.length i k0 k1 (I.map itB))
 | 0, i, hk2 => by
  obtain rfl : i = I.length := by omega
  exact W_anE
 | r + 1, i, hk2 => by
  have hi : i < I.length := by omega
  have hx := Jl ho hi
  have hs := Fu hk.a hk.b hx.b
  have c2 := DV (n := 0) hs (by decide)
  rw [Nat.mul_zero, Nat.zero_div] at c2
  exact W_anS hi hn (Bw hi) rfl (II rfl hx.len hk.a hk.b hx.b) c2 (pc_bs (nl := true) (n := 0) (x := 0) (L := []) (by omega)) (P6 hk hn ho r (i + 1) (by omega))
def anyM (k0 k1 : Nat) (b : List Int) (I : List It) : List Int := if Br b = 0 then [] else Ic k0 k1 (Br b) (EZ b).1 0 I []
theorem Tg {nl nb : Bool} {k0 k1 m : Nat} {b : Liz} {I : List It} (hk : Keys k0 k1) (hn : I.length ≤ 100000) (ho : ∀ x ∈ I, BQ x) (hl : b.length = m) (hm : m ≤ 1000000) (hb : Bytes b) (hnl : nb = true → m = 0) (he : vE b = 0) (hL : (EZ b).1.length = Br b) :
  Pt 17 [] [.iarr .u64 2 [(k0 : Int), (k1 : Int)], .vec nb (.iarr .u8 m b), .vec nl (.parr 1 I.length ish (I.map itB))] (aH (anyM k0 k1 b I)) (aP (anyM k0 k1 b I)) := by
 have c1 := MX (nl := nb) hl hm hb hnl
 have hc : Br b ≤ 1000 := Rd.Qy _ _
 unfold anyM
 rw [he] at c1
 by_cases h0 : Br b = 0
 ·rw [if_pos h0, if_pos h0] at c1
  rw [if_pos h0]
  unfold aH aP
  rw [if_pos rfl, if_pos rfl]
  exact Tp c1 (P6 hk hn ho I.length 0 (by omega))
 ·rw [if_neg h0, if_neg h0] at c1
  unfold vH vP at c1
  rw [if_pos rfl, if_pos rfl] at c1
  rw [if_neg h0]
  have hw := TQ (nl := nl) hk hn hc hL ho I.length 0 (by omega)
  rw [List.drop_zero] at hw
  exact W_a0In c1 hw
theorem W_mtY {nb b : Bool} {m ml k : Nat} {k0 k1 : Int} {q l F : Liz} (hF : 0 < F.length) (hF2 : F.length = k) (hk : k ≤ 100000) (c1 : Pt 17 [] [.iarr .u64 2 [k0, k1], .vec nb (.iarr .u8 m q), .vec false (.parr 1 1 ish [.vec b (.iarr .u8 ml l)])] [(1, ⟨.iarr .i64 k F, false⟩)] (.tup [.ref 1 [] 1 0 k, .int .i64 0])) :
  Pt 16 [] [.iarr .u64 2 [k0, k1], .vec nb (.iarr .u8 m q), .vec b (.iarr .u8 ml l)] [] (.tup [.bool true, .int .i64 0]) := by
 refine pO Try.func16 (by kernel_rfl) ?_
 refine W.rtA [(7, c9 c1), (15, aT)] [] [1 ≤ 1, _, decide ((k:Int) > 0) = true] (ac (by omega) (ac (c1) (ao (dT (by omega)))))
theorem W_mtN {nb b : Bool} {m ml : Nat} {k0 k1 : Int} {q l : Liz} {e : Nat} (he : e < 1000) (c1 : Pt 17 [] [.iarr .u64 2 [k0, k1], .vec nb (.iarr .u8 m q), .vec false (.parr 1 1 ish [.vec b (.iarr .u8 ml l)])] [] (.tup [Bq, .int .i64 e])) :
  Pt 16 [] [.iarr .u64 2 [k0, k1], .vec nb (.iarr .u8 m q), .vec b (.iarr .u8 ml l)] [] (.tup [.bool false, .int .i64 e]) := by
 refine pO Try.func16 (by kernel_rfl) ?_
 unfold Bq at c1
 refine W.rtA [(7, c9 c1), (14, aV (I6 0))] [] [1 ≤ 1, _, I6 ↑(0 : Nat) = I6 0] (ac (by omega) (ac (c1) (ao (cg (by omega)))))
theorem W_smS {nl b : Bool} {n i m : Nat} {M : Lpz} {l : Liz} {hout : Lrz} {res : PV} (hi : i < n) (hn : n ≤ 20) (g : M.getD i .undef = .vec b (.iarr .u8 m l)) (hm : m ≤ 100)
  (hw : Wt Try.f9 [] hout res (Aa Try.f9 0) ⟨[(8, .vec nl (.parr 1 n ish M)), (9, .int .i64 n), (10, .int .i64 ((i + 1 : Nat) : Int))], []⟩) :
  Wt Try.f9 [] hout res (Aa Try.f9 0) ⟨[(8, .vec nl (.parr 1 n ish M)), (9, .int .i64 n), (10, .int .i64 i)], []⟩ := by
 refine W.sgA 0 [(0, aT), (2, aE g), (6, aF), (7, aV (I6 ↑(i + 1)))] [] (⟨[(8, .vec nl (.parr 1 n ish M)), (9, .int .i64 n), (10, .int .i64 ((i + 1 : Nat) : Int))], []⟩) [decide ((i:Int) < (n:Int)) = true, 0 ≤ (i:Int), (i:Int) < (n:Int), _, i < n, decide ((m:Int) > 100) = false, I6 (IntKind.wrap .i64 ((i:Int) + 1)) = I6 ↑(i + 1)] (ac (dT (by omega)) (ob2 (by omega) (ac (ex g) (ac (by omega) (ac (dF (by omega)) (ao (wj (by omega)))))))) ?_
 exact hw
theorem W_smN {nl b : Bool} {n i m : Nat} {M : Lpz} {l : Liz} (hi : i < n) (hn : n ≤ 20) (g : M.getD i .undef = .vec b (.iarr .u8 m l)) (hm : 100 < m) :
  Wt Try.f9 [] [] (.bool false) (Aa Try.f9 0) ⟨[(8, .vec nl (.parr 1 n ish M)), (9, .int .i64 n), (10, .int .i64 i)], []⟩ := by
 refine W.rtA [(0, aT), (2, aE g), (6, aT)] [] [decide ((i:Int) < (n:Int)) = true, 0 ≤ (i:Int), (i:Int) < (n:Int), _, i < n, decide ((m:Int) > 100) = true] (ac (dT (by omega)) (ob2 (by omega) (ac (ex g) (ac (by omega) (ao (dT (by omega)))))))
theorem W_smE {nl : Bool} {n : Nat} {M : Lpz} : Wt Try.f9 [] [] (.bool true) (Aa Try.f9 0) ⟨[(8, .vec nl (.parr 1 n ish M)), (9, .int .i64 n), (10, .int .i64 n)], []⟩ := by
 refine W.rtA [(0, aF)] [] [decide ((n:Int) < (n:Int)) = false] (ao (dF (by omega)))
theorem W_smIn {nl : Bool} {n : Nat} {M : Lpz} {hout : Lrz} {res : PV} (hn : n ≤ 20) (hw : Wt Try.f9 [] hout res (Aa Try.f9 0) ⟨[(8, .vec nl (.parr 1 n ish M)), (9, .int .i64 n), (10, .int .i64 0)], []⟩) : Pt 9 [] [.vec nl (.parr 1 n ish M)] hout res := by
 refine pO Try.func9 (by kernel_rfl) ?_
 refine W.sgA 0 [(3, aF)] [] (⟨[(8, .vec nl (.parr 1 n ish M)), (9, .int .i64 n), (10, .int .i64 0)], []⟩) [decide ((n:Int) > 20) = false] (ao (dF (by omega))) ?_
 exact hw
theorem W_smB {nl : Bool} {n : Nat} {M : Lpz} (hn : ¬ n ≤ 20) : Pt 9 [] [.vec nl (.parr 1 n ish M)] [] (.bool false) := by
 refine pO Try.func9 (by kernel_rfl) ?_
 have hn' : ¬ (n : Int) ≤ 20 := by omega
 refine W.rtA [(3, aT)] [] [decide ((n:Int) > 20) = true] (ao (dT (by omega)))
theorem W_aw {m : Nat} {q q0 : Liz} (hq : q.length = 4) (g : q.getD 0 0 = 1) (h0 : q0 = [0]) (c1 : Pt 11 [] [.iarr .u64 2 [1, 2], .vec true (.parr 1 0 ish [])] [(1, Cf 1 q0)] (.tup [.ref 1 [] 1 0 1, .int .i64 0]))
  (c2 : Pt 11 [] [.iarr .u64 2 [1, 2], .vec false (.parr 1 1 ish [.vec false (.iarr .u8 1 [1])])] [(1, Cf 4 q)] (.tup [.ref 1 [] 1 0 4, .int .i64 0]))
  (c3 : Pt 16 [] [.iarr .u64 2 [1, 2], .vec false (.iarr .u8 4 q), .vec false (.iarr .u8 1 [1])] [] (.tup [.bool true, .int .i64 0])) : Pt 10 [] [] [] (.bool true) := by
 refine pO Try.func10 (by kernel_rfl) ?_
 subst h0
 have ht : q.take 4 = q := List.take_of_length_le (by omega)
 have hs : decide (strOf [(0 : Int)] = ⟨#[0]⟩) = true := by decide
 refine W.rtA [(2, c9 c1), (10, Ans.frz [208]), (11, c9 c2), (20, cL true [] c3), (39, aV (I6 4)), (45, aV (U8 1))] [] [_, 1 ≤ 1, 1 ≤ 1, _, 4 ≤ 4, 1 ≤ 1, rr ([] : List (Nat × Row)), ([B6 2 [1, 2], PV.vec false (B8 4 (List.take 4 q)), PV.vec false (B8 1 [1])] : List PV) = [B6 2 [1, 2], PV.vec false (B8 4 q), PV.vec false (B8 1 [1])], _, 1 ≤ 1, I6 ↑(4 : Nat) = I6 4, (0 : Int) ≤ 0, 0 < (↑(4 : Nat) : Int), U8 (List.getD q 0 (0 : Int)) = U8 1, 0 < 4] (ac (c1) (ob2 (by omega) (ac (c2) (ob2 (by omega) (ac rfl (ac (by rw [List.take_of_length_le (show List.length q ≤ 4 by omega)]) (ac (c3) (ac (by omega) (ac (cg (by omega)) (ob2 (by omega) (ac (cg (g)) (ao (by omega)))))))))))))
end Go.Proofs
namespace Go.Proofs
open Go Go.Pe Go.Pm
set_option maxRecDepth 100000
set_option linter.unusedVariables false
theorem GM {L : List Int} (h : L.Pairwise (fun x y => decide (x ≤ y) = true)) {p q : Nat} (hpq : p ≤ q) (hq : q < L.length) : L.getD p 0 ≤ L.getD q 0 := by
 rcases Nat.eq_or_lt_of_le hpq with rfl | hlt
 ·exact Int.le_refl _
 ·have := List.pairwise_iff_getElem.1 h p q (by omega) hq hlt
  rw [List.getD_eq_getElem?_getD, List.getD_eq_getElem?_getD, List.getElem?_eq_getElem (by omega), List.getElem?_eq_getElem hq]
  exact of_decide_eq_true this
theorem KH {L : List Int} (h : L.Pairwise (fun x y => decide (x ≤ y) = true)) {x : Int} : ∀ (k i j : Nat), j ≤ i + k → i ≤ j → j ≤ L.length → (∀ p, p < i → L.getD p 0 < x) → (∀ p, j ≤ p → p < L.length → ¬ L.getD p 0 < x) →
  (∀ p, p < bsF L x k i j → L.getD p 0 < x) ∧ (∀ p, bsF L x k i j ≤ p → p < L.length → ¬ L.getD p 0 < x)
 | 0, i, j, hk, hij, hj, h1, h2 => by
  unfold bsF
  exact ⟨h1, fun p hp => h2 p (by omega)⟩
 | k + 1, i, j, hk, hij, hj, h1, h2 => by
  unfold bsF
  by_cases hc : i < j
  ·rw [if_pos hc]
   by_cases g : L.getD ((i + j) / 2) 0 < x
   ·rw [if_pos g]
    refine KH h k _ _ (by omega) (by omega) hj (fun p hp => ?_) h2
    have := GM h (p := p) (q := (i + j) / 2) (by omega) (by omega)
    omega
   ·rw [if_neg g]
    refine KH h k _ _ (by omega) (by omega) (by omega) h1 (fun p hp hpl => ?_)
    have := GM h (p := (i + j) / 2) (q := p) hp hpl
    omega
  ·rw [if_neg hc]
   exact ⟨h1, fun p hp => h2 p (by omega)⟩
theorem SB {L : List Int} (h : L.Pairwise (fun x y => decide (x ≤ y) = true)) {x : Int} (hx : x ∈ L) : bsF L x L.length 0 L.length < L.length ∧ L.getD (bsF L x L.length 0 L.length) 0 = x := by
 obtain ⟨h1, h2⟩ := KH h (x := x) L.length 0 L.length (by omega) (by omega) (Nat.le_refl _) (fun p hp => by omega) (fun p hp hq => by omega)
 obtain ⟨p, hp, rfl⟩ := List.getElem_of_mem hx
 have e : L.getD p 0 = L[p] := by rw [List.getD_eq_getElem?_getD, List.getElem?_eq_getElem hp]; rfl
 have hr : bsF L L[p] L.length 0 L.length ≤ p := by
  rcases Nat.lt_or_ge p (bsF L L[p] L.length 0 L.length) with g | g
  ·have := h1 p g; omega
  ·exact g
 have g1 := GM h hr hp
 have g2 := h2 _ (Nat.le_refl _) (by omega)
 exact ⟨by omega, by omega⟩
theorem PY {k0 k1 t : Nat} {x y : It} (h : x.2 = y.2) : CL k0 k1 t x = CL k0 k1 t y := by unfold CL; rw [h]
theorem hit_all {k0 k1 : Nat} (hk : Keys k0 k1) {U : List It} (ho : ∀ x ∈ U, BQ x) {x : It} (hx : KF U x.2 = true) : M8 k0 k1 U.length (inL (nsN k0 k1 U)) x = true := by
 rw [Qm hk ho]
 have hl : ((Cu k0 k1 (U.length * 784931) U).mergeSort (fun x y => decide (x ≤ y))).length = U.length := by rw [List.length_mergeSort]; simp [Cu]
 obtain ⟨u, hu, he⟩ := List.any_eq_true.1 hx
 have he := of_decide_eq_true he
 have hm : (CL k0 k1 (U.length * 784931) x : Int) ∈ (Cu k0 k1 (U.length * 784931) U).mergeSort (fun x y => decide (x ≤ y)) := by
  rw [List.mem_mergeSort, PY he.symm]
  exact List.mem_map.2 ⟨u, hu, rfl⟩
 have := SB (Me _) hm
 rw [hl] at this
 exact decide_eq_true this
theorem Ou {k0 k1 c : Nat} {L : List Int} : ∀ (l : List It) (i : Nat) (A : List Int), (∀ x ∈ l, M8 k0 k1 c L x = true) → (Ic k0 k1 c L i l A).length = A.length + l.length
 | [], i, A, _ => rfl
 | u :: l, i, A, h => by
  unfold Ic
  rw [if_pos (h u (by simp)), Ou l (i + 1) _ (fun x hx => h x (List.mem_cons_of_mem _ hx)), List.length_append, List.length_singleton, List.length_cons]
  omega
theorem Pg (l : List Nat) : (inL l).length = l.length := by simp [inL]
theorem Pd {k0 k1 : Nat} {U : List It} (hU : U.length ≤ 1000) : Bytes (CV k0 k1 U) := by
 unfold CV
 refine Bytes.append ?_ (HY (FN _ _))
 unfold Cm
 split
 ·exact Dr _ _
 ·exact (Dr _ _).append (Dr _ _)
theorem pc_anyB {nl nb : Bool} {k0 k1 : Nat} {U I : List It} (hk : Keys k0 k1) (hn : I.length ≤ 100000) (ho : ∀ x ∈ I, BQ x) (hoU : ∀ x ∈ U, BQ x) (hU : U.length ≤ 1000) (hnb : nb = false) : Pt 17 [] [.iarr .u64 2 [(k0 : Int), (k1 : Int)], .vec nb (.iarr .u8 (CV k0 k1 U).length (CV k0 k1 U)), .vec nl (.parr 1 I.length ish (I.map itB))] (aH (anyM k0 k1 (CV k0 k1 U) I)) (aP (anyM k0 k1 (CV k0 k1 U) I)) := by
 obtain ⟨e1, e2, e3⟩ := NN hk hoU hU
 have hl := Jm hk hoU hU
 exact Tg hk hn ho rfl (by omega) (Pd hU) (fun x => by rw [hnb] at x; cases x) e1 (by rw [e3, e2, Pg, Db])
theorem Sn {k0 k1 : Nat} {U I : List It} (hk : Keys k0 k1) (hoU : ∀ x ∈ U, BQ x) (hU : U.length ≤ 1000) (h : ∀ x ∈ I, KF U x.2 = true) : (anyM k0 k1 (CV k0 k1 U) I).length = I.length := by
 obtain ⟨e1, e2, e3⟩ := NN hk hoU hU
 unfold anyM
 rw [e2, e3]
 by_cases h0 : U.length = 0
 ·rw [if_pos h0]
  have hU0 : U = [] := List.eq_nil_of_length_eq_zero h0
  subst hU0
  cases I with
  | nil => rfl
  | cons x l => have := h x (by simp); cases this
 ·rw [if_neg h0, Ou I 0 [] fun x hx => hit_all hk hoU (h x hx)]
  exact Nat.zero_add _
theorem Si {nb : Bool} {k0 k1 : Nat} {U : List It} {x : It} (hk : Keys k0 k1) (hx : BQ x) (hoU : ∀ x ∈ U, BQ x) (hU : U.length ≤ 1000) (hnb : nb = false) (h : KF U x.2 = true) : Pt 16 [] [.iarr .u64 2 [(k0 : Int), (k1 : Int)], .vec nb (.iarr .u8 (CV k0 k1 U).length (CV k0 k1 U)), .vec x.1 (.iarr .u8 x.2.length x.2)] [] (.tup [.bool true, .int .i64 0]) := by
 have c1 := pc_anyB (nl := false) (I := [x]) hk (by simp) (fun y hy => by rw [List.mem_singleton.1 hy]; exact hx) hoU hU hnb
 have hl := Sn (I := [x]) hk hoU hU (fun y hy => by rw [List.mem_singleton.1 hy]; exact h)
 have hne : anyM k0 k1 (CV k0 k1 U) [x] ≠ [] := fun e => by rw [e] at hl; cases hl
 unfold aH aP at c1
 rw [if_neg hne, if_neg hne] at c1
 exact W_mtY (by rw [hl]; simp) rfl (by rw [hl]; simp) c1
def MM (I : List It) : Bool := I.all fun x => decide (x.2.length ≤ 100)
theorem QL {nl : Bool} {I : List It} (hn : I.length ≤ 20) : ∀ (r i : Nat), i + r = I.length →
  Wt Try.f9 [] [] (.bool (MM (I.drop i))) (Aa Try.f9 0) ⟨[(8, .vec nl (.parr 1 I.length ish (I.map itB))), (9, .int .i64 I.length), (10, .int .i64 i)], []⟩
 | 0, i, hk => by
  obtain rfl : i = I.length := by omega
  rw [List.drop_of_length_le (Nat.le_refl _)]
  exact W_smE
 | r + 1, i, hk => by
  have hi : i < I.length := by omega
  have ih := QL (nl := nl) hn r (i + 1) (by omega)
  unfold MM at ih ⊢
  rw [drop_at hi, List.all_cons]
  by_cases h : (I.getD i default).2.length ≤ 100
  ·rw [decide_eq_true h, Bool.true_and]
   exact W_smS hi hn (Bw hi) h ih
  ·rw [decide_eq_false h, Bool.false_and]
   exact W_smN hi hn (Bw hi) (by omega)
def Kj (I : List It) : Bool := decide (I.length ≤ 20) && MM I
theorem Sw {nl : Bool} {I : List It} : Pt 9 [] [.vec nl (.parr 1 I.length ish (I.map itB))] [] (.bool (Kj I)) := by
 unfold Kj
 by_cases hn : I.length ≤ 20
 ·have hw := QL (nl := nl) hn I.length 0 (by omega)
  rw [List.drop_zero] at hw
  rw [decide_eq_true hn, Bool.true_and]
  exact W_smIn hn hw
 ·rw [decide_eq_false hn, Bool.false_and]
  exact W_smB hn
theorem Sa {I : List It} (h : Kj I = true) : I.length ≤ 20 ∧ ∀ x ∈ I, x.2.length ≤ 100 := by
 unfold Kj MM at h
 rw [Bool.and_eq_true] at h
 exact ⟨of_decide_eq_true h.1, fun x hx => of_decide_eq_true (List.all_eq_true.1 h.2 x hx)⟩
theorem Ir : Pt 10 [] [] [] (.bool true) := by
 have hk : Keys 1 2 := ⟨by decide, by decide⟩
 have hx : BQ (false, [1]) := ⟨fun y hy => by rw [List.mem_singleton.1 hy]; omega, fun h => (by cases h), by simp⟩
 have hI : ∀ x ∈ [((false, [1]) : It)], BQ x := fun y hy => by rw [List.mem_singleton.1 hy]; exact hx
 have c1 := OM (nl := true) (I := []) hk (by simp) (fun x hx => by cases hx) (by simp [Bo])
 have c2 := OM (nl := false) (I := [(false, [1])]) hk (by simp) hI (by simp [Bo, KF])
 have e0 : bldM 1 2 [] = [0] := by
  show Cm 0 ++ pk (stB 0 (nsN 1 2 [])) = [0]
  rw [MN]
  rfl
 have eU : Bo [] [((false, [1]) : It)] = [(false, [1])] := rfl
 have c3 := Si (nb := false) (U := [(false, [1])]) (x := (false, [1])) hk hx hI (by simp) rfl rfl
 have eM : bldM 1 2 [((false, [1]) : It)] = CV 1 2 [(false, [1])] := rfl
 rw [e0] at c1
 rw [eM] at c2
 have hlen : (CV 1 2 [((false, [1]) : It)]).length = 4 := by
  unfold CV
  have h1 := Db 1 2 [((false, [1]) : It)]
  have h2 := KR hk hI
  generalize nsN 1 2 [((false, [1]) : It)] = r at *
  obtain ⟨v, rfl⟩ : ∃ v, r = [v] := List.length_eq_one_iff.1 h1
  have h3 := h2 v (by simp)
  have h4 : v < 784931 := by simpa using h3
  rw [List.length_append, Bj, F8, stB, stB, List.append_nil, Dm, if_pos (by simp)]
  omega
 have hget : (CV 1 2 [((false, [1]) : It)]).getD 0 0 = 1 := rfl
 rw [hlen] at c2 c3
 exact W_aw (m := 4) hlen hget rfl c1 c2 c3
structure ItW (x : It) : Prop where
 b : Bytes x.2
 nl : x.1 = true → x.2 = []
theorem it_ok {I : List It} (ho : ∀ x ∈ I, ItW x) (h : ∀ x ∈ I, x.2.length ≤ 100) : ∀ x ∈ I, BQ x := fun x hx => ⟨(ho x hx).b, (ho x hx).nl, by have := h x hx; omega⟩
theorem u8b {l : List Int} (h : ∀ x ∈ l, IntKind.u8.wrap x = x) : Bytes l := fun x hx => by
 have := h x hx
 rw [Au] at this
 exact this
theorem it_of {q : PV} (hc : conf ish q = true) (hw : WF q) : ∃ x : It, q = itB x ∧ ItW x := by
 obtain ⟨nl, n, l, rfl⟩ : ∃ nl n l, q = .vec nl (.iarr .u8 n l) := ⟨_, _, _, (BN _ _ hc).symm⟩
 simp only [WF] at hw
 obtain ⟨⟨h1, h2⟩, _, h3⟩ := hw
 subst h1
 exact ⟨(nl, l), rfl, ⟨u8b h2, fun h => List.eq_nil_of_length_eq_zero (h3 h)⟩⟩
theorem Tm : ∀ {l : List PV}, WFL l → (∀ q ∈ l, size q = 1 ∧ conf ish q = true ∧ noref q = true) → ∃ L : List It, l = L.map itB ∧ ∀ x ∈ L, ItW x
 | [], _, _ => ⟨[], rfl, fun x hx => by cases hx⟩
 | p :: l, hw, hq => by
  simp only [WFL] at hw
  obtain ⟨x, rfl, ho⟩ := it_of (hq p (by simp)).2.1 hw.1
  obtain ⟨L, rfl, hL⟩ := Tm hw.2 fun q hh => hq q (by simp [hh])
  refine ⟨x :: L, rfl, fun y hy => ?_⟩
  rcases List.mem_cons.1 hy with rfl | hy
  ·exact ho
  ·exact hL y hy
theorem itsv_of {p : PV} (hc : conf (.vec 1 ish) p = true) (hw : WF p) : ∃ (nl : Bool) (L : List It), p = .vec nl (.parr 1 L.length ish (L.map itB)) ∧ ∀ x ∈ L, ItW x := by
 obtain ⟨nl, n, m, rfl⟩ : ∃ nl n m, p = .vec nl (.parr 1 n ish m) := ⟨_, _, _, (BN _ _ hc).symm⟩
 simp only [WF] at hw
 obtain ⟨⟨h1, h2, h3⟩, _, _⟩ := hw
 obtain ⟨L, rfl, hL⟩ := Tm h2 h3
 rw [List.length_map] at h1
 subst h1
 exact ⟨nl, L, rfl, hL⟩
theorem key_of {p : PV} (hc : conf (.iarr .u64 2) p = true) (hw : WF p) : ∃ k0 k1 : Nat, p = .iarr .u64 2 [(k0 : Int), (k1 : Int)] ∧ Keys k0 k1 := by
 obtain ⟨l, rfl⟩ : ∃ l, p = .iarr .u64 2 l := ⟨_, (BN _ _ hc).symm⟩
 simp only [WF] at hw
 match l, hw with
 | [a, b], hw =>
  have ha := (Au .u64 a).1 (hw.2 a (by simp))
  have hb := (Au .u64 b).1 (hw.2 b (by simp))
  simp only [IntKind.min, IntKind.max, IntKind.signed, IntKind.bits] at ha hb
  refine ⟨a.toNat, b.toNat, ?_, ⟨?_, ?_⟩⟩
  ·rw [Int.toNat_of_nonneg (by simpa using ha.1), Int.toNat_of_nonneg (by simpa using hb.1)]
  ·have := ha.2; simp at this; omega
  ·have := hb.2; simp at this; omega
end Go.Proofs
namespace Go.Proofs
open Go Go.Pe Go.Pm
set_option maxRecDepth 100000
set_option linter.unusedVariables false
attribute [local irreducible] lv
def Oc (n : Nat) (l : List Int) : Row := ⟨.iarr .i64 n l, false⟩
theorem QS {nl nb : Bool} {n mb e : Nat} {k0 k1 : Int} {M : Lpz} {b : Liz} (he : 0 < e) (he2 : e < 1000) (c1 : Pt 14 [] [.vec nb (.iarr .u8 mb b)] [] (.tup [AV, .int .i64 e])) :
  Pt 17 [] [.iarr .u64 2 [k0, k1], .vec nb (.iarr .u8 mb b), .vec nl (.parr 1 n ish M)] [] (.tup [Bq, .int .i64 e]) := by
 refine pO Try.func17 (by kernel_rfl) ?_
 unfold AV at c1
 unfold Bq
 refine W.rtA [(4, c9 c1), (11, aT)] [] [_, ((e:Int) != 0) = true] (ac (c1) (ao (bne_iff_ne.2 (by omega))))
def La (nv nt : Bool) (k0 k1 n i c : Nat) (L : List Int) (T : List PV) : DS := ⟨[(1, .vec nv (.iarr .u64 c L)), (3, .at 1 []), (7, Bq), (13, .vec nt (.parr 1 n .str T)), (14, .int .i64 n), (15, .int .i64 i)], [(1, keyR k0 k1)]⟩
def EC (nv nt : Bool) (k0 k1 n i c : Nat) (L : List Int) (T : List PV) (s : ByteArray) (t : Bool) (j : Nat) : DS := ⟨[(1, .vec nv (.iarr .u64 c L)), (3, .at 1 []), (7, Bq), (8, .int .i64 i), (9, .str s), (10, .bool t), (13, .vec nt (.parr 1 n .str T)), (14, .int .i64 n), (15, .int .i64 i), (20, .vec nv (.iarr .u64 c L)), (21, .int .i64 c), (22, .int .i64 j)], [(1, keyR k0 k1)]⟩
theorem W_ra0S {nv nt : Bool} {k0 k1 n i c : Nat} {L : Liz} {T : Lpz} {hout : Lrz} {res : PV} (hn : n ≤ 1000000) (hc : c ≤ 1000) (hi : i < n) {s : ByteArray} (hg : T.getD i .undef = .str s) (hw : Wt Try.f18 [] hout res (Aa Try.f18 1) (EC nv nt k0 k1 n i c L T s false 0)) :
  Wt Try.f18 [] hout res (Aa Try.f18 0) (La nv nt k0 k1 n i c L T ) := by
 unfold La Bq
 refine W.sgA 1 [(0, Ans.dec true), (3, Ans.val (PV.str s))] [((1 : Nat), (1 : Nat))] (EC nv nt k0 k1 n i c L T s false (0 : Nat)) [decide ((↑i : Int) < (↑n : Int)) = true, (0 : Int) ≤ (↑i : Int), (↑i : Int) < (↑n : Int), PV.str (PV.text (List.getD T i PV.undef)) = PV.str s, i < n] (ac (by exact decide_eq_true (by omega)) (ob2 (by omega) (ac (by (rw [hg]; rfl)) (ao (by omega))))) ?_
 exact hw
theorem W_rb0T {nv nt : Bool} {k0 k1 n i c : Nat} {L : Liz} {T : Lpz} {hout : Lrz} {res : PV} (hn : n ≤ 1000000) (hc : c ≤ 1000) {s : ByteArray} {j : Nat} (hj : j < c) (hL : L.length = c) (hw : Wt Try.f18 [] hout res (Aa Try.f18 1) (EC nv nt k0 k1 n i c L T s true (j + 1))) :
  Wt Try.f18 [] hout res (Aa Try.f18 1) (EC nv nt k0 k1 n i c L T s true j) := by
 unfold EC Bq
 refine W.sgA 1 [(0, Ans.dec true), (15, Ans.val (PV.int .i64 (↑(j + (1 : Nat)) : Int)))] [((1 : Nat), (1 : Nat))] (EC nv nt k0 k1 n i c L T s true (j + (1 : Nat))) [decide ((↑j : Int) < (↑c : Int)) = true, (0 : Int) ≤ (↑j : Int), (↑j : Int) < (↑c : Int), j < c, PV.int .i64 (IntKind.wrap .i64 ((↑j : Int) + (1 : Int))) = PV.int .i64 (↑(j + (1 : Nat)) : Int)] (ac (by exact decide_eq_true (by omega)) (ob3 (by omega) (ao (by exact congrArg (PV.int _) (Ab rfl (by omega) (by omega)))))) ?_
 exact hw
theorem W_rb0Y {nv nt : Bool} {k0 k1 n i c : Nat} {L : Liz} {T : Lpz} {hout : Lrz} {res : PV} (hn : n ≤ 1000000) (hc : c ≤ 1000) {s : ByteArray} {j x : Nat} (hj : j < c) (hL : L.length = c) (hg : L.getD j 0 = (x : Int)) (hx : x < 18446744073709551616) (c1 : Pt 45 [] [.iarr .u64 2 [(k0 : Int), (k1 : Int)], .str s, .int .i64 c] [] (.int .u64 x)) (hw : Wt Try.f18 [] hout res (Aa Try.f18 1) (EC nv nt k0 k1 n i c L T s true (j + 1))) :
  Wt Try.f18 [] hout res (Aa Try.f18 1) (EC nv nt k0 k1 n i c L T s false j) := by
 unfold EC Bq
 refine W.sgA 1 [(0, Ans.dec true), (2, Ans.val (PV.int .u64 (↑x : Int))), (11, Ans.call true [] [] (PV.int .u64 (↑x : Int))), (12, Ans.dec true), (15, Ans.val (PV.int .i64 (↑(j + (1 : Nat)) : Int)))] [((1 : Nat), (1 : Nat))] (EC nv nt k0 k1 n i c L T s true (j + (1 : Nat))) [decide ((↑j : Int) < (↑c : Int)) = true, (0 : Int) ≤ (↑j : Int), (↑j : Int) < (↑c : Int), PV.int .u64 (List.getD L j (0 : Int)) = PV.int .u64 (↑x : Int), j < c, Pt (45 : Nat) [] [PV.iarr .u64 (2 : Nat) [(↑k0 : Int), (↑k1 : Int)], PV.str s, PV.int .i64 (↑c : Int)] [] (PV.int .u64 (↑x : Int)), ((↑x : Int) == (↑x : Int)) = true, PV.int .i64 (IntKind.wrap .i64 ((↑j : Int) + (1 : Int))) = PV.int .i64 (↑(j + (1 : Nat)) : Int)] (ac (by exact decide_eq_true (by omega)) (ob2 (by omega) (ac (by exact congrArg (PV.int _) (hg)) (ac (by omega) (ac (by exact c1) (ac (by exact decide_eq_true (by omega)) (ao (by exact congrArg (PV.int _) (Ab rfl (by omega) (by omega)))))))))) ?_
 exact hw
theorem W_rb0N {nv nt : Bool} {k0 k1 n i c : Nat} {L : Liz} {T : Lpz} {hout : Lrz} {res : PV} (hn : n ≤ 1000000) (hc : c ≤ 1000) {s : ByteArray} {j x y : Nat} (hj : j < c) (hL : L.length = c) (hg : L.getD j 0 = (y : Int)) (hxy : y ≠ x) (hx : x < 18446744073709551616) (hy : y < 18446744073709551616) (c1 : Pt 45 [] [.iarr .u64 2 [(k0 : Int), (k1 : Int)], .str s, .int .i64 c] [] (.int .u64 x)) (hw : Wt Try.f18 [] hout res (Aa Try.f18 1) (EC nv nt k0 k1 n i c L T s false (j + 1))) :
  Wt Try.f18 [] hout res (Aa Try.f18 1) (EC nv nt k0 k1 n i c L T s false j) := by
 unfold EC Bq
 refine W.sgA 1 [(0, Ans.dec true), (2, Ans.val (PV.int .u64 (↑y : Int))), (11, Ans.call true [] [] (PV.int .u64 (↑x : Int))), (12, Ans.dec false), (15, Ans.val (PV.int .i64 (↑(j + (1 : Nat)) : Int)))] [((1 : Nat), (1 : Nat))] (EC nv nt k0 k1 n i c L T s false (j + (1 : Nat))) [decide ((↑j : Int) < (↑c : Int)) = true, (0 : Int) ≤ (↑j : Int), (↑j : Int) < (↑c : Int), PV.int .u64 (List.getD L j (0 : Int)) = PV.int .u64 (↑y : Int), j < c, Pt (45 : Nat) [] [PV.iarr .u64 (2 : Nat) [(↑k0 : Int), (↑k1 : Int)], PV.str s, PV.int .i64 (↑c : Int)] [] (PV.int .u64 (↑x : Int)), ((↑y : Int) == (↑x : Int)) = false, PV.int .i64 (IntKind.wrap .i64 ((↑j : Int) + (1 : Int))) = PV.int .i64 (↑(j + (1 : Nat)) : Int)] (ac (by exact decide_eq_true (by omega)) (ob2 (by omega) (ac (by exact congrArg (PV.int _) (hg)) (ac (by omega) (ac (by exact c1) (ac (by exact decide_eq_false (by omega)) (ao (by exact congrArg (PV.int _) (Ab rfl (by omega) (by omega)))))))))) ?_
 exact hw
theorem W_rb0X {nv nt : Bool} {k0 k1 n i c : Nat} {L : Liz} {T : Lpz} {hout : Lrz} {res : PV} (hn : n ≤ 1000000) (hc : c ≤ 1000) {s : ByteArray} (hi : i < n) (hw : Wt Try.f18 [] hout res (Aa Try.f18 0) (La nv nt k0 k1 n (i + 1) c L T )) :
  Wt Try.f18 [] hout res (Aa Try.f18 1) (EC nv nt k0 k1 n i c L T s false c) := by
 unfold EC Bq
 refine W.sgA 0 [(0, aF), (2, aV (I6 ↑(i + 1)))] (rI 1) (La nv nt k0 k1 n (i + 1) c L T ) [decide ((c:Int) < (c:Int)) = false, I6 (IntKind.wrap .i64 ((i:Int) + 1)) = I6 ↑(i + 1)] (ac (dF (by omega)) (ao (wj (by omega)))) ?_
 exact hw
theorem W_ra0X {nv nt : Bool} {k0 k1 n c : Nat} {L : Liz} {T : Lpz} : Wt Try.f18 [] [] Bq (Aa Try.f18 0) (La nv nt k0 k1 n n c L T ) := by
 unfold La Bq
 refine W.rtA [(0, aF)] [] [decide ((n:Int) < (n:Int)) = false] (ao (dF (by omega)))
def MP (nv nt : Bool) (k0 k1 n i c : Nat) (L : List Int) (T : List PV) (m : Nat) (F : List Int) : DS := ⟨[(1, .vec nv (.iarr .u64 c L)), (3, .at 1 []), (7, .ref 2 [] 1 0 m), (13, .vec nt (.parr 1 n .str T)), (14, .int .i64 n), (15, .int .i64 i)], [(1, keyR k0 k1), (2, Oc m F)]⟩
def Hw (nv nt : Bool) (k0 k1 n i c : Nat) (L : List Int) (T : List PV) (m : Nat) (F : List Int) (s : ByteArray) (t : Bool) (j : Nat) : DS := ⟨[(1, .vec nv (.iarr .u64 c L)), (3, .at 1 []), (7, .ref 2 [] 1 0 m), (8, .int .i64 i), (9, .str s), (10, .bool t), (13, .vec nt (.parr 1 n .str T)), (14, .int .i64 n), (15, .int .i64 i), (20, .vec nv (.iarr .u64 c L)), (21, .int .i64 c), (22, .int .i64 j)], [(1, keyR k0 k1), (2, Oc m F)]⟩
theorem W_ra1S {nv nt : Bool} {k0 k1 n i c : Nat} {L : Liz} {T : Lpz} {m : Nat} {F : Liz} {hout : Lrz} {res : PV} (hn : n ≤ 1000000) (hc : c ≤ 1000) (hi : i < n) {s : ByteArray} (hg : T.getD i .undef = .str s) (hw : Wt Try.f18 [] hout res (Aa Try.f18 1) (Hw nv nt k0 k1 n i c L T m F s false 0)) :
  Wt Try.f18 [] hout res (Aa Try.f18 0) (MP nv nt k0 k1 n i c L T m F ) := by
 refine W.sgA 1 [(0, Ans.dec true), (3, Ans.val (PV.str s))] [((1 : Nat), (1 : Nat)), ((2 : Nat), (2 : Nat))] (Hw nv nt k0 k1 n i c L T m F s false (0 : Nat)) [decide ((↑i : Int) < (↑n : Int)) = true, (0 : Int) ≤ (↑i : Int), (↑i : Int) < (↑n : Int), PV.str (PV.text (List.getD T i PV.undef)) = PV.str s, i < n] (ac (by exact decide_eq_true (by omega)) (ob2 (by omega) (ac (by (rw [hg]; rfl)) (ao (by omega))))) ?_
 exact hw
theorem W_rb1T {nv nt : Bool} {k0 k1 n i c : Nat} {L : Liz} {T : Lpz} {m : Nat} {F : Liz} {hout : Lrz} {res : PV} (hn : n ≤ 1000000) (hc : c ≤ 1000) {s : ByteArray} {j : Nat} (hj : j < c) (hL : L.length = c) (hw : Wt Try.f18 [] hout res (Aa Try.f18 1) (Hw nv nt k0 k1 n i c L T m F s true (j + 1))) :
  Wt Try.f18 [] hout res (Aa Try.f18 1) (Hw nv nt k0 k1 n i c L T m F s true j) := by
 refine W.sgA 1 [(0, Ans.dec true), (15, Ans.val (PV.int .i64 (↑(j + (1 : Nat)) : Int)))] [((1 : Nat), (1 : Nat)), ((2 : Nat), (2 : Nat))] (Hw nv nt k0 k1 n i c L T m F s true (j + (1 : Nat))) [decide ((↑j : Int) < (↑c : Int)) = true, (0 : Int) ≤ (↑j : Int), (↑j : Int) < (↑c : Int), j < c, PV.int .i64 (IntKind.wrap .i64 ((↑j : Int) + (1 : Int))) = PV.int .i64 (↑(j + (1 : Nat)) : Int)] (ac (by exact decide_eq_true (by omega)) (ob3 (by omega) (ao (by exact congrArg (PV.int _) (Ab rfl (by omega) (by omega)))))) ?_
 exact hw
theorem W_rb1Y {nv nt : Bool} {k0 k1 n i c : Nat} {L : Liz} {T : Lpz} {m : Nat} {F : Liz} {hout : Lrz} {res : PV} (hn : n ≤ 1000000) (hc : c ≤ 1000) {s : ByteArray} {j x : Nat} (hj : j < c) (hL : L.length = c) (hg : L.getD j 0 = (x : Int)) (hx : x < 18446744073709551616) (c1 : Pt 45 [] [.iarr .u64 2 [(k0 : Int), (k1 : Int)], .str s, .int .i64 c] [] (.int .u64 x)) (hw : Wt Try.f18 [] hout res (Aa Try.f18 1) (Hw nv nt k0 k1 n i c L T m F s true (j + 1))) :
  Wt Try.f18 [] hout res (Aa Try.f18 1) (Hw nv nt k0 k1 n i c L T m F s false j) := by
 refine W.sgA 1 [(0, Ans.dec true), (2, Ans.val (PV.int .u64 (↑x : Int))), (11, Ans.call true [] [] (PV.int .u64 (↑x : Int))), (12, Ans.dec true), (15, Ans.val (PV.int .i64 (↑(j + (1 : Nat)) : Int)))] [((1 : Nat), (1 : Nat)), ((2 : Nat), (2 : Nat))] (Hw nv nt k0 k1 n i c L T m F s true (j + (1 : Nat))) [decide ((↑j : Int) < (↑c : Int)) = true, (0 : Int) ≤ (↑j : Int), (↑j : Int) < (↑c : Int), PV.int .u64 (List.getD L j (0 : Int)) = PV.int .u64 (↑x : Int), j < c, Pt (45 : Nat) [] [PV.iarr .u64 (2 : Nat) [(↑k0 : Int), (↑k1 : Int)], PV.str s, PV.int .i64 (↑c : Int)] [] (PV.int .u64 (↑x : Int)), ((↑x : Int) == (↑x : Int)) = true, PV.int .i64 (IntKind.wrap .i64 ((↑j : Int) + (1 : Int))) = PV.int .i64 (↑(j + (1 : Nat)) : Int)] (ac (by exact decide_eq_true (by omega)) (ob2 (by omega) (ac (by exact congrArg (PV.int _) (hg)) (ac (by omega) (ac (by exact c1) (ac (by exact decide_eq_true (by omega)) (ao (by exact congrArg (PV.int _) (Ab rfl (by omega) (by omega)))))))))) ?_
 exact hw
theorem W_rb1N {nv nt : Bool} {k0 k1 n i c : Nat} {L : Liz} {T : Lpz} {m : Nat} {F : Liz} {hout : Lrz} {res : PV} (hn : n ≤ 1000000) (hc : c ≤ 1000) {s : ByteArray} {j x y : Nat} (hj : j < c) (hL : L.length = c) (hg : L.getD j 0 = (y : Int)) (hxy : y ≠ x) (hx : x < 18446744073709551616) (hy : y < 18446744073709551616) (c1 : Pt 45 [] [.iarr .u64 2 [(k0 : Int), (k1 : Int)], .str s, .int .i64 c] [] (.int .u64 x)) (hw : Wt Try.f18 [] hout res (Aa Try.f18 1) (Hw nv nt k0 k1 n i c L T m F s false (j + 1))) :
  Wt Try.f18 [] hout res (Aa Try.f18 1) (Hw nv nt k0 k1 n i c L T m F s false j) := by
 refine W.sgA 1 [(0, Ans.dec true), (2, Ans.val (PV.int .u64 (↑y : Int))), (11, Ans.call true [] [] (PV.int .u64 (↑x : Int))), (12, Ans.dec false), (15, Ans.val (PV.int .i64 (↑(j + (1 : Nat)) : Int)))] [((1 : Nat), (1 : Nat)), ((2 : Nat), (2 : Nat))] (Hw nv nt k0 k1 n i c L T m F s false (j + (1 : Nat))) [decide ((↑j : Int) < (↑c : Int)) = true, (0 : Int) ≤ (↑j : Int), (↑j : Int) < (↑c : Int), PV.int .u64 (List.getD L j (0 : Int)) = PV.int .u64 (↑y : Int), j < c, Pt (45 : Nat) [] [PV.iarr .u64 (2 : Nat) [(↑k0 : Int), (↑k1 : Int)], PV.str s, PV.int .i64 (↑c : Int)] [] (PV.int .u64 (↑x : Int)), ((↑y : Int) == (↑x : Int)) = false, PV.int .i64 (IntKind.wrap .i64 ((↑j : Int) + (1 : Int))) = PV.int .i64 (↑(j + (1 : Nat)) : Int)] (ac (by exact decide_eq_true (by omega)) (ob2 (by omega) (ac (by exact congrArg (PV.int _) (hg)) (ac (by omega) (ac (by exact c1) (ac (by exact decide_eq_false (by omega)) (ao (by exact congrArg (PV.int _) (Ab rfl (by omega) (by omega)))))))))) ?_
 exact hw
theorem W_rb1X {nv nt : Bool} {k0 k1 n i c : Nat} {L : Liz} {T : Lpz} {m : Nat} {F : Liz} {hout : Lrz} {res : PV} (hn : n ≤ 1000000) (hc : c ≤ 1000) {s : ByteArray} (hi : i < n) (hw : Wt Try.f18 [] hout res (Aa Try.f18 0) (MP nv nt k0 k1 n (i + 1) c L T m F )) :
  Wt Try.f18 [] hout res (Aa Try.f18 1) (Hw nv nt k0 k1 n i c L T m F s false c) := by
 refine W.sgA 0 [(0, aF), (2, aV (I6 ↑(i + 1)))] (rI 2) (MP nv nt k0 k1 n (i + 1) c L T m F ) [decide ((c:Int) < (c:Int)) = false, I6 (IntKind.wrap .i64 ((i:Int) + 1)) = I6 ↑(i + 1)] (ac (dF (by omega)) (ao (wj (by omega)))) ?_
 exact hw
theorem W_rb0A {nv nt : Bool} {k0 k1 n i c : Nat} {L : Liz} {T : Lpz} {hout : Lrz} {res : PV} (hn : n ≤ 1000000) (hc : c ≤ 1000) {s : ByteArray} (hi : i < n) (hw : Wt Try.f18 [] hout res (Aa Try.f18 0) (MP nv nt k0 k1 n (i + 1) c L T 1 [(i : Int)])) :
  Wt Try.f18 [] hout res (Aa Try.f18 1) (EC nv nt k0 k1 n i c L T s true c) := by
 unfold EC Bq
 refine W.sgA 0 [(0, aF), (7, aV (I6 ↑(i + 1)))] [(1, 1), (144, 2)] (MP nv nt k0 k1 n (i + 1) c L T 1 [(i : Int)]) [decide ((c:Int) < (c:Int)) = false, 1 ≤ 1, 0 < 1, 8 ≤ 140737488355328, 1 ≤ 9223372036854775807, I6 (IntKind.wrap .i64 ((i:Int) + 1)) = I6 ↑(i + 1)] (ac (dF (by omega)) (ob4 (by omega) (ao (wj (by omega))))) ?_
 exact hw
theorem W_rb1A {nv nt : Bool} {k0 k1 n i c : Nat} {L : Liz} {T : Lpz} {m : Nat} {F : Liz} {hout : Lrz} {res : PV} (hn : n ≤ 1000000) (hc : c ≤ 1000) (hF : F.length = m) (hm : m ≤ 1000000) {s : ByteArray} (hi : i < n) (hw : Wt Try.f18 [] hout res (Aa Try.f18 0) (MP nv nt k0 k1 n (i + 1) c L T (m + 1) (F ++ [(i : Int)]))) :
  Wt Try.f18 [] hout res (Aa Try.f18 1) (Hw nv nt k0 k1 n i c L T m F s true c) := by
 refine W.sgA 0 [(0, aF), (5, Ans.ups [(2, none), (144, some (Row.mk (BI (m + 1) (F ++ [(i:Int)])) false))]), (7, aV (I6 ↑(i + 1)))] [(1, 1), (144, 2)] (MP nv nt k0 k1 n (i + 1) c L T (m + 1) (F ++ [(i : Int)])) [decide ((c:Int) < (c:Int)) = false, ([(2, none), (144, some (Row.mk (BI (m + 1) (List.take m F ++ [(i:Int)])) false))] : List (Nat × Option Row)) = [(2, none), (144, some (Row.mk (BI (m + 1) (F ++ [(i:Int)])) false))], 1 ≤ 1, 0 + m = m, (m + 1) * 8 ≤ 140737488355328, m + 1 ≤ 9223372036854775807, I6 (IntKind.wrap .i64 ((i:Int) + 1)) = I6 ↑(i + 1)] (ac (dF (by omega)) (ac (by rw [List.take_of_length_le (show List.length F ≤ m by omega)]) (ac (by omega) (ac (by omega) (ob2 (by omega) (ao (wj (by omega)))))))) ?_
 exact hw
theorem W_ra1X {nv nt : Bool} {k0 k1 n c : Nat} {L : Liz} {T : Lpz} {m : Nat} {F : Liz} : Wt Try.f18 [] [(1, Oc m F)] (.ref 1 [] 1 0 m) (Aa Try.f18 0) (MP nv nt k0 k1 n n c L T m F ) := by
 refine W.rtA [(0, aF)] [(2, 1)] [decide ((n:Int) < (n:Int)) = false] (ao (dF (by omega)))
theorem W_raIn {nv nt : Bool} {k0 k1 n c : Nat} {L : Liz} {T : Lpz} {hout : Lrz} {res : PV} (hn : n ≤ 1000000) (hw : Wt Try.f18 [] hout res (Aa Try.f18 0) (La nv nt k0 k1 n 0 c L T)) :
  Pt 18 [] [.iarr .u64 2 [(k0 : Int), (k1 : Int)], .vec nv (.iarr .u64 c L), .vec nt (.parr 1 n .str T)] hout res := by
 refine pO Try.func18 (by kernel_rfl) ?_
 unfold La Bq at hw
 refine W.sgA 0 [] [(64, 1)] (La nv nt k0 k1 n 0 c L T) [] trivial ?_
 exact hw
theorem W_gaF {nl nb : Bool} {k0 k1 n m : Nat} {M : Lpz} {q : Liz} (cs : Pt 9 [] [.vec nl (.parr 1 n ish M)] [] (.bool false)) (ca : Pt 10 [] [] [] (.bool true)) : Pt 6 [] [.iarr .u64 2 [(k0 : Int), (k1 : Int)], .vec nb (.iarr .u8 m q), .vec nl (.parr 1 n ish M)] [] (.bool true) := by
 refine pO Try.func6 (by kernel_rfl) ?_
 refine W.rtA [(3, c9 cs), (10, c9 ca)] [] [_, _] (ac (cs) (ao (ca)))
theorem W_gaB {nl nb : Bool} {k0 k1 n m : Nat} {M : Lpz} {q : Liz} (cs : Pt 9 [] [.vec nl (.parr 1 n ish M)] [] (.bool true)) (ca : Pt 10 [] [] [] (.bool true)) (hm : 100 < m) : Pt 6 [] [.iarr .u64 2 [(k0 : Int), (k1 : Int)], .vec nb (.iarr .u8 m q), .vec nl (.parr 1 n ish M)] [] (.bool true) := by
 refine pO Try.func6 (by kernel_rfl) ?_
 refine W.rtA [(3, Ans.call true [] [] (PV.bool true)), (8, Ans.dec true), (10, Ans.call true [] [] (PV.bool true))] [] [Pt (9 : Nat) [] [PV.vec nl (PV.parr (1 : Nat) n (Sh.vec (1 : Nat) (Sh.int .u8)) M)] [] (PV.bool true), decide ((↑m : Int) > (100 : Int)) = true, Pt (10 : Nat) [] [] [] (PV.bool true)] (ac (by exact cs) (ac (by exact decide_eq_true (by omega)) (ao (by exact ca))))
theorem W_gaE {nl nb : Bool} {k0 k1 n m : Nat} {M : Lpz} {q : Liz} {e : Nat} (he : 0 < e) (he2 : e ≤ 100) (hm : m ≤ 100) (hq : q.length = m) (hb : Bytes q) (hn : n ≤ 20) (cs : Pt 9 [] [.vec nl (.parr 1 n ish M)] [] (.bool true)) (ca : Pt 10 [] [] [] (.bool true)) (c1 : Pt 17 [] [.iarr .u64 2 [(k0 : Int), (k1 : Int)], .vec nb (.iarr .u8 m q), .vec nl (.parr 1 n ish M)] [] (.tup [Bq, .int .i64 e])) (c2 : Pt 15 [] [.str (strOf q)] [] (.tup [AV, .int .i64 e])) (c3 : Pt 16 [] [.iarr .u64 2 [(k0 : Int), (k1 : Int)], .vec nb (.iarr .u8 m q), .vec true (.iarr .u8 0 [])] [] (.tup [.bool false, .int .i64 e])) : Pt 6 [] [.iarr .u64 2 [(k0 : Int), (k1 : Int)], .vec nb (.iarr .u8 m q), .vec nl (.parr 1 n ish M)] [] (.bool true) := by
 refine pO Try.func6 (by kernel_rfl) ?_
 unfold Bq at c1
 unfold AV at c2
 refine W.rtA [(3, Ans.call true [] [] (PV.bool true)), (8, Ans.dec false), (13, Ans.call true [] [] (PV.tup [PV.vec true (PV.iarr .i64 (0 : Nat) []), PV.int .i64 (↑e : Int)])), (21, Ans.call true [] [] (PV.tup [PV.vec true (PV.iarr .u64 (0 : Nat) []), PV.int .i64 (↑e : Int)])), (29, Ans.dec false), (31, Ans.dec true), (34, Ans.call true [] [] (PV.tup [PV.bool false, PV.int .i64 (↑e : Int)])), (41, Ans.val (PV.int .i64 (0 : Int))), (50, Ans.dec true), (53, Ans.call true [] [] (PV.bool true))] [] [Pt (9 : Nat) [] [PV.vec nl (PV.parr (1 : Nat) n (Sh.vec (1 : Nat) (Sh.int .u8)) M)] [] (PV.bool true), decide ((↑m : Int) > (100 : Int)) = false, Pt (17 : Nat) [] [PV.iarr .u64 (2 : Nat) [(↑k0 : Int), (↑k1 : Int)], PV.vec nb (PV.iarr .u8 m q), PV.vec nl (PV.parr (1 : Nat) n (Sh.vec (1 : Nat) (Sh.int .u8)) M)] [] (PV.tup [PV.vec true (PV.iarr .i64 (0 : Nat) []), PV.int .i64 (↑e : Int)]), Pt (15 : Nat) [] [PV.str (strOf q)] [] (PV.tup [PV.vec true (PV.iarr .u64 (0 : Nat) []), PV.int .i64 (↑e : Int)]), ((↑e : Int) != (↑e : Int)) = false, ((↑e : Int) != (0 : Int)) = true, Pt (16 : Nat) [] [PV.iarr .u64 (2 : Nat) [(↑k0 : Int), (↑k1 : Int)], PV.vec nb (PV.iarr .u8 m q), PV.vec true (PV.iarr .u8 (0 : Nat) [])] [] (PV.tup [PV.bool false, PV.int .i64 (↑e : Int)]), PV.int .i64 (↑(0 : Nat) : Int) = PV.int .i64 0, ((↑e : Int) == (↑e : Int)) = true, Pt (10 : Nat) [] [] [] (PV.bool true)] (ac (by exact cs) (ac (by exact decide_eq_false (by omega)) (ac (by exact c1) (ac (by exact c2) (ac (by exact bne_eq_false_iff_eq.2 (by omega)) (ac (by exact bne_iff_ne.2 (by omega)) (ac (by exact c3) (ac (by exact congrArg (PV.int _) (by omega)) (ac (by exact decide_eq_true (by omega)) (ao (by exact ca)))))))))))
def Fe (nl nb : Bool) (k0 k1 n m i : Nat) (M : List PV) (q : List Int) : DS := ⟨[(1, .vec nb (.iarr .u8 m q)), (3, .at 1 []), (7, Bq), (13, Bq), (14, .int .i64 0), (78, .vec nl (.parr 1 n ish M)), (79, .int .i64 n), (80, .int .i64 i)], [(1, keyR k0 k1)]⟩
def Je (nl nb : Bool) (k0 k1 n m i : Nat) (M : List PV) (q : List Int) (c k : Nat) (F : List Int) : DS := ⟨[(1, .vec nb (.iarr .u8 m q)), (3, .at 1 []), (7, .ref 2 [] 1 0 c), (13, .ref 3 [] 1 0 c), (14, .int .i64 k), (78, .vec nl (.parr 1 n ish M)), (79, .int .i64 n), (80, .int .i64 i)], [(1, keyR k0 k1), (2, Oc c F), (3, Oc c F)]⟩
theorem W_ga0 {nl nb : Bool} {k0 k1 n m i : Nat} {M : Lpz} {q : Liz} {hout : Lrz} {res : PV} {b : Bool} {ml : Nat} {l : Liz} (hi : i < n) (hn : n ≤ 20) (hg : M.getD i .undef = .vec b (.iarr .u8 ml l)) (c1 : Pt 16 [] [.iarr .u64 2 [(k0 : Int), (k1 : Int)], .vec nb (.iarr .u8 m q), .vec b (.iarr .u8 ml l)] [] (.tup [.bool false, .int .i64 0])) (hw : Wt Try.f6 [] hout res (Aa Try.f6 0) (Fe nl nb k0 k1 n m (i + 1) M q )) :
  Wt Try.f6 [] hout res (Aa Try.f6 0) (Fe nl nb k0 k1 n m i M q ) := by
 unfold Fe Bq at hw ⊢
 refine W.sgA 0 [(0, Ans.dec true), (3, Ans.val (PV.vec b (PV.iarr .u8 ml l))), (8, Ans.val (PV.int .i64 (0 : Int))), (22, Ans.call true [] [] (PV.tup [PV.bool false, PV.int .i64 0])), (45, Ans.val (PV.int .i64 (↑(i + (1 : Nat)) : Int)))] [((1 : Nat), (1 : Nat))] (Fe nl nb k0 k1 n m (i + (1 : Nat)) M q) [decide ((↑i : Int) < (↑n : Int)) = true, (0 : Int) ≤ (↑i : Int), (↑i : Int) < (↑n : Int), PV.vec (PV.nil? (List.getD M i PV.undef)) (PV.iarr .u8 (PV.len (PV.els (List.getD M i PV.undef))) (PV.nums (PV.els (List.getD M i PV.undef)))) = PV.vec b (PV.iarr .u8 ml l), i < n, PV.int .i64 (↑(0 : Nat) : Int) = PV.int .i64 0, Pt (16 : Nat) [] [PV.iarr .u64 (2 : Nat) [(↑k0 : Int), (↑k1 : Int)], PV.vec nb (PV.iarr .u8 m q), PV.vec b (PV.iarr .u8 ml l)] [] (PV.tup [PV.bool false, PV.int .i64 0]), PV.int .i64 (IntKind.wrap .i64 ((↑i : Int) + (1 : Int))) = PV.int .i64 (↑(i + (1 : Nat)) : Int)] (ac (by exact decide_eq_true (by omega)) (ob2 (by omega) (ac (by (rw [hg]; rfl)) (ac (by omega) (ac (by exact congrArg (PV.int _) (by omega)) (ac (by exact c1) (ao (by exact congrArg (PV.int _) (Ab rfl (by omega) (by omega)))))))))) ?_
 exact hw
theorem W_ga1Y {nl nb : Bool} {k0 k1 n m i : Nat} {M : Lpz} {q : Liz} {hout : Lrz} {res : PV} {b : Bool} {ml : Nat} {l : Liz} (hi : i < n) (hn : n ≤ 20) (hg : M.getD i .undef = .vec b (.iarr .u8 ml l)) {c k : Nat} {F : Liz} (hc : c ≤ 1000) (hF : F.length = c) (hk : k < c) (hgF : F.getD k 0 = (i : Int)) (c1 : Pt 16 [] [.iarr .u64 2 [(k0 : Int), (k1 : Int)], .vec nb (.iarr .u8 m q), .vec b (.iarr .u8 ml l)] [] (.tup [.bool true, .int .i64 0])) (hw : Wt Try.f6 [] hout res (Aa Try.f6 0) (Je nl nb k0 k1 n m (i + 1) M q c (k + 1) F)) :
  Wt Try.f6 [] hout res (Aa Try.f6 0) (Je nl nb k0 k1 n m i M q c k F) := by
 refine W.sgA 0 [(0, Ans.dec true), (3, Ans.val (PV.vec b (PV.iarr .u8 ml l))), (9, Ans.dec true), (13, Ans.val (PV.at (3 : Nat) [Stp.idx k (1 : Nat)])), (14, Ans.val (PV.int .i64 (↑i : Int))), (16, Ans.dec true), (22, Ans.call true [] [] (PV.tup [PV.bool true, PV.int .i64 0])), (39, Ans.val (PV.at (2 : Nat) [Stp.idx k (1 : Nat)])), (40, Ans.val (PV.int .i64 (↑i : Int))), (42, Ans.dec false), (46, Ans.val (PV.int .i64 (↑(k + (1 : Nat)) : Int))), (48, Ans.val (PV.int .i64 (↑(i + (1 : Nat)) : Int)))] [((1 : Nat), (1 : Nat)), ((2 : Nat), (2 : Nat)), ((3 : Nat), (3 : Nat))] (Je nl nb k0 k1 n m (i + (1 : Nat)) M q c (k + (1 : Nat)) F) [decide ((↑i : Int) < (↑n : Int)) = true, (0 : Int) ≤ (↑i : Int), (↑i : Int) < (↑n : Int), PV.vec (PV.nil? (List.getD M i PV.undef)) (PV.iarr .u8 (PV.len (PV.els (List.getD M i PV.undef))) (PV.nums (PV.els (List.getD M i PV.undef)))) = PV.vec b (PV.iarr .u8 ml l), i < n, decide ((↑k : Int) < (↑c : Int)) = true, PV.at (3 : Nat) [Stp.idx ((0 : Nat) + k) (1 : Nat)] = PV.at (3 : Nat) [Stp.idx k (1 : Nat)], (0 : Int) ≤ (↑k : Int), (↑k : Int) < (↑c : Int), PV.int .i64 (List.getD F k (0 : Int)) = PV.int .i64 (↑i : Int), k < c, ((↑i : Int) == (↑i : Int)) = true, Pt (16 : Nat) [] [PV.iarr .u64 (2 : Nat) [(↑k0 : Int), (↑k1 : Int)], PV.vec nb (PV.iarr .u8 m q), PV.vec b (PV.iarr .u8 ml l)] [] (PV.tup [PV.bool true, PV.int .i64 0]), PV.at (2 : Nat) [Stp.idx ((0 : Nat) + k) (1 : Nat)] = PV.at (2 : Nat) [Stp.idx k (1 : Nat)], (0 : Int) ≤ (↑k : Int), (↑k : Int) < (↑c : Int), PV.int .i64 (List.getD F k (0 : Int)) = PV.int .i64 (↑i : Int), k < c, ((↑i : Int) != (↑i : Int)) = false, PV.int .i64 (IntKind.wrap .i64 ((↑k : Int) + (1 : Int))) = PV.int .i64 (↑(k + (1 : Nat)) : Int), PV.int .i64 (IntKind.wrap .i64 ((↑i : Int) + (1 : Int))) = PV.int .i64 (↑(i + (1 : Nat)) : Int)] (ac (by exact decide_eq_true (by omega)) (ob2 (by omega) (ac (by (rw [hg]; rfl)) (ac (by omega) (ac (by exact decide_eq_true (by omega)) (ac (by simp only [Nat.zero_add]) (ob2 (by omega) (ac (by exact congrArg (PV.int _) (hgF)) (ac (by omega) (ac (by exact decide_eq_true (by omega)) (ac (by exact c1) (ac (by simp only [Nat.zero_add]) (ob2 (by omega) (ac (by exact congrArg (PV.int _) (hgF)) (ac (by omega) (ac (by exact bne_eq_false_iff_eq.2 (by omega)) (ac (by exact congrArg (PV.int _) (Ab rfl (by omega) (by omega))) (ao (by exact congrArg (PV.int _) (Ab rfl (by omega) (by omega))))))))))))))))))))) ?_
 exact hw
theorem W_ga1N {nl nb : Bool} {k0 k1 n m i : Nat} {M : Lpz} {q : Liz} {hout : Lrz} {res : PV} {b : Bool} {ml : Nat} {l : Liz} (hi : i < n) (hn : n ≤ 20) (hg : M.getD i .undef = .vec b (.iarr .u8 ml l)) {c k x : Nat} {F : Liz} (hc : c ≤ 1000) (hF : F.length = c) (hk : k < c) (hgF : F.getD k 0 = (x : Int)) (hxi : x ≠ i) (c1 : Pt 16 [] [.iarr .u64 2 [(k0 : Int), (k1 : Int)], .vec nb (.iarr .u8 m q), .vec b (.iarr .u8 ml l)] [] (.tup [.bool false, .int .i64 0])) (hw : Wt Try.f6 [] hout res (Aa Try.f6 0) (Je nl nb k0 k1 n m (i + 1) M q c k F)) :
  Wt Try.f6 [] hout res (Aa Try.f6 0) (Je nl nb k0 k1 n m i M q c k F) := by
 refine W.sgA 0 [(0, Ans.dec true), (3, Ans.val (PV.vec b (PV.iarr .u8 ml l))), (9, Ans.dec true), (13, Ans.val (PV.at (3 : Nat) [Stp.idx k (1 : Nat)])), (14, Ans.val (PV.int .i64 (↑x : Int))), (16, Ans.dec false), (22, Ans.call true [] [] (PV.tup [PV.bool false, PV.int .i64 0])), (45, Ans.val (PV.int .i64 (↑(i + (1 : Nat)) : Int)))] [((1 : Nat), (1 : Nat)), ((2 : Nat), (2 : Nat)), ((3 : Nat), (3 : Nat))] (Je nl nb k0 k1 n m (i + (1 : Nat)) M q c k F) [decide ((↑i : Int) < (↑n : Int)) = true, (0 : Int) ≤ (↑i : Int), (↑i : Int) < (↑n : Int), PV.vec (PV.nil? (List.getD M i PV.undef)) (PV.iarr .u8 (PV.len (PV.els (List.getD M i PV.undef))) (PV.nums (PV.els (List.getD M i PV.undef)))) = PV.vec b (PV.iarr .u8 ml l), i < n, decide ((↑k : Int) < (↑c : Int)) = true, PV.at (3 : Nat) [Stp.idx ((0 : Nat) + k) (1 : Nat)] = PV.at (3 : Nat) [Stp.idx k (1 : Nat)], (0 : Int) ≤ (↑k : Int), (↑k : Int) < (↑c : Int), PV.int .i64 (List.getD F k (0 : Int)) = PV.int .i64 (↑x : Int), k < c, ((↑x : Int) == (↑i : Int)) = false, Pt (16 : Nat) [] [PV.iarr .u64 (2 : Nat) [(↑k0 : Int), (↑k1 : Int)], PV.vec nb (PV.iarr .u8 m q), PV.vec b (PV.iarr .u8 ml l)] [] (PV.tup [PV.bool false, PV.int .i64 0]), PV.int .i64 (IntKind.wrap .i64 ((↑i : Int) + (1 : Int))) = PV.int .i64 (↑(i + (1 : Nat)) : Int)] (ac (by exact decide_eq_true (by omega)) (ob2 (by omega) (ac (by (rw [hg]; rfl)) (ac (by omega) (ac (by exact decide_eq_true (by omega)) (ac (by simp only [Nat.zero_add]) (ob2 (by omega) (ac (by exact congrArg (PV.int _) (hgF)) (ac (by omega) (ac (by exact decide_eq_false (by omega)) (ac (by exact c1) (ao (by exact congrArg (PV.int _) (Ab rfl (by omega) (by omega))))))))))))))) ?_
 exact hw
theorem W_ga1E {nl nb : Bool} {k0 k1 n m i : Nat} {M : Lpz} {q : Liz} {hout : Lrz} {res : PV} {b : Bool} {ml : Nat} {l : Liz} (hi : i < n) (hn : n ≤ 20) (hg : M.getD i .undef = .vec b (.iarr .u8 ml l)) {c : Nat} {F : Liz} (hc : c ≤ 1000) (hF : F.length = c) (c1 : Pt 16 [] [.iarr .u64 2 [(k0 : Int), (k1 : Int)], .vec nb (.iarr .u8 m q), .vec b (.iarr .u8 ml l)] [] (.tup [.bool false, .int .i64 0])) (hw : Wt Try.f6 [] hout res (Aa Try.f6 0) (Je nl nb k0 k1 n m (i + 1) M q c c F)) :
  Wt Try.f6 [] hout res (Aa Try.f6 0) (Je nl nb k0 k1 n m i M q c c F) := by
 refine W.sgA 0 [(0, Ans.dec true), (3, Ans.val (PV.vec b (PV.iarr .u8 ml l))), (9, Ans.dec false), (22, Ans.call true [] [] (PV.tup [PV.bool false, PV.int .i64 0])), (45, Ans.val (PV.int .i64 (↑(i + (1 : Nat)) : Int)))] [((1 : Nat), (1 : Nat)), ((2 : Nat), (2 : Nat)), ((3 : Nat), (3 : Nat))] (Je nl nb k0 k1 n m (i + (1 : Nat)) M q c c F) [decide ((↑i : Int) < (↑n : Int)) = true, (0 : Int) ≤ (↑i : Int), (↑i : Int) < (↑n : Int), PV.vec (PV.nil? (List.getD M i PV.undef)) (PV.iarr .u8 (PV.len (PV.els (List.getD M i PV.undef))) (PV.nums (PV.els (List.getD M i PV.undef)))) = PV.vec b (PV.iarr .u8 ml l), i < n, decide ((↑c : Int) < (↑c : Int)) = false, Pt (16 : Nat) [] [PV.iarr .u64 (2 : Nat) [(↑k0 : Int), (↑k1 : Int)], PV.vec nb (PV.iarr .u8 m q), PV.vec b (PV.iarr .u8 ml l)] [] (PV.tup [PV.bool false, PV.int .i64 0]), PV.int .i64 (IntKind.wrap .i64 ((↑i : Int) + (1 : Int))) = PV.int .i64 (↑(i + (1 : Nat)) : Int)] (ac (by exact decide_eq_true (by omega)) (ob2 (by omega) (ac (by (rw [hg]; rfl)) (ac (by omega) (ac (by exact decide_eq_false (by omega)) (ac (by exact c1) (ao (by exact congrArg (PV.int _) (Ab rfl (by omega) (by omega)))))))))) ?_
 exact hw
theorem W_ga0X {nl nb : Bool} {k0 k1 n m : Nat} {M : Lpz} {q : Liz} (ca : Pt 10 [] [] [] (.bool true)) : Wt Try.f6 [] [] (.bool true) (Aa Try.f6 0) (Fe nl nb k0 k1 n m n M q) := by
 unfold Fe Bq
 refine W.rtA [(0, aF), (1, c9 ca)] [] [decide ((n:Int) < (n:Int)) = false, _] (ac (dF (by omega)) (ao (ca)))
theorem W_ga1X {nl nb : Bool} {k0 k1 n m : Nat} {M : Lpz} {q : Liz} {c k : Nat} {F : Liz} (ca : Pt 10 [] [] [] (.bool true)) : Wt Try.f6 [] [] (.bool true) (Aa Try.f6 0) (Je nl nb k0 k1 n m n M q c k F) := by
 refine W.rtA [(0, aF), (1, c9 ca)] [] [decide ((n:Int) < (n:Int)) = false, _] (ac (dF (by omega)) (ao (ca)))
theorem W_gaVT0 {nl nb : Bool} {k0 k1 n m : Nat} {M : Lpz} {q : Liz} {hout : Lrz} {res : PV} (hm : m ≤ 100) (hq : q.length = m) (hb : Bytes q) (hn : n ≤ 20) (cs : Pt 9 [] [.vec nl (.parr 1 n ish M)] [] (.bool true)) (c1 : Pt 17 [] [.iarr .u64 2 [(k0 : Int), (k1 : Int)], .vec nb (.iarr .u8 m q), .vec nl (.parr 1 n ish M)] [] (.tup [Bq, .int .i64 0])) (c2 : Pt 15 [] [.str (strOf q)] [] (.tup [AV, .int .i64 0])) (c3 : Pt 13 [] [.vec nl (.parr 1 n ish M)] [] (.vec true (.parr 1 0 .str []))) (c4 : Pt 18 [] [.iarr .u64 2 [(k0 : Int), (k1 : Int)], .vec true (.iarr .u64 0 []), .vec true (.parr 1 0 .str [])] [] (Bq)) (hw : Wt Try.f6 [] hout res (Aa Try.f6 0) (Fe nl nb k0 k1 n m 0 M q)) : Pt 6 [] [.iarr .u64 2 [(k0 : Int), (k1 : Int)], .vec nb (.iarr .u8 m q), .vec nl (.parr 1 n ish M)] hout res := by
 refine pO Try.func6 (by kernel_rfl) ?_
 unfold Bq at c1 c4
 unfold Fe Bq at hw
 unfold AV at c2
 refine W.sgA 0 [(3, c9 cs), (8, aF), (13, c9 c1), (21, c9 c2), (35, c9 c3), (36, c9 c4), (39, aV (I6 0)), (41, aV (I6 0))] [(64, 1)] (Fe nl nb k0 k1 n m 0 M q) [_, decide ((m:Int) > 100) = false, _, _, _, _, I6 ↑(0 : Nat) = I6 0, I6 ↑(0 : Nat) = I6 0] (ac (cs) (ac (dF (by omega)) (ac (c1) (ac (c2) (ac (c3) (ac (c4) (ac (cg (by omega)) (ao (cg (by omega)))))))))) ?_
 exact hw
theorem W_gaV0 {nl nb : Bool} {k0 k1 n m : Nat} {M : Lpz} {q : Liz} {hout : Lrz} {res : PV} (hm : m ≤ 100) (hq : q.length = m) (hb : Bytes q) (hn : n ≤ 20) (cs : Pt 9 [] [.vec nl (.parr 1 n ish M)] [] (.bool true)) (c1 : Pt 17 [] [.iarr .u64 2 [(k0 : Int), (k1 : Int)], .vec nb (.iarr .u8 m q), .vec nl (.parr 1 n ish M)] [] (.tup [Bq, .int .i64 0])) (c2 : Pt 15 [] [.str (strOf q)] [] (.tup [AV, .int .i64 0])) {T : Lpz} (hT : T.length = n) (c3 : Pt 13 [] [.vec nl (.parr 1 n ish M)] [(1, rowS n T)] (.ref 1 [] 1 0 n)) (c4 : Pt 18 [] [.iarr .u64 2 [(k0 : Int), (k1 : Int)], .vec true (.iarr .u64 0 []), .vec false (.parr 1 n .str T)] [] (Bq)) (hw : Wt Try.f6 [] hout res (Aa Try.f6 0) (Fe nl nb k0 k1 n m 0 M q)) : Pt 6 [] [.iarr .u64 2 [(k0 : Int), (k1 : Int)], .vec nb (.iarr .u8 m q), .vec nl (.parr 1 n ish M)] hout res := by
 refine pO Try.func6 (by kernel_rfl) ?_
 unfold Bq at c1 c4
 unfold Fe Bq at hw
 unfold AV at c2
 have h1 : T.take n = T := List.take_of_length_le (by omega)
 refine W.sgA 0 [(3, c9 cs), (8, aF), (13, c9 c1), (21, c9 c2), (35, c9 c3), (36, cL true [] c4), (39, aV (I6 0)), (41, aV (I6 0))] [(64, 1)] (Fe nl nb k0 k1 n m 0 M q) [_, decide ((m:Int) > 100) = false, _, _, _, 0 + n ≤ n, rr ([] : List (Nat × Row)), ([B6 2 [(k0:Int), (k1:Int)], PV.vec true (B6 0 []), PV.vec false (PV.parr 1 n Sh.str (List.take n T))] : List PV) = [B6 2 [(k0:Int), (k1:Int)], PV.vec true (B6 0 []), PV.vec false (PV.parr 1 n Sh.str T)], _, I6 ↑(0 : Nat) = I6 0, I6 ↑(0 : Nat) = I6 0] (ac (cs) (ac (dF (by omega)) (ac (c1) (ac (c2) (ac (c3) (ac (by omega) (ac rfl (ac (by rw [List.take_of_length_le (show List.length T ≤ n by omega)]) (ac (c4) (ac (cg (by omega)) (ao (cg (by omega))))))))))))) ?_
 exact hw
theorem W_gaT0 {nl nb : Bool} {k0 k1 n m : Nat} {M : Lpz} {q : Liz} {hout : Lrz} {res : PV} (hm : m ≤ 100) (hq : q.length = m) (hb : Bytes q) (hn : n ≤ 20) (cs : Pt 9 [] [.vec nl (.parr 1 n ish M)] [] (.bool true)) (c1 : Pt 17 [] [.iarr .u64 2 [(k0 : Int), (k1 : Int)], .vec nb (.iarr .u8 m q), .vec nl (.parr 1 n ish M)] [] (.tup [Bq, .int .i64 0])) {c : Nat} {L : Liz} (hL : L.length = c) (hc : c ≤ 1000) (c2 : Pt 15 [] [.str (strOf q)] [(1, Ac c L)] (.tup [.ref 1 [] 1 0 c, .int .i64 0])) (c3 : Pt 13 [] [.vec nl (.parr 1 n ish M)] [] (.vec true (.parr 1 0 .str []))) (c4 : Pt 18 [] [.iarr .u64 2 [(k0 : Int), (k1 : Int)], .vec false (.iarr .u64 c L), .vec true (.parr 1 0 .str [])] [] (Bq)) (hw : Wt Try.f6 [] hout res (Aa Try.f6 0) (Fe nl nb k0 k1 n m 0 M q)) : Pt 6 [] [.iarr .u64 2 [(k0 : Int), (k1 : Int)], .vec nb (.iarr .u8 m q), .vec nl (.parr 1 n ish M)] hout res := by
 refine pO Try.func6 (by kernel_rfl) ?_
 unfold Bq at c1 c4
 unfold Fe Bq at hw
 have h2 : L.take c = L := List.take_of_length_le (by omega)
 refine W.sgA 0 [(3, c9 cs), (8, aF), (13, c9 c1), (21, c9 c2), (35, c9 c3), (36, cL true [] c4), (39, aV (I6 0)), (41, aV (I6 0))] [(64, 1)] (Fe nl nb k0 k1 n m 0 M q) [_, decide ((m:Int) > 100) = false, _, _, _, 0 + c ≤ c, rr ([] : List (Nat × Row)), ([B6 2 [(k0:Int), (k1:Int)], PV.vec false (B6 c (List.take c L)), PV.vec true (PV.parr 1 0 Sh.str [])] : List PV) = [B6 2 [(k0:Int), (k1:Int)], PV.vec false (B6 c L), PV.vec true (PV.parr 1 0 Sh.str [])], _, I6 ↑(0 : Nat) = I6 0, I6 ↑(0 : Nat) = I6 0] (ac (cs) (ac (dF (by omega)) (ac (c1) (ac (c2) (ac (c3) (ac (by omega) (ac rfl (ac (by rw [List.take_of_length_le (show List.length L ≤ c by omega)]) (ac (c4) (ac (cg (by omega)) (ao (cg (by omega))))))))))))) ?_
 exact hw
theorem W_gaI0 {nl nb : Bool} {k0 k1 n m : Nat} {M : Lpz} {q : Liz} {hout : Lrz} {res : PV} (hm : m ≤ 100) (hq : q.length = m) (hb : Bytes q) (hn : n ≤ 20) (cs : Pt 9 [] [.vec nl (.parr 1 n ish M)] [] (.bool true)) (c1 : Pt 17 [] [.iarr .u64 2 [(k0 : Int), (k1 : Int)], .vec nb (.iarr .u8 m q), .vec nl (.parr 1 n ish M)] [] (.tup [Bq, .int .i64 0])) {c : Nat} {L : Liz} (hL : L.length = c) (hc : c ≤ 1000) (c2 : Pt 15 [] [.str (strOf q)] [(1, Ac c L)] (.tup [.ref 1 [] 1 0 c, .int .i64 0])) {T : Lpz} (hT : T.length = n) (c3 : Pt 13 [] [.vec nl (.parr 1 n ish M)] [(1, rowS n T)] (.ref 1 [] 1 0 n)) (c4 : Pt 18 [] [.iarr .u64 2 [(k0 : Int), (k1 : Int)], .vec false (.iarr .u64 c L), .vec false (.parr 1 n .str T)] [] (Bq)) (hw : Wt Try.f6 [] hout res (Aa Try.f6 0) (Fe nl nb k0 k1 n m 0 M q)) : Pt 6 [] [.iarr .u64 2 [(k0 : Int), (k1 : Int)], .vec nb (.iarr .u8 m q), .vec nl (.parr 1 n ish M)] hout res := by
 refine pO Try.func6 (by kernel_rfl) ?_
 unfold Bq at c1 c4
 unfold Fe Bq at hw
 have h1 : T.take n = T := List.take_of_length_le (by omega)
 have h2 : L.take c = L := List.take_of_length_le (by omega)
 refine W.sgA 0 [(3, c9 cs), (8, aF), (13, c9 c1), (21, c9 c2), (35, c9 c3), (36, cL true [] c4), (39, aV (I6 0)), (41, aV (I6 0))] [(64, 1)] (Fe nl nb k0 k1 n m 0 M q) [_, decide ((m:Int) > 100) = false, _, _, _, 0 + c ≤ c, 0 + n ≤ n, rr ([] : List (Nat × Row)), ([B6 2 [(k0:Int), (k1:Int)], PV.vec false (B6 c (List.take c L)), PV.vec false (PV.parr 1 n Sh.str (List.take n T))] : List PV) = [B6 2 [(k0:Int), (k1:Int)], PV.vec false (B6 c L), PV.vec false (PV.parr 1 n Sh.str T)], _, I6 ↑(0 : Nat) = I6 0, I6 ↑(0 : Nat) = I6 0] (ac (cs) (ac (dF (by omega)) (ac (c1) (ac (c2) (ac (c3) (ob2 (by omega) (ac rfl (ac (by rw [List.take_of_length_le (show List.length L ≤ c by omega), List.take_of_length_le (show List.length T ≤ n by omega)]) (ac (c4) (ac (cg (by omega)) (ao (cg (by omega))))))))))))) ?_
 exact hw
theorem W_gaI1 {nl nb : Bool} {k0 k1 n m : Nat} {M : Lpz} {q : Liz} {hout : Lrz} {res : PV} (hm : m ≤ 100) (hq : q.length = m) (hb : Bytes q) (hn : n ≤ 20) (cs : Pt 9 [] [.vec nl (.parr 1 n ish M)] [] (.bool true)) {f : Nat} {F : Liz} (hF : F.length = f) (hf : f ≤ 1000) (c1 : Pt 17 [] [.iarr .u64 2 [(k0 : Int), (k1 : Int)], .vec nb (.iarr .u8 m q), .vec nl (.parr 1 n ish M)] [(1, Oc f F)] (.tup [.ref 1 [] 1 0 f, .int .i64 0])) {c : Nat} {L : Liz} (hL : L.length = c) (hc : c ≤ 1000) (c2 : Pt 15 [] [.str (strOf q)] [(1, Ac c L)] (.tup [.ref 1 [] 1 0 c, .int .i64 0])) {T : Lpz} (hT : T.length = n) (c3 : Pt 13 [] [.vec nl (.parr 1 n ish M)] [(1, rowS n T)] (.ref 1 [] 1 0 n)) (c4 : Pt 18 [] [.iarr .u64 2 [(k0 : Int), (k1 : Int)], .vec false (.iarr .u64 c L), .vec false (.parr 1 n .str T)] [(1, Oc f F)] (.ref 1 [] 1 0 f)) (hw : Wt Try.f6 [] hout res (Aa Try.f6 0) (Je nl nb k0 k1 n m 0 M q f 0 F)) : Pt 6 [] [.iarr .u64 2 [(k0 : Int), (k1 : Int)], .vec nb (.iarr .u8 m q), .vec nl (.parr 1 n ish M)] hout res := by
 refine pO Try.func6 (by kernel_rfl) ?_
 have h1 : T.take n = T := List.take_of_length_le (by omega)
 have h2 : L.take c = L := List.take_of_length_le (by omega)
 refine W.sgA 0 [(3, c9 cs), (8, aF), (13, c9 c1), (21, c9 c2), (35, c9 c3), (36, cL true [] c4), (42, aF)] [(64, 1), (273, 2), (641, 3)] (Je nl nb k0 k1 n m 0 M q f 0 F) [_, decide ((m:Int) > 100) = false, _, _, _, 0 + c ≤ c, 0 + n ≤ n, rr ([] : List (Nat × Row)), ([B6 2 [(k0:Int), (k1:Int)], PV.vec false (B6 c (List.take c L)), PV.vec false (PV.parr 1 n Sh.str (List.take n T))] : List PV) = [B6 2 [(k0:Int), (k1:Int)], PV.vec false (B6 c L), PV.vec false (PV.parr 1 n Sh.str T)], _, ((f:Int) != (f:Int)) = false] (ac (cs) (ac (dF (by omega)) (ac (c1) (ac (c2) (ac (c3) (ob2 (by omega) (ac rfl (ac (by rw [List.take_of_length_le (show List.length L ≤ c by omega), List.take_of_length_le (show List.length T ≤ n by omega)]) (ac (c4) (ao (bne_eq_false_iff_eq.2 (by omega)))))))))))) ?_
 exact hw
end Go.Proofs
namespace Go.Proofs
open Go Go.Pe Go.Pm
set_option maxRecDepth 100000
set_option linter.unusedVariables false
set_option maxHeartbeats 8000000 in
theorem UX {N m : Nat} {bs : Liz} {r : Rd} (hr : r.In bs N) (hN : N ≤ 1000000) (hm : m < 18446744073709551616) (h0 : r.e = 0) (hs : 0 < r.s.length) (hw : at0 r.s 0 ≠ 253 ∧ at0 r.s 0 ≠ 254 ∧ at0 r.s 0 ≠ 255) : Pt 38 [] [Dc r, .int .u64 m] [] (Em r m) := by
 refine pO Try.func38 (by kernel_rfl) ?_
 have hle := hr.le
 have hx := Fg hr.bytes 0
 have hb0 := Qq hr.bytes hs
 have w0 : wdt (at0 r.s 0) = 0 := by unfold wdt; rw [if_neg hw.1, if_neg hw.2.1, if_neg hw.2.2]
 have hsz : (strOf r.s).size = r.s.length := Ag _
 have hsb : (strOf r.s).size ≤ 1000000 := by omega
 obtain ⟨n1, n2, n3⟩ := hw
 have b1 : ¬ ((at0 r.s 0 : Int) = 253) := by omega
 have b2 : ¬ ((at0 r.s 0 : Int) = 254) := by omega
 have b3 : ¬ ((at0 r.s 0 : Int) = 255) := by omega
 unfold Em
 by_cases hsh : r.s.length < 1 + 0
 ·have hve : r.ve m = 2 := by unfold Rd.ve; rw [if_pos h0, w0, if_pos hsh]
  obtain ⟨q1, q2⟩ := Rd.Bc hve (by omega)
  rw [q1, q2]
  unfold Dc
  rw [h0]
  rw [← hsz] at hsh
  dsimp only
  clear q1 q2 hve
  generalize at0 r.s 0 = x at *
  generalize strOf r.s = s at *
  refine W.rtA [(4, aV (I6 0)), (10, aT), (13, aV (U8 x)), (14, aT), (21, aV (I6 3)), (22, aT)] [] [I6 ↑(0 : Nat) = I6 0, decide ((↑(ByteArray.size s) : Int) > 0) = true, U8 (AC s (0 : Int)) = U8 x, (0 : Int) ≤ 0, 0 < (↑(ByteArray.size s) : Int), ((x:Int) == 253) = true, I6 (IntKind.wrap .i64 ((1 : Int) + (2 : Int))) = I6 3, decide ((↑(ByteArray.size s) : Int) < 3) = true] (ac (cg (by omega)) (ac (dT (by omega)) (ac (cg (hb0)) (ob2 (by omega) (ac (dT (by omega)) (ac (wj (by omega)) (ao (dT (by omega)))))))))
 ·have hl : 1 + wdt (at0 r.s 0) ≤ r.s.length := by rw [w0]; omega
  have hcan := JX hr.bytes hl
  have hvl := E8 hr.bytes
  have cv := Nb hvl
  have hve : r.ve m = if Aw r.s < lst (at0 r.s 0) then 3 else if m < Aw r.s then 4 else 0 := by unfold Rd.ve; rw [if_pos h0, w0, if_neg hsh]
  have hmid : (strOf r.s).extract 0 1 = strOf (r.s.take 1) := C9 r.s 1
  have htk : (strOf r.s).extract 0 1 = strOf (r.s.take (1 + 0)) := C9 r.s (1 + 0)
  have hdr : (strOf r.s).extract 1 (strOf r.s).size = strOf (r.s.drop (1 + 0)) := CY r.s (1 + 0)
  have hval : lv (bytesOf (strOf (r.s.take 1))) (strOf (r.s.take 1)).size = Aw r.s := by
   rw [Bb (hr.bytes.take 1), Ag, List.length_take, Nat.min_eq_left (by omega)]
   unfold Aw
   rw [if_pos w0, CS (Nat.le_refl _), FM]
  have cval := D6 (s := strOf (r.s.take 1)) (nl := false) (by rw [Ag, List.length_take]; omega)
  rw [hval] at cval
  have hbl := bytesOf_length (strOf (r.s.take 1))
  have hms : (strOf (r.s.take 1)).size ≤ 8 := by rw [Ag, List.length_take]; omega
  rw [w0] at hcan
  rw [← hsz] at hsh
  rw [← hmid] at cval hbl hms
  have hbs := Bu ((strOf r.s).extract 0 1)
  by_cases hlt : Aw r.s < lst (at0 r.s 0)
  ·rw [if_pos hlt] at hve
   obtain ⟨q1, q2⟩ := Rd.Bc hve (by omega)
   have hneS : ¬ strOf (vb (Aw r.s)) = strOf (r.s.take (1 + 0)) := fun h => (hcan.1 (ET (Ih _) (hr.bytes.take _) h)) hlt
   rw [← htk] at hneS
   have hneS := Nh hneS
   rw [q1, q2]
   unfold Dc
   rw [h0]
   dsimp only
   clear q1 q2 hve hcan hlt hval htk hmid
   generalize strOf (vb (Aw r.s)) = sv at *
   generalize Aw r.s = v at *
   generalize at0 r.s 0 = x at *
   generalize strOf r.s = s at *
   refine W.rtA [(4, aV (I6 0)), (10, aT), (13, aV (U8 x)), (14, aF), (16, aF), (18, aF), (24, aV (I6 1)), (25, aF), (29, aV (I6 1)), (40, cL true [] cval), (43, c9 cv), (47, aV (I6 1)), (49, aT)] [] [I6 ↑(0 : Nat) = I6 0, decide ((↑(ByteArray.size s) : Int) > 0) = true, U8 (AC s (0 : Int)) = U8 x, (0 : Int) ≤ 0, 0 < (↑(ByteArray.size s) : Int), ((x:Int) == 253) = false, ((x:Int) == 254) = false, ((x:Int) == 255) = false, I6 (IntKind.wrap .i64 ((1 : Int) + (0 : Int))) = I6 1, decide ((↑(ByteArray.size s) : Int) < 1) = false, I6 (IntKind.wrap .i64 ((1 : Int) + (0 : Int))) = I6 1, (0 : Int) ≤ 1, (1 : Int) ≤ 1, 1 ≤ (↑(ByteArray.size s) : Int), (0 : Int) ≤ 0, (0 : Int) ≤ 1, 1 ≤ (↑(ByteArray.size s) : Int), 0 + ByteArray.size (ByteArray.extract s 0 1) ≤ ByteArray.size (ByteArray.extract s 0 1), rr ([] : List (Nat × Row)), ([PV.vec false (B8 (ByteArray.size (ByteArray.extract s 0 1)) (List.take (ByteArray.size (ByteArray.extract s 0 1)) (bytesOf (ByteArray.extract s 0 1))))] : List PV) = [PV.vec false (B8 (ByteArray.size (ByteArray.extract s 0 1)) (bytesOf (ByteArray.extract s 0 1)))], _, _, I6 (IntKind.wrap .i64 ((1 : Int) + (0 : Int))) = I6 1, (0 : Int) ≤ 0, (0 : Int) ≤ 1, 1 ≤ (↑(ByteArray.size s) : Int), (!ByteArray.toList sv == ByteArray.toList (ByteArray.extract s 0 1)) = true] (ac (cg (by omega)) (ac (dT (by omega)) (ac (cg (hb0)) (ob2 (by omega) (ac (dF (by omega)) (ac (dF (by omega)) (ac (dF (by omega)) (ac (wj (by omega)) (ac (dF (by omega)) (ac (wj (by omega)) (ob4 (by omega) (ob3 (by omega) (ac rfl (ac (by rw [List.take_of_length_le (show List.length (bytesOf (ByteArray.extract s 0 1)) ≤ ByteArray.size (ByteArray.extract s 0 1) by omega)]) (ac (cval) (ac (cv) (ac (wj (by omega)) (ob3 (by omega) (ao (by assumption))))))))))))))))))))
  ·rw [if_neg hlt] at hve
   have heS : strOf (vb (Aw r.s)) = strOf (r.s.take (1 + 0)) := by rw [hcan.2 hlt]
   rw [← htk] at heS
   have heS := Nj heS
   by_cases hgt : m < Aw r.s
   ·rw [if_pos hgt] at hve
    obtain ⟨q1, q2⟩ := Rd.Bc hve (by omega)
    rw [q1, q2]
    unfold Dc
    rw [h0]
    dsimp only
    clear q1 q2 hve hcan hlt hval htk hmid
    generalize strOf (vb (Aw r.s)) = sv at *
    generalize Aw r.s = v at *
    generalize at0 r.s 0 = x at *
    generalize strOf r.s = s at *
    refine W.rtA [(4, aV (I6 0)), (10, aT), (13, aV (U8 x)), (14, aF), (16, aF), (18, aF), (24, aV (I6 1)), (25, aF), (29, aV (I6 1)), (40, cL true [] cval), (43, c9 cv), (47, aV (I6 1)), (49, aF), (52, aT)] [] [I6 ↑(0 : Nat) = I6 0, decide ((↑(ByteArray.size s) : Int) > 0) = true, U8 (AC s (0 : Int)) = U8 x, (0 : Int) ≤ 0, 0 < (↑(ByteArray.size s) : Int), ((x:Int) == 253) = false, ((x:Int) == 254) = false, ((x:Int) == 255) = false, I6 (IntKind.wrap .i64 ((1 : Int) + (0 : Int))) = I6 1, decide ((↑(ByteArray.size s) : Int) < 1) = false, I6 (IntKind.wrap .i64 ((1 : Int) + (0 : Int))) = I6 1, (0 : Int) ≤ 1, (1 : Int) ≤ 1, 1 ≤ (↑(ByteArray.size s) : Int), (0 : Int) ≤ 0, (0 : Int) ≤ 1, 1 ≤ (↑(ByteArray.size s) : Int), 0 + ByteArray.size (ByteArray.extract s 0 1) ≤ ByteArray.size (ByteArray.extract s 0 1), rr ([] : List (Nat × Row)), ([PV.vec false (B8 (ByteArray.size (ByteArray.extract s 0 1)) (List.take (ByteArray.size (ByteArray.extract s 0 1)) (bytesOf (ByteArray.extract s 0 1))))] : List PV) = [PV.vec false (B8 (ByteArray.size (ByteArray.extract s 0 1)) (bytesOf (ByteArray.extract s 0 1)))], _, _, I6 (IntKind.wrap .i64 ((1 : Int) + (0 : Int))) = I6 1, (0 : Int) ≤ 0, (0 : Int) ≤ 1, 1 ≤ (↑(ByteArray.size s) : Int), (!ByteArray.toList sv == ByteArray.toList (ByteArray.extract s 0 1)) = false, decide ((v:Int) > (m:Int)) = true] (ac (cg (by omega)) (ac (dT (by omega)) (ac (cg (hb0)) (ob2 (by omega) (ac (dF (by omega)) (ac (dF (by omega)) (ac (dF (by omega)) (ac (wj (by omega)) (ac (dF (by omega)) (ac (wj (by omega)) (ob4 (by omega) (ob3 (by omega) (ac rfl (ac (by rw [List.take_of_length_le (show List.length (bytesOf (ByteArray.extract s 0 1)) ≤ ByteArray.size (ByteArray.extract s 0 1) by omega)]) (ac (cval) (ac (cv) (ac (wj (by omega)) (ob3 (by omega) (ac (by assumption) (ao (dT (by omega))))))))))))))))))))))
   ·rw [if_neg hgt] at hve
    obtain ⟨q1, q2⟩ := Rd.Ga hve
    rw [w0] at q1
    rw [q1, q2]
    unfold Dc
    rw [h0]
    dsimp only
    rw [← hdr]
    clear hdr
    clear q1 q2 hve hcan hlt hval htk hmid
    generalize strOf (vb (Aw r.s)) = sv at *
    generalize Aw r.s = v at *
    generalize at0 r.s 0 = x at *
    generalize strOf r.s = s at *
    refine W.rtA [(4, aV (I6 0)), (10, aT), (13, aV (U8 x)), (14, aF), (16, aF), (18, aF), (24, aV (I6 1)), (25, aF), (29, aV (I6 1)), (40, cL true [] cval), (43, c9 cv), (47, aV (I6 1)), (49, aF), (52, aF), (56, aV (I6 1)), (57, aV (PV.str (ByteArray.extract s 1 (ByteArray.size s))))] [] [I6 ↑(0 : Nat) = I6 0, decide ((↑(ByteArray.size s) : Int) > 0) = true, U8 (AC s (0 : Int)) = U8 x, (0 : Int) ≤ 0, 0 < (↑(ByteArray.size s) : Int), ((x:Int) == 253) = false, ((x:Int) == 254) = false, ((x:Int) == 255) = false, I6 (IntKind.wrap .i64 ((1 : Int) + (0 : Int))) = I6 1, decide ((↑(ByteArray.size s) : Int) < 1) = false, I6 (IntKind.wrap .i64 ((1 : Int) + (0 : Int))) = I6 1, (0 : Int) ≤ 1, (1 : Int) ≤ 1, 1 ≤ (↑(ByteArray.size s) : Int), (0 : Int) ≤ 0, (0 : Int) ≤ 1, 1 ≤ (↑(ByteArray.size s) : Int), 0 + ByteArray.size (ByteArray.extract s 0 1) ≤ ByteArray.size (ByteArray.extract s 0 1), rr ([] : List (Nat × Row)), ([PV.vec false (B8 (ByteArray.size (ByteArray.extract s 0 1)) (List.take (ByteArray.size (ByteArray.extract s 0 1)) (bytesOf (ByteArray.extract s 0 1))))] : List PV) = [PV.vec false (B8 (ByteArray.size (ByteArray.extract s 0 1)) (bytesOf (ByteArray.extract s 0 1)))], _, _, I6 (IntKind.wrap .i64 ((1 : Int) + (0 : Int))) = I6 1, (0 : Int) ≤ 0, (0 : Int) ≤ 1, 1 ≤ (↑(ByteArray.size s) : Int), (!ByteArray.toList sv == ByteArray.toList (ByteArray.extract s 0 1)) = false, decide ((v:Int) > (m:Int)) = false, I6 (IntKind.wrap .i64 ((1 : Int) + (0 : Int))) = I6 1, PV.str (ByteArray.extract s 1 (Int.toNat (↑(ByteArray.size s) : Int))) = PV.str (ByteArray.extract s 1 (ByteArray.size s)), (0 : Int) ≤ 1, 1 ≤ (↑(ByteArray.size s) : Int), (↑(ByteArray.size s) : Int) ≤ (↑(ByteArray.size s) : Int)] (ac (cg (by omega)) (ac (dT (by omega)) (ac (cg (hb0)) (ob2 (by omega) (ac (dF (by omega)) (ac (dF (by omega)) (ac (dF (by omega)) (ac (wj (by omega)) (ac (dF (by omega)) (ac (wj (by omega)) (ob4 (by omega) (ob3 (by omega) (ac rfl (ac (by rw [List.take_of_length_le (show List.length (bytesOf (ByteArray.extract s 0 1)) ≤ ByteArray.size (ByteArray.extract s 0 1) by omega)]) (ac (cval) (ac (cv) (ac (wj (by omega)) (ob3 (by omega) (ac (by assumption) (ac (dF (by omega)) (ac (wj (by omega)) (ac (by rw [show Int.toNat (↑(ByteArray.size s) : Int) = ByteArray.size s by omega]) (ob2 (by omega) (ao (by omega)))))))))))))))))))))))))
end Go.Proofs
namespace Go.Proofs
open Go Go.Pe Go.Pm
set_option maxRecDepth 100000
set_option linter.unusedVariables false
set_option maxHeartbeats 8000000 in
theorem SA {N m : Nat} {bs : Liz} {r : Rd} (hr : r.In bs N) (hN : N ≤ 1000000) (hm : m < 18446744073709551616) (h0 : r.e = 0) (hs : 0 < r.s.length) (hw : at0 r.s 0 = 253) : Pt 38 [] [Dc r, .int .u64 m] [] (Em r m) := by
 refine pO Try.func38 (by kernel_rfl) ?_
 have hle := hr.le
 have hx := Fg hr.bytes 0
 have hb0 := Qq hr.bytes hs
 have w0 : wdt (at0 r.s 0) = 2 := by rw [hw]; rfl
 have hsz : (strOf r.s).size = r.s.length := Ag _
 have hsb : (strOf r.s).size ≤ 1000000 := by omega
 unfold Em
 by_cases hsh : r.s.length < 1 + 2
 ·have hve : r.ve m = 2 := by unfold Rd.ve; rw [if_pos h0, w0, if_pos hsh]
  obtain ⟨q1, q2⟩ := Rd.Bc hve (by omega)
  rw [q1, q2]
  unfold Dc
  rw [h0]
  rw [← hsz] at hsh
  dsimp only
  clear q1 q2 hve
  generalize at0 r.s 0 = x at *
  generalize strOf r.s = s at *
  subst hw
  refine W.rtA [(4, aV (I6 0)), (10, aT), (13, aV (U8 ↑(253 : Nat))), (21, aV (I6 3)), (22, aT)] [] [I6 ↑(0 : Nat) = I6 0, decide ((↑(ByteArray.size s) : Int) > 0) = true, U8 (AC s (0 : Int)) = U8 ↑(253 : Nat), (0 : Int) ≤ 0, 0 < (↑(ByteArray.size s) : Int), I6 (IntKind.wrap .i64 ((1 : Int) + (2 : Int))) = I6 3, decide ((↑(ByteArray.size s) : Int) < 3) = true] (ac (cg (by omega)) (ac (dT (by omega)) (ac (cg (hb0)) (ob2 (by omega) (ac (wj (by omega)) (ao (dT (by omega))))))))
 ·have hl : 1 + wdt (at0 r.s 0) ≤ r.s.length := by rw [w0]; omega
  have hcan := JX hr.bytes hl
  have hvl := E8 hr.bytes
  have cv := Nb hvl
  have hve : r.ve m = if Aw r.s < lst (at0 r.s 0) then 3 else if m < Aw r.s then 4 else 0 := by unfold Rd.ve; rw [if_pos h0, w0, if_neg hsh]
  have hmid : (strOf r.s).extract 1 3 = strOf ((r.s.drop 1).take 2) := IM r.s 2
  have htk : (strOf r.s).extract 0 3 = strOf (r.s.take (1 + 2)) := C9 r.s (1 + 2)
  have hdr : (strOf r.s).extract 3 (strOf r.s).size = strOf (r.s.drop (1 + 2)) := CY r.s (1 + 2)
  have hval : lv (bytesOf (strOf ((r.s.drop 1).take 2))) (strOf ((r.s.drop 1).take 2)).size = Aw r.s := by
   rw [Bb ((hr.bytes.drop 1).take 2), Ag, List.length_take, List.length_drop, Nat.min_eq_left (by omega)]
   unfold Aw
   rw [w0, if_neg (by omega), CS (Nat.le_refl _)]
  have cval := D6 (s := strOf ((r.s.drop 1).take 2)) (nl := false) (by rw [Ag, List.length_take]; omega)
  rw [hval] at cval
  have hbl := bytesOf_length (strOf ((r.s.drop 1).take 2))
  have hms : (strOf ((r.s.drop 1).take 2)).size ≤ 8 := by rw [Ag, List.length_take]; omega
  rw [w0] at hcan
  rw [← hsz] at hsh
  rw [← hmid] at cval hbl hms
  have hbs := Bu ((strOf r.s).extract 1 3)
  by_cases hlt : Aw r.s < lst (at0 r.s 0)
  ·rw [if_pos hlt] at hve
   obtain ⟨q1, q2⟩ := Rd.Bc hve (by omega)
   have hneS : ¬ strOf (vb (Aw r.s)) = strOf (r.s.take (1 + 2)) := fun h => (hcan.1 (ET (Ih _) (hr.bytes.take _) h)) hlt
   rw [← htk] at hneS
   have hneS := Nh hneS
   rw [q1, q2]
   unfold Dc
   rw [h0]
   dsimp only
   clear q1 q2 hve hcan hlt hval htk hmid
   generalize strOf (vb (Aw r.s)) = sv at *
   generalize Aw r.s = v at *
   generalize at0 r.s 0 = x at *
   generalize strOf r.s = s at *
   subst hw
   refine W.rtA [(4, aV (I6 0)), (10, aT), (13, aV (U8 ↑(253 : Nat))), (21, aV (I6 3)), (22, aF), (26, aV (I6 3)), (33, cL true [] cval), (36, c9 cv), (40, aV (I6 3)), (42, aT)] [] [I6 ↑(0 : Nat) = I6 0, decide ((↑(ByteArray.size s) : Int) > 0) = true, U8 (AC s (0 : Int)) = U8 ↑(253 : Nat), (0 : Int) ≤ 0, 0 < (↑(ByteArray.size s) : Int), I6 (IntKind.wrap .i64 ((1 : Int) + (2 : Int))) = I6 3, decide ((↑(ByteArray.size s) : Int) < 3) = false, I6 (IntKind.wrap .i64 ((1 : Int) + (2 : Int))) = I6 3, (0 : Int) ≤ 1, (1 : Int) ≤ 3, 3 ≤ (↑(ByteArray.size s) : Int), 0 + ByteArray.size (ByteArray.extract s 1 3) ≤ ByteArray.size (ByteArray.extract s 1 3), rr ([] : List (Nat × Row)), ([PV.vec false (B8 (ByteArray.size (ByteArray.extract s 1 3)) (List.take (ByteArray.size (ByteArray.extract s 1 3)) (bytesOf (ByteArray.extract s 1 3))))] : List PV) = [PV.vec false (B8 (ByteArray.size (ByteArray.extract s 1 3)) (bytesOf (ByteArray.extract s 1 3)))], _, _, I6 (IntKind.wrap .i64 ((1 : Int) + (2 : Int))) = I6 3, (0 : Int) ≤ 0, (0 : Int) ≤ 3, 3 ≤ (↑(ByteArray.size s) : Int), (!ByteArray.toList sv == ByteArray.toList (ByteArray.extract s 0 3)) = true] (ac (cg (by omega)) (ac (dT (by omega)) (ac (cg (hb0)) (ob2 (by omega) (ac (wj (by omega)) (ac (dF (by omega)) (ac (wj (by omega)) (ob4 (by omega) (ac rfl (ac (by rw [List.take_of_length_le (show List.length (bytesOf (ByteArray.extract s 1 3)) ≤ ByteArray.size (ByteArray.extract s 1 3) by omega)]) (ac (cval) (ac (cv) (ac (wj (by omega)) (ob3 (by omega) (ao (by assumption))))))))))))))))
  ·rw [if_neg hlt] at hve
   have heS : strOf (vb (Aw r.s)) = strOf (r.s.take (1 + 2)) := by rw [hcan.2 hlt]
   rw [← htk] at heS
   have heS := Nj heS
   by_cases hgt : m < Aw r.s
   ·rw [if_pos hgt] at hve
    obtain ⟨q1, q2⟩ := Rd.Bc hve (by omega)
    rw [q1, q2]
    unfold Dc
    rw [h0]
    dsimp only
    clear q1 q2 hve hcan hlt hval htk hmid
    generalize strOf (vb (Aw r.s)) = sv at *
    generalize Aw r.s = v at *
    generalize at0 r.s 0 = x at *
    generalize strOf r.s = s at *
    subst hw
    refine W.rtA [(4, aV (I6 0)), (10, aT), (13, aV (U8 ↑(253 : Nat))), (21, aV (I6 3)), (22, aF), (26, aV (I6 3)), (33, cL true [] cval), (36, c9 cv), (40, aV (I6 3)), (42, aF), (45, aT)] [] [I6 ↑(0 : Nat) = I6 0, decide ((↑(ByteArray.size s) : Int) > 0) = true, U8 (AC s (0 : Int)) = U8 ↑(253 : Nat), (0 : Int) ≤ 0, 0 < (↑(ByteArray.size s) : Int), I6 (IntKind.wrap .i64 ((1 : Int) + (2 : Int))) = I6 3, decide ((↑(ByteArray.size s) : Int) < 3) = false, I6 (IntKind.wrap .i64 ((1 : Int) + (2 : Int))) = I6 3, (0 : Int) ≤ 1, (1 : Int) ≤ 3, 3 ≤ (↑(ByteArray.size s) : Int), 0 + ByteArray.size (ByteArray.extract s 1 3) ≤ ByteArray.size (ByteArray.extract s 1 3), rr ([] : List (Nat × Row)), ([PV.vec false (B8 (ByteArray.size (ByteArray.extract s 1 3)) (List.take (ByteArray.size (ByteArray.extract s 1 3)) (bytesOf (ByteArray.extract s 1 3))))] : List PV) = [PV.vec false (B8 (ByteArray.size (ByteArray.extract s 1 3)) (bytesOf (ByteArray.extract s 1 3)))], _, _, I6 (IntKind.wrap .i64 ((1 : Int) + (2 : Int))) = I6 3, (0 : Int) ≤ 0, (0 : Int) ≤ 3, 3 ≤ (↑(ByteArray.size s) : Int), (!ByteArray.toList sv == ByteArray.toList (ByteArray.extract s 0 3)) = false, decide ((v:Int) > (m:Int)) = true] (ac (cg (by omega)) (ac (dT (by omega)) (ac (cg (hb0)) (ob2 (by omega) (ac (wj (by omega)) (ac (dF (by omega)) (ac (wj (by omega)) (ob4 (by omega) (ac rfl (ac (by rw [List.take_of_length_le (show List.length (bytesOf (ByteArray.extract s 1 3)) ≤ ByteArray.size (ByteArray.extract s 1 3) by omega)]) (ac (cval) (ac (cv) (ac (wj (by omega)) (ob3 (by omega) (ac (by assumption) (ao (dT (by omega))))))))))))))))))
   ·rw [if_neg hgt] at hve
    obtain ⟨q1, q2⟩ := Rd.Ga hve
    rw [w0] at q1
    rw [q1, q2]
    unfold Dc
    rw [h0]
    dsimp only
    rw [← hdr]
    clear hdr
    clear q1 q2 hve hcan hlt hval htk hmid
    generalize strOf (vb (Aw r.s)) = sv at *
    generalize Aw r.s = v at *
    generalize at0 r.s 0 = x at *
    generalize strOf r.s = s at *
    subst hw
    refine W.rtA [(4, aV (I6 0)), (10, aT), (13, aV (U8 ↑(253 : Nat))), (21, aV (I6 3)), (22, aF), (26, aV (I6 3)), (33, cL true [] cval), (36, c9 cv), (40, aV (I6 3)), (42, aF), (45, aF), (49, aV (I6 3)), (50, aV (PV.str (ByteArray.extract s 3 (ByteArray.size s))))] [] [I6 ↑(0 : Nat) = I6 0, decide ((↑(ByteArray.size s) : Int) > 0) = true, U8 (AC s (0 : Int)) = U8 ↑(253 : Nat), (0 : Int) ≤ 0, 0 < (↑(ByteArray.size s) : Int), I6 (IntKind.wrap .i64 ((1 : Int) + (2 : Int))) = I6 3, decide ((↑(ByteArray.size s) : Int) < 3) = false, I6 (IntKind.wrap .i64 ((1 : Int) + (2 : Int))) = I6 3, (0 : Int) ≤ 1, (1 : Int) ≤ 3, 3 ≤ (↑(ByteArray.size s) : Int), 0 + ByteArray.size (ByteArray.extract s 1 3) ≤ ByteArray.size (ByteArray.extract s 1 3), rr ([] : List (Nat × Row)), ([PV.vec false (B8 (ByteArray.size (ByteArray.extract s 1 3)) (List.take (ByteArray.size (ByteArray.extract s 1 3)) (bytesOf (ByteArray.extract s 1 3))))] : List PV) = [PV.vec false (B8 (ByteArray.size (ByteArray.extract s 1 3)) (bytesOf (ByteArray.extract s 1 3)))], _, _, I6 (IntKind.wrap .i64 ((1 : Int) + (2 : Int))) = I6 3, (0 : Int) ≤ 0, (0 : Int) ≤ 3, 3 ≤ (↑(ByteArray.size s) : Int), (!ByteArray.toList sv == ByteArray.toList (ByteArray.extract s 0 3)) = false, decide ((v:Int) > (m:Int)) = false, I6 (IntKind.wrap .i64 ((1 : Int) + (2 : Int))) = I6 3, PV.str (ByteArray.extract s 3 (Int.toNat (↑(ByteArray.size s) : Int))) = PV.str (ByteArray.extract s 3 (ByteArray.size s)), (0 : Int) ≤ 3, 3 ≤ (↑(ByteArray.size s) : Int), (↑(ByteArray.size s) : Int) ≤ (↑(ByteArray.size s) : Int)] (ac (cg (by omega)) (ac (dT (by omega)) (ac (cg (hb0)) (ob2 (by omega) (ac (wj (by omega)) (ac (dF (by omega)) (ac (wj (by omega)) (ob4 (by omega) (ac rfl (ac (by rw [List.take_of_length_le (show List.length (bytesOf (ByteArray.extract s 1 3)) ≤ ByteArray.size (ByteArray.extract s 1 3) by omega)]) (ac (cval) (ac (cv) (ac (wj (by omega)) (ob3 (by omega) (ac (by assumption) (ac (dF (by omega)) (ac (wj (by omega)) (ac (by rw [show Int.toNat (↑(ByteArray.size s) : Int) = ByteArray.size s by omega]) (ob2 (by omega) (ao (by omega)))))))))))))))))))))
end Go.Proofs
namespace Go.Proofs
open Go Go.Pe Go.Pm
set_option maxRecDepth 100000
set_option linter.unusedVariables false
set_option maxHeartbeats 8000000 in
theorem TJ {N m : Nat} {bs : Liz} {r : Rd} (hr : r.In bs N) (hN : N ≤ 1000000) (hm : m < 18446744073709551616) (h0 : r.e = 0) (hs : 0 < r.s.length) (hw : at0 r.s 0 = 254) : Pt 38 [] [Dc r, .int .u64 m] [] (Em r m) := by
 refine pO Try.func38 (by kernel_rfl) ?_
 have hle := hr.le
 have hx := Fg hr.bytes 0
 have hb0 := Qq hr.bytes hs
 have w0 : wdt (at0 r.s 0) = 4 := by rw [hw]; rfl
 have hsz : (strOf r.s).size = r.s.length := Ag _
 have hsb : (strOf r.s).size ≤ 1000000 := by omega
 unfold Em
 by_cases hsh : r.s.length < 1 + 4
 ·have hve : r.ve m = 2 := by unfold Rd.ve; rw [if_pos h0, w0, if_pos hsh]
  obtain ⟨q1, q2⟩ := Rd.Bc hve (by omega)
  rw [q1, q2]
  unfold Dc
  rw [h0]
  rw [← hsz] at hsh
  dsimp only
  clear q1 q2 hve
  generalize at0 r.s 0 = x at *
  generalize strOf r.s = s at *
  subst hw
  refine W.rtA [(4, aV (I6 0)), (10, aT), (13, aV (U8 ↑(254 : Nat))), (23, aV (I6 5)), (24, aT)] [] [I6 ↑(0 : Nat) = I6 0, decide ((↑(ByteArray.size s) : Int) > 0) = true, U8 (AC s (0 : Int)) = U8 ↑(254 : Nat), (0 : Int) ≤ 0, 0 < (↑(ByteArray.size s) : Int), I6 (IntKind.wrap .i64 ((1 : Int) + (4 : Int))) = I6 5, decide ((↑(ByteArray.size s) : Int) < 5) = true] (ac (cg (by omega)) (ac (dT (by omega)) (ac (cg (hb0)) (ob2 (by omega) (ac (wj (by omega)) (ao (dT (by omega))))))))
 ·have hl : 1 + wdt (at0 r.s 0) ≤ r.s.length := by rw [w0]; omega
  have hcan := JX hr.bytes hl
  have hvl := E8 hr.bytes
  have cv := Nb hvl
  have hve : r.ve m = if Aw r.s < lst (at0 r.s 0) then 3 else if m < Aw r.s then 4 else 0 := by unfold Rd.ve; rw [if_pos h0, w0, if_neg hsh]
  have hmid : (strOf r.s).extract 1 5 = strOf ((r.s.drop 1).take 4) := IM r.s 4
  have htk : (strOf r.s).extract 0 5 = strOf (r.s.take (1 + 4)) := C9 r.s (1 + 4)
  have hdr : (strOf r.s).extract 5 (strOf r.s).size = strOf (r.s.drop (1 + 4)) := CY r.s (1 + 4)
  have hval : lv (bytesOf (strOf ((r.s.drop 1).take 4))) (strOf ((r.s.drop 1).take 4)).size = Aw r.s := by
   rw [Bb ((hr.bytes.drop 1).take 4), Ag, List.length_take, List.length_drop, Nat.min_eq_left (by omega)]
   unfold Aw
   rw [w0, if_neg (by omega), CS (Nat.le_refl _)]
  have cval := D6 (s := strOf ((r.s.drop 1).take 4)) (nl := false) (by rw [Ag, List.length_take]; omega)
  rw [hval] at cval
  have hbl := bytesOf_length (strOf ((r.s.drop 1).take 4))
  have hms : (strOf ((r.s.drop 1).take 4)).size ≤ 8 := by rw [Ag, List.length_take]; omega
  rw [w0] at hcan
  rw [← hsz] at hsh
  rw [← hmid] at cval hbl hms
  have hbs := Bu ((strOf r.s).extract 1 5)
  by_cases hlt : Aw r.s < lst (at0 r.s 0)
  ·rw [if_pos hlt] at hve
   obtain ⟨q1, q2⟩ := Rd.Bc hve (by omega)
   have hneS : ¬ strOf (vb (Aw r.s)) = strOf (r.s.take (1 + 4)) := fun h => (hcan.1 (ET (Ih _) (hr.bytes.take _) h)) hlt
   rw [← htk] at hneS
   have hneS := Nh hneS
   rw [q1, q2]
   unfold Dc
   rw [h0]
   dsimp only
   clear q1 q2 hve hcan hlt hval htk hmid
   generalize strOf (vb (Aw r.s)) = sv at *
   generalize Aw r.s = v at *
   generalize at0 r.s 0 = x at *
   generalize strOf r.s = s at *
   subst hw
   refine W.rtA [(4, aV (I6 0)), (10, aT), (13, aV (U8 ↑(254 : Nat))), (23, aV (I6 5)), (24, aF), (28, aV (I6 5)), (35, cL true [] cval), (38, c9 cv), (42, aV (I6 5)), (44, aT)] [] [I6 ↑(0 : Nat) = I6 0, decide ((↑(ByteArray.size s) : Int) > 0) = true, U8 (AC s (0 : Int)) = U8 ↑(254 : Nat), (0 : Int) ≤ 0, 0 < (↑(ByteArray.size s) : Int), I6 (IntKind.wrap .i64 ((1 : Int) + (4 : Int))) = I6 5, decide ((↑(ByteArray.size s) : Int) < 5) = false, I6 (IntKind.wrap .i64 ((1 : Int) + (4 : Int))) = I6 5, (0 : Int) ≤ 1, (1 : Int) ≤ 5, 5 ≤ (↑(ByteArray.size s) : Int), 0 + ByteArray.size (ByteArray.extract s 1 5) ≤ ByteArray.size (ByteArray.extract s 1 5), rr ([] : List (Nat × Row)), ([PV.vec false (B8 (ByteArray.size (ByteArray.extract s 1 5)) (List.take (ByteArray.size (ByteArray.extract s 1 5)) (bytesOf (ByteArray.extract s 1 5))))] : List PV) = [PV.vec false (B8 (ByteArray.size (ByteArray.extract s 1 5)) (bytesOf (ByteArray.extract s 1 5)))], _, _, I6 (IntKind.wrap .i64 ((1 : Int) + (4 : Int))) = I6 5, (0 : Int) ≤ 0, (0 : Int) ≤ 5, 5 ≤ (↑(ByteArray.size s) : Int), (!ByteArray.toList sv == ByteArray.toList (ByteArray.extract s 0 5)) = true] (ac (cg (by omega)) (ac (dT (by omega)) (ac (cg (hb0)) (ob2 (by omega) (ac (wj (by omega)) (ac (dF (by omega)) (ac (wj (by omega)) (ob4 (by omega) (ac rfl (ac (by rw [List.take_of_length_le (show List.length (bytesOf (ByteArray.extract s 1 5)) ≤ ByteArray.size (ByteArray.extract s 1 5) by omega)]) (ac (cval) (ac (cv) (ac (wj (by omega)) (ob3 (by omega) (ao (by assumption))))))))))))))))
  ·rw [if_neg hlt] at hve
   have heS : strOf (vb (Aw r.s)) = strOf (r.s.take (1 + 4)) := by rw [hcan.2 hlt]
   rw [← htk] at heS
   have heS := Nj heS
   by_cases hgt : m < Aw r.s
   ·rw [if_pos hgt] at hve
    obtain ⟨q1, q2⟩ := Rd.Bc hve (by omega)
    rw [q1, q2]
    unfold Dc
    rw [h0]
    dsimp only
    clear q1 q2 hve hcan hlt hval htk hmid
    generalize strOf (vb (Aw r.s)) = sv at *
    generalize Aw r.s = v at *
    generalize at0 r.s 0 = x at *
    generalize strOf r.s = s at *
    subst hw
    refine W.rtA [(4, aV (I6 0)), (10, aT), (13, aV (U8 ↑(254 : Nat))), (23, aV (I6 5)), (24, aF), (28, aV (I6 5)), (35, cL true [] cval), (38, c9 cv), (42, aV (I6 5)), (44, aF), (47, aT)] [] [I6 ↑(0 : Nat) = I6 0, decide ((↑(ByteArray.size s) : Int) > 0) = true, U8 (AC s (0 : Int)) = U8 ↑(254 : Nat), (0 : Int) ≤ 0, 0 < (↑(ByteArray.size s) : Int), I6 (IntKind.wrap .i64 ((1 : Int) + (4 : Int))) = I6 5, decide ((↑(ByteArray.size s) : Int) < 5) = false, I6 (IntKind.wrap .i64 ((1 : Int) + (4 : Int))) = I6 5, (0 : Int) ≤ 1, (1 : Int) ≤ 5, 5 ≤ (↑(ByteArray.size s) : Int), 0 + ByteArray.size (ByteArray.extract s 1 5) ≤ ByteArray.size (ByteArray.extract s 1 5), rr ([] : List (Nat × Row)), ([PV.vec false (B8 (ByteArray.size (ByteArray.extract s 1 5)) (List.take (ByteArray.size (ByteArray.extract s 1 5)) (bytesOf (ByteArray.extract s 1 5))))] : List PV) = [PV.vec false (B8 (ByteArray.size (ByteArray.extract s 1 5)) (bytesOf (ByteArray.extract s 1 5)))], _, _, I6 (IntKind.wrap .i64 ((1 : Int) + (4 : Int))) = I6 5, (0 : Int) ≤ 0, (0 : Int) ≤ 5, 5 ≤ (↑(ByteArray.size s) : Int), (!ByteArray.toList sv == ByteArray.toList (ByteArray.extract s 0 5)) = false, decide ((v:Int) > (m:Int)) = true] (ac (cg (by omega)) (ac (dT (by omega)) (ac (cg (hb0)) (ob2 (by omega) (ac (wj (by omega)) (ac (dF (by omega)) (ac (wj (by omega)) (ob4 (by omega) (ac rfl (ac (by rw [List.take_of_length_le (show List.length (bytesOf (ByteArray.extract s 1 5)) ≤ ByteArray.size (ByteArray.extract s 1 5) by omega)]) (ac (cval) (ac (cv) (ac (wj (by omega)) (ob3 (by omega) (ac (by assumption) (ao (dT (by omega))))))))))))))))))
   ·rw [if_neg hgt] at hve
    obtain ⟨q1, q2⟩ := Rd.Ga hve
    rw [w0] at q1
    rw [q1, q2]
    unfold Dc
    rw [h0]
    dsimp only
    rw [← hdr]
    clear hdr
    clear q1 q2 hve hcan hlt hval htk hmid
    generalize strOf (vb (Aw r.s)) = sv at *
    generalize Aw r.s = v at *
    generalize at0 r.s 0 = x at *
    generalize strOf r.s = s at *
    subst hw
    refine W.rtA [(4, aV (I6 0)), (10, aT), (13, aV (U8 ↑(254 : Nat))), (23, aV (I6 5)), (24, aF), (28, aV (I6 5)), (35, cL true [] cval), (38, c9 cv), (42, aV (I6 5)), (44, aF), (47, aF), (51, aV (I6 5)), (52, aV (PV.str (ByteArray.extract s 5 (ByteArray.size s))))] [] [I6 ↑(0 : Nat) = I6 0, decide ((↑(ByteArray.size s) : Int) > 0) = true, U8 (AC s (0 : Int)) = U8 ↑(254 : Nat), (0 : Int) ≤ 0, 0 < (↑(ByteArray.size s) : Int), I6 (IntKind.wrap .i64 ((1 : Int) + (4 : Int))) = I6 5, decide ((↑(ByteArray.size s) : Int) < 5) = false, I6 (IntKind.wrap .i64 ((1 : Int) + (4 : Int))) = I6 5, (0 : Int) ≤ 1, (1 : Int) ≤ 5, 5 ≤ (↑(ByteArray.size s) : Int), 0 + ByteArray.size (ByteArray.extract s 1 5) ≤ ByteArray.size (ByteArray.extract s 1 5), rr ([] : List (Nat × Row)), ([PV.vec false (B8 (ByteArray.size (ByteArray.extract s 1 5)) (List.take (ByteArray.size (ByteArray.extract s 1 5)) (bytesOf (ByteArray.extract s 1 5))))] : List PV) = [PV.vec false (B8 (ByteArray.size (ByteArray.extract s 1 5)) (bytesOf (ByteArray.extract s 1 5)))], _, _, I6 (IntKind.wrap .i64 ((1 : Int) + (4 : Int))) = I6 5, (0 : Int) ≤ 0, (0 : Int) ≤ 5, 5 ≤ (↑(ByteArray.size s) : Int), (!ByteArray.toList sv == ByteArray.toList (ByteArray.extract s 0 5)) = false, decide ((v:Int) > (m:Int)) = false, I6 (IntKind.wrap .i64 ((1 : Int) + (4 : Int))) = I6 5, PV.str (ByteArray.extract s 5 (Int.toNat (↑(ByteArray.size s) : Int))) = PV.str (ByteArray.extract s 5 (ByteArray.size s)), (0 : Int) ≤ 5, 5 ≤ (↑(ByteArray.size s) : Int), (↑(ByteArray.size s) : Int) ≤ (↑(ByteArray.size s) : Int)] (ac (cg (by omega)) (ac (dT (by omega)) (ac (cg (hb0)) (ob2 (by omega) (ac (wj (by omega)) (ac (dF (by omega)) (ac (wj (by omega)) (ob4 (by omega) (ac rfl (ac (by rw [List.take_of_length_le (show List.length (bytesOf (ByteArray.extract s 1 5)) ≤ ByteArray.size (ByteArray.extract s 1 5) by omega)]) (ac (cval) (ac (cv) (ac (wj (by omega)) (ob3 (by omega) (ac (by assumption) (ac (dF (by omega)) (ac (wj (by omega)) (ac (by rw [show Int.toNat (↑(ByteArray.size s) : Int) = ByteArray.size s by omega]) (ob2 (by omega) (ao (by omega)))))))))))))))))))))
end Go.Proofs
namespace Go.Proofs
open Go Go.Pe Go.Pm
set_option maxRecDepth 100000
set_option linter.unusedVariables false
set_option maxHeartbeats 8000000 in
theorem Tz {N m : Nat} {bs : Liz} {r : Rd} (hr : r.In bs N) (hN : N ≤ 1000000) (hm : m < 18446744073709551616) (h0 : r.e = 0) (hs : 0 < r.s.length) (hw : at0 r.s 0 = 255) : Pt 38 [] [Dc r, .int .u64 m] [] (Em r m) := by
 refine pO Try.func38 (by kernel_rfl) ?_
 have hle := hr.le
 have hx := Fg hr.bytes 0
 have hb0 := Qq hr.bytes hs
 have w0 : wdt (at0 r.s 0) = 8 := by rw [hw]; rfl
 have hsz : (strOf r.s).size = r.s.length := Ag _
 have hsb : (strOf r.s).size ≤ 1000000 := by omega
 unfold Em
 by_cases hsh : r.s.length < 1 + 8
 ·have hve : r.ve m = 2 := by unfold Rd.ve; rw [if_pos h0, w0, if_pos hsh]
  obtain ⟨q1, q2⟩ := Rd.Bc hve (by omega)
  rw [q1, q2]
  unfold Dc
  rw [h0]
  rw [← hsz] at hsh
  dsimp only
  clear q1 q2 hve
  generalize at0 r.s 0 = x at *
  generalize strOf r.s = s at *
  subst hw
  refine W.rtA [(4, aV (I6 0)), (10, aT), (13, aV (U8 ↑(255 : Nat))), (25, aV (I6 9)), (26, aT)] [] [I6 ↑(0 : Nat) = I6 0, decide ((↑(ByteArray.size s) : Int) > 0) = true, U8 (AC s (0 : Int)) = U8 ↑(255 : Nat), (0 : Int) ≤ 0, 0 < (↑(ByteArray.size s) : Int), I6 (IntKind.wrap .i64 ((1 : Int) + (8 : Int))) = I6 9, decide ((↑(ByteArray.size s) : Int) < 9) = true] (ac (cg (by omega)) (ac (dT (by omega)) (ac (cg (hb0)) (ob2 (by omega) (ac (wj (by omega)) (ao (dT (by omega))))))))
 ·have hl : 1 + wdt (at0 r.s 0) ≤ r.s.length := by rw [w0]; omega
  have hcan := JX hr.bytes hl
  have hvl := E8 hr.bytes
  have cv := Nb hvl
  have hve : r.ve m = if Aw r.s < lst (at0 r.s 0) then 3 else if m < Aw r.s then 4 else 0 := by unfold Rd.ve; rw [if_pos h0, w0, if_neg hsh]
  have hmid : (strOf r.s).extract 1 9 = strOf ((r.s.drop 1).take 8) := IM r.s 8
  have htk : (strOf r.s).extract 0 9 = strOf (r.s.take (1 + 8)) := C9 r.s (1 + 8)
  have hdr : (strOf r.s).extract 9 (strOf r.s).size = strOf (r.s.drop (1 + 8)) := CY r.s (1 + 8)
  have hval : lv (bytesOf (strOf ((r.s.drop 1).take 8))) (strOf ((r.s.drop 1).take 8)).size = Aw r.s := by
   rw [Bb ((hr.bytes.drop 1).take 8), Ag, List.length_take, List.length_drop, Nat.min_eq_left (by omega)]
   unfold Aw
   rw [w0, if_neg (by omega), CS (Nat.le_refl _)]
  have cval := D6 (s := strOf ((r.s.drop 1).take 8)) (nl := false) (by rw [Ag, List.length_take]; omega)
  rw [hval] at cval
  have hbl := bytesOf_length (strOf ((r.s.drop 1).take 8))
  have hms : (strOf ((r.s.drop 1).take 8)).size ≤ 8 := by rw [Ag, List.length_take]; omega
  rw [w0] at hcan
  rw [← hsz] at hsh
  rw [← hmid] at cval hbl hms
  have hbs := Bu ((strOf r.s).extract 1 9)
  by_cases hlt : Aw r.s < lst (at0 r.s 0)
  ·rw [if_pos hlt] at hve
   obtain ⟨q1, q2⟩ := Rd.Bc hve (by omega)
   have hneS : ¬ strOf (vb (Aw r.s)) = strOf (r.s.take (1 + 8)) := fun h => (hcan.1 (ET (Ih _) (hr.bytes.take _) h)) hlt
   rw [← htk] at hneS
   have hneS := Nh hneS
   rw [q1, q2]
   unfold Dc
   rw [h0]
   dsimp only
   clear q1 q2 hve hcan hlt hval htk hmid
   generalize strOf (vb (Aw r.s)) = sv at *
   generalize Aw r.s = v at *
   generalize at0 r.s 0 = x at *
   generalize strOf r.s = s at *
   subst hw
   refine W.rtA [(4, aV (I6 0)), (10, aT), (13, aV (U8 ↑(255 : Nat))), (25, aV (I6 9)), (26, aF), (30, aV (I6 9)), (37, cL true [] cval), (40, c9 cv), (44, aV (I6 9)), (46, aT)] [] [I6 ↑(0 : Nat) = I6 0, decide ((↑(ByteArray.size s) : Int) > 0) = true, U8 (AC s (0 : Int)) = U8 ↑(255 : Nat), (0 : Int) ≤ 0, 0 < (↑(ByteArray.size s) : Int), I6 (IntKind.wrap .i64 ((1 : Int) + (8 : Int))) = I6 9, decide ((↑(ByteArray.size s) : Int) < 9) = false, I6 (IntKind.wrap .i64 ((1 : Int) + (8 : Int))) = I6 9, (0 : Int) ≤ 1, (1 : Int) ≤ 9, 9 ≤ (↑(ByteArray.size s) : Int), 0 + ByteArray.size (ByteArray.extract s 1 9) ≤ ByteArray.size (ByteArray.extract s 1 9), rr ([] : List (Nat × Row)), ([PV.vec false (B8 (ByteArray.size (ByteArray.extract s 1 9)) (List.take (ByteArray.size (ByteArray.extract s 1 9)) (bytesOf (ByteArray.extract s 1 9))))] : List PV) = [PV.vec false (B8 (ByteArray.size (ByteArray.extract s 1 9)) (bytesOf (ByteArray.extract s 1 9)))], _, _, I6 (IntKind.wrap .i64 ((1 : Int) + (8 : Int))) = I6 9, (0 : Int) ≤ 0, (0 : Int) ≤ 9, 9 ≤ (↑(ByteArray.size s) : Int), (!ByteArray.toList sv == ByteArray.toList (ByteArray.extract s 0 9)) = true] (ac (cg (by omega)) (ac (dT (by omega)) (ac (cg (hb0)) (ob2 (by omega) (ac (wj (by omega)) (ac (dF (by omega)) (ac (wj (by omega)) (ob4 (by omega) (ac rfl (ac (by rw [List.take_of_length_le (show List.length (bytesOf (ByteArray.extract s 1 9)) ≤ ByteArray.size (ByteArray.extract s 1 9) by omega)]) (ac (cval) (ac (cv) (ac (wj (by omega)) (ob3 (by omega) (ao (by assumption))))))))))))))))
  ·rw [if_neg hlt] at hve
   have heS : strOf (vb (Aw r.s)) = strOf (r.s.take (1 + 8)) := by rw [hcan.2 hlt]
   rw [← htk] at heS
   have heS := Nj heS
   by_cases hgt : m < Aw r.s
   ·rw [if_pos hgt] at hve
    obtain ⟨q1, q2⟩ := Rd.Bc hve (by omega)
    rw [q1, q2]
    unfold Dc
    rw [h0]
    dsimp only
    clear q1 q2 hve hcan hlt hval htk hmid
    generalize strOf (vb (Aw r.s)) = sv at *
    generalize Aw r.s = v at *
    generalize at0 r.s 0 = x at *
    generalize strOf r.s = s at *
    subst hw
    refine W.rtA [(4, aV (I6 0)), (10, aT), (13, aV (U8 ↑(255 : Nat))), (25, aV (I6 9)), (26, aF), (30, aV (I6 9)), (37, cL true [] cval), (40, c9 cv), (44, aV (I6 9)), (46, aF), (49, aT)] [] [I6 ↑(0 : Nat) = I6 0, decide ((↑(ByteArray.size s) : Int) > 0) = true, U8 (AC s (0 : Int)) = U8 ↑(255 : Nat), (0 : Int) ≤ 0, 0 < (↑(ByteArray.size s) : Int), I6 (IntKind.wrap .i64 ((1 : Int) + (8 : Int))) = I6 9, decide ((↑(ByteArray.size s) : Int) < 9) = false, I6 (IntKind.wrap .i64 ((1 : Int) + (8 : Int))) = I6 9, (0 : Int) ≤ 1, (1 : Int) ≤ 9, 9 ≤ (↑(ByteArray.size s) : Int), 0 + ByteArray.size (ByteArray.extract s 1 9) ≤ ByteArray.size (ByteArray.extract s 1 9), rr ([] : List (Nat × Row)), ([PV.vec false (B8 (ByteArray.size (ByteArray.extract s 1 9)) (List.take (ByteArray.size (ByteArray.extract s 1 9)) (bytesOf (ByteArray.extract s 1 9))))] : List PV) = [PV.vec false (B8 (ByteArray.size (ByteArray.extract s 1 9)) (bytesOf (ByteArray.extract s 1 9)))], _, _, I6 (IntKind.wrap .i64 ((1 : Int) + (8 : Int))) = I6 9, (0 : Int) ≤ 0, (0 : Int) ≤ 9, 9 ≤ (↑(ByteArray.size s) : Int), (!ByteArray.toList sv == ByteArray.toList (ByteArray.extract s 0 9)) = false, decide ((v:Int) > (m:Int)) = true] (ac (cg (by omega)) (ac (dT (by omega)) (ac (cg (hb0)) (ob2 (by omega) (ac (wj (by omega)) (ac (dF (by omega)) (ac (wj (by omega)) (ob4 (by omega) (ac rfl (ac (by rw [List.take_of_length_le (show List.length (bytesOf (ByteArray.extract s 1 9)) ≤ ByteArray.size (ByteArray.extract s 1 9) by omega)]) (ac (cval) (ac (cv) (ac (wj (by omega)) (ob3 (by omega) (ac (by assumption) (ao (dT (by omega))))))))))))))))))
   ·rw [if_neg hgt] at hve
    obtain ⟨q1, q2⟩ := Rd.Ga hve
    rw [w0] at q1
    rw [q1, q2]
    unfold Dc
    rw [h0]
    dsimp only
    rw [← hdr]
    clear hdr
    clear q1 q2 hve hcan hlt hval htk hmid
    generalize strOf (vb (Aw r.s)) = sv at *
    generalize Aw r.s = v at *
    generalize at0 r.s 0 = x at *
    generalize strOf r.s = s at *
    subst hw
    refine W.rtA [(4, aV (I6 0)), (10, aT), (13, aV (U8 ↑(255 : Nat))), (25, aV (I6 9)), (26, aF), (30, aV (I6 9)), (37, cL true [] cval), (40, c9 cv), (44, aV (I6 9)), (46, aF), (49, aF), (53, aV (I6 9)), (54, aV (PV.str (ByteArray.extract s 9 (ByteArray.size s))))] [] [I6 ↑(0 : Nat) = I6 0, decide ((↑(ByteArray.size s) : Int) > 0) = true, U8 (AC s (0 : Int)) = U8 ↑(255 : Nat), (0 : Int) ≤ 0, 0 < (↑(ByteArray.size s) : Int), I6 (IntKind.wrap .i64 ((1 : Int) + (8 : Int))) = I6 9, decide ((↑(ByteArray.size s) : Int) < 9) = false, I6 (IntKind.wrap .i64 ((1 : Int) + (8 : Int))) = I6 9, (0 : Int) ≤ 1, (1 : Int) ≤ 9, 9 ≤ (↑(ByteArray.size s) : Int), 0 + ByteArray.size (ByteArray.extract s 1 9) ≤ ByteArray.size (ByteArray.extract s 1 9), rr ([] : List (Nat × Row)), ([PV.vec false (B8 (ByteArray.size (ByteArray.extract s 1 9)) (List.take (ByteArray.size (ByteArray.extract s 1 9)) (bytesOf (ByteArray.extract s 1 9))))] : List PV) = [PV.vec false (B8 (ByteArray.size (ByteArray.extract s 1 9)) (bytesOf (ByteArray.extract s 1 9)))], _, _, I6 (IntKind.wrap .i64 ((1 : Int) + (8 : Int))) = I6 9, (0 : Int) ≤ 0, (0 : Int) ≤ 9, 9 ≤ (↑(ByteArray.size s) : Int), (!ByteArray.toList sv == ByteArray.toList (ByteArray.extract s 0 9)) = false, decide ((v:Int) > (m:Int)) = false, I6 (IntKind.wrap .i64 ((1 : Int) + (8 : Int))) = I6 9, PV.str (ByteArray.extract s 9 (Int.toNat (↑(ByteArray.size s) : Int))) = PV.str (ByteArray.extract s 9 (ByteArray.size s)), (0 : Int) ≤ 9, 9 ≤ (↑(ByteArray.size s) : Int), (↑(ByteArray.size s) : Int) ≤ (↑(ByteArray.size s) : Int)] (ac (cg (by omega)) (ac (dT (by omega)) (ac (cg (hb0)) (ob2 (by omega) (ac (wj (by omega)) (ac (dF (by omega)) (ac (wj (by omega)) (ob4 (by omega) (ac rfl (ac (by rw [List.take_of_length_le (show List.length (bytesOf (ByteArray.extract s 1 9)) ≤ ByteArray.size (ByteArray.extract s 1 9) by omega)]) (ac (cval) (ac (cv) (ac (wj (by omega)) (ob3 (by omega) (ac (by assumption) (ac (dF (by omega)) (ac (wj (by omega)) (ac (by rw [show Int.toNat (↑(ByteArray.size s) : Int) = ByteArray.size s by omega]) (ob2 (by omega) (ao (by omega)))))))))))))))))))))
end Go.Proofs
namespace Go.Proofs
open Go Go.Pe Go.Pm
set_option maxRecDepth 100000
set_option linter.unusedVariables false
theorem pc_rCnt {N m : Nat} {bs : Liz} {r : Rd} (hr : r.In bs N) (hN : N ≤ 1000000) (he : r.e ≤ 100) (hm : m < 18446744073709551616) : Pt 38 [] [Dc r, .int .u64 m] [] (Em r m) := by
 by_cases h0 : r.e = 0
 ·by_cases hs : r.s.length = 0
  ·exact Ur hr hN hm h0 hs
  ·by_cases h2 : at0 r.s 0 = 253
   ·exact SA hr hN hm h0 (by omega) h2
   ·by_cases h4 : at0 r.s 0 = 254
    ·exact TJ hr hN hm h0 (by omega) h4
    ·by_cases h8 : at0 r.s 0 = 255
     ·exact Tz hr hN hm h0 (by omega) h8
     ·exact UX hr hN hm h0 (by omega) ⟨h2, h4, h8⟩
 ·exact TN hr hN he hm h0
end Go.Proofs
namespace Go.Proofs
open Go Go.Pe Go.Pm
set_option maxRecDepth 100000
set_option linter.unusedVariables false
def K7 (c : Nat) (s : ByteArray) : DS := ⟨[(5, .int .u64 c), (6, .str s), (7, AV), (8, .int .u64 0), (9, .int .u64 0)], []⟩
def dRV (c m i : Nat) (s : ByteArray) (o : List Int) : DS := ⟨[(5, .int .u64 c), (6, .str s), (7, .ref 1 [] 1 0 i), (8, .int .u64 m), (9, .int .u64 i)], [(1, Ac i o)]⟩
theorem W_rvE0 {c e : Nat} {s : ByteArray} (hc : 0 < c) (hc2 : c ≤ 1000) (he : e ≠ 0) (he2 : e < 100) (c1 : Pt 40 [] [.str s, .int .i64 19, .int .i64 65536] [] (.tup [.str s, .int .u64 0, .int .i64 e])) :
  Wt Try.f15 [] [] (.tup [AV, .int .i64 e]) (Aa Try.f15 0) (K7 c s) := by
 unfold AV K7 AV
 refine W.rtA [(2, aT), (4, c9 c1), (13, aT)] [] [decide (0 < (c:Int)) = true, _, ((e:Int) != 0) = true] (ac (dT (by omega)) (ac (c1) (ao (bne_iff_ne.2 (by omega)))))
theorem W_rvE {c m i e : Nat} {s : ByteArray} {o : Liz} (hc : i < c) (hc2 : c ≤ 1000) (he : e ≠ 0) (he2 : e < 100) (c1 : Pt 40 [] [.str s, .int .i64 19, .int .i64 65536] [] (.tup [.str s, .int .u64 0, .int .i64 e])) :
  Wt Try.f15 [] [] (.tup [AV, .int .i64 e]) (Aa Try.f15 0) (dRV c m i s o) := by
 unfold AV
 refine W.rtA [(2, aT), (4, c9 c1), (13, aT)] [] [decide ((i:Int) < (c:Int)) = true, _, ((e:Int) != 0) = true] (ac (dT (by omega)) (ac (c1) (ao (bne_iff_ne.2 (by omega)))))
theorem W_rvB0 {c v : Nat} {s a : ByteArray} (hc : 0 < c) (hc2 : c ≤ 1000) (hv : v < 68719476736) (hb : c * 784931 ≤ v) (c1 : Pt 40 [] [.str s, .int .i64 19, .int .i64 65536] [] (.tup [.str a, .int .u64 v, .int .i64 0])) :
  Wt Try.f15 [] [] (.tup [AV, .int .i64 5]) (Aa Try.f15 0) (K7 c s) := by
 unfold AV K7 AV
 refine W.rtA [(2, aT), (4, c9 c1), (18, aV (U6 v)), (22, aV (U6 ↑(784931 * c))), (23, aT)] [] [decide (0 < (c:Int)) = true, _, U6 (IntKind.wrap .u64 (0 + (v:Int))) = U6 v, U6 (IntKind.wrap .u64 ((c:Int) * (784931 : Int))) = U6 ↑(784931 * c), decide ((v:Int) ≥ (↑(784931 * c) : Int)) = true] (ac (dT (by omega)) (ac (c1) (ac (cg (Ai (by omega) (by omega) (by omega))) (ac (cg (Ai (by omega) (by omega) (by omega))) (ao (dT (by omega)))))))
theorem W_rvB {c m i v : Nat} {s a : ByteArray} {o : Liz} (hc : i < c) (hc2 : c ≤ 1000) (hv : v < 68719476736) (hs : m < 68719476736) (hb : c * 784931 ≤ m + v) (c1 : Pt 40 [] [.str s, .int .i64 19, .int .i64 65536] [] (.tup [.str a, .int .u64 v, .int .i64 0])) :
  Wt Try.f15 [] [] (.tup [AV, .int .i64 5]) (Aa Try.f15 0) (dRV c m i s o) := by
 unfold AV
 refine W.rtA [(2, aT), (4, c9 c1), (18, aV (U6 ↑(m + v))), (22, aV (U6 ↑(784931 * c))), (23, aT)] [] [decide ((i:Int) < (c:Int)) = true, _, U6 (IntKind.wrap .u64 ((m:Int) + (v:Int))) = U6 ↑(m + v), U6 (IntKind.wrap .u64 ((c:Int) * (784931 : Int))) = U6 ↑(784931 * c), decide ((↑(m + v) : Int) ≥ (↑(784931 * c) : Int)) = true] (ac (dT (by omega)) (ac (c1) (ac (cg (Ai rfl (by omega) (by omega))) (ac (cg (Ai (by omega) (by omega) (by omega))) (ao (dT (by omega)))))))
theorem W_rvS0 {c v : Nat} {s a : ByteArray} {hout : Lrz} {res : PV} (hc : 0 < c) (hc2 : c ≤ 1000) (hv : v < 68719476736) (hb : v < c * 784931) (c1 : Pt 40 [] [.str s, .int .i64 19, .int .i64 65536] [] (.tup [.str a, .int .u64 v, .int .i64 0]))
  (hw : Wt Try.f15 [] hout res (Aa Try.f15 0) (dRV c v 1 a [(v : Int)])) :
  Wt Try.f15 [] hout res (Aa Try.f15 0) (K7 c s) := by
 unfold K7 AV
 refine W.sgA 0 [(2, aT), (4, c9 c1), (18, aV (U6 v)), (22, aV (U6 ↑(784931 * c))), (23, aF), (30, aV (U6 1))] [(496, 1)] (dRV c v 1 a [(v : Int)]) [decide (0 < (c:Int)) = true, _, U6 (IntKind.wrap .u64 (0 + (v:Int))) = U6 v, U6 (IntKind.wrap .u64 ((c:Int) * (784931 : Int))) = U6 ↑(784931 * c), decide ((v:Int) ≥ (↑(784931 * c) : Int)) = false, 1 ≤ 1, 0 < 1, 8 ≤ 140737488355328, 1 ≤ 9223372036854775807, U6 (IntKind.wrap .u64 ((0 : Int) + (1 : Int))) = U6 1] (ac (dT (by omega)) (ac (c1) (ac (cg (Ai (by omega) (by omega) (by omega))) (ac (cg (Ai (by omega) (by omega) (by omega))) (ac (dF (by omega)) (ob4 (by omega) (ao (cg (Ai rfl (by omega) (by omega)))))))))) ?_
 exact hw
theorem W_rvS {c m i v : Nat} {s a : ByteArray} {o : Liz} {hout : Lrz} {res : PV} (ho : o.length = i) (hc : i < c) (hc2 : c ≤ 1000) (hv : v < 68719476736) (hs : m < 68719476736) (hb : m + v < c * 784931) (c1 : Pt 40 [] [.str s, .int .i64 19, .int .i64 65536] [] (.tup [.str a, .int .u64 v, .int .i64 0]))
  (hw : Wt Try.f15 [] hout res (Aa Try.f15 0) (dRV c (m + v) (i + 1) a (o ++ [((m + v : Nat) : Int)]))) :
  Wt Try.f15 [] hout res (Aa Try.f15 0) (dRV c m i s o) := by
 refine W.sgA 0 [(2, aT), (4, c9 c1), (18, aV (U6 ↑(m + v))), (22, aV (U6 ↑(784931 * c))), (23, aF), (27, Ans.ups [(1, none), (496, some (Row.mk (B6 (i + 1) (o ++ [(↑(m + v) : Int)])) false))]), (30, aV (U6 ↑(i + 1)))] [(496, 1)] (dRV c (m + v) (i + 1) a (o ++ [((m + v : Nat) : Int)])) [decide ((i:Int) < (c:Int)) = true, _, U6 (IntKind.wrap .u64 ((m:Int) + (v:Int))) = U6 ↑(m + v), U6 (IntKind.wrap .u64 ((c:Int) * (784931 : Int))) = U6 ↑(784931 * c), decide ((↑(m + v) : Int) ≥ (↑(784931 * c) : Int)) = false, ([(1, none), (496, some (Row.mk (B6 (i + 1) (List.take i o ++ [(↑(m + v) : Int)])) false))] : List (Nat × Option Row)) = [(1, none), (496, some (Row.mk (B6 (i + 1) (o ++ [(↑(m + v) : Int)])) false))], 1 ≤ 1, 0 + i = i, (i + 1) * 8 ≤ 140737488355328, i + 1 ≤ 9223372036854775807, U6 (IntKind.wrap .u64 ((i:Int) + 1)) = U6 ↑(i + 1)] (ac (dT (by omega)) (ac (c1) (ac (cg (Ai rfl (by omega) (by omega))) (ac (cg (Ai (by omega) (by omega) (by omega))) (ac (dF (by omega)) (ac (by rw [List.take_of_length_le (show List.length o ≤ i by omega)]) (ac (by omega) (ac (by omega) (ob2 (by omega) (ao (cg (Ai rfl (by omega) (by omega))))))))))))) ?_
 exact hw
theorem W_rvX {c m : Nat} {s : ByteArray} {o : Liz} (hc : 0 < c) (hc2 : c ≤ 1000) (hs : s.size < 8) (c1 : Pt 41 [] [.str s] [] (.int .u64 0)) :
  Wt Try.f15 [] [(1, Ac c o)] (.tup [.ref 1 [] 1 0 c, .int .i64 0]) (Aa Try.f15 0) (dRV c m c s o) := by
 refine W.rtA [(2, aF), (5, aF), (8, c9 c1)] (rI 1) [decide ((c:Int) < (c:Int)) = false, decide ((↑(ByteArray.size s) : Int) ≥ 8) = false, _] (ac (dF (by omega)) (ac (dF (by omega)) (ao (c1))))
theorem W_rvX8 {c m : Nat} {s : ByteArray} {o : Liz} (hc : 0 < c) (hc2 : c ≤ 1000) (hs : 8 ≤ s.size) (hs2 : s.size ≤ 100000000) :
  Wt Try.f15 [] [] (.tup [AV, .int .i64 3]) (Aa Try.f15 0) (dRV c m c s o) := by
 unfold AV
 refine W.rtA [(2, aF), (5, aT)] [] [decide ((c:Int) < (c:Int)) = false, decide ((↑(ByteArray.size s) : Int) ≥ 8) = true] (ac (dF (by omega)) (ao (dT (by omega))))
theorem W_rvXn {c m x : Nat} {s : ByteArray} {o : Liz} (hc : 0 < c) (hc2 : c ≤ 1000) (hs : s.size < 8) (hx : x ≠ 0) (c1 : Pt 41 [] [.str s] [] (.int .u64 x)) :
  Wt Try.f15 [] [] (.tup [AV, .int .i64 3]) (Aa Try.f15 0) (dRV c m c s o) := by
 unfold AV
 refine W.rtA [(2, aF), (5, aF), (8, c9 c1), (9, aT)] [] [decide ((c:Int) < (c:Int)) = false, decide ((↑(ByteArray.size s) : Int) ≥ 8) = false, _, ((x:Int) != 0) = true] (ac (dF (by omega)) (ac (dF (by omega)) (ac (c1) (ao (bne_iff_ne.2 (by omega))))))
theorem W_rvInE {s a : ByteArray} {e n : Nat} (he : e ≠ 0) (he2 : e ≤ 100) (c1 : Pt 38 [] [.st 2 [.str s, .int .i64 0], .int .u64 1000] [] (.tup [.st 2 [.str a, .int .i64 e], .int .u64 n])) :
  Pt 15 [] [.str s] [] (.tup [AV, .int .i64 e]) := by
 refine pO Try.func15 (by kernel_rfl) ?_
 unfold AV
 refine W.rtA [(4, c9 c1), (13, aT)] [] [_, ((e:Int) != 0) = true] (ac (c1) (ao (bne_iff_ne.2 (by omega))))
theorem W_rvInZ {s a : ByteArray} (ha : a.size = 0) (c1 : Pt 38 [] [.st 2 [.str s, .int .i64 0], .int .u64 1000] [] (.tup [.st 2 [.str a, .int .i64 0], .int .u64 0])) :
  Pt 15 [] [.str s] [] (.tup [AV, .int .i64 0]) := by
 refine pO Try.func15 (by kernel_rfl) ?_
 unfold AV
 refine W.rtA [(4, c9 c1), (19, aF)] [] [_, decide ((↑(ByteArray.size a) : Int) > 0) = false] (ac (c1) (ao (dF (by omega))))
theorem UW {s a : ByteArray} (ha : 0 < a.size) (ha2 : a.size ≤ 1000000) (c1 : Pt 38 [] [.st 2 [.str s, .int .i64 0], .int .u64 1000] [] (.tup [.st 2 [.str a, .int .i64 0], .int .u64 0])) :
  Pt 15 [] [.str s] [] (.tup [AV, .int .i64 3]) := by
 refine pO Try.func15 (by kernel_rfl) ?_
 unfold AV
 refine W.rtA [(4, c9 c1), (19, aT)] [] [_, decide ((↑(ByteArray.size a) : Int) > 0) = true] (ac (c1) (ao (dT (by omega))))
theorem W_rvIn {s a t : ByteArray} {c : Nat} {hout : Lrz} {res : PV} (hc : 0 < c) (hc2 : c ≤ 1000) (ha2 : a.size ≤ 1000000) (c1 : Pt 38 [] [.st 2 [.str s, .int .i64 0], .int .u64 1000] [] (.tup [.st 2 [.str a, .int .i64 0], .int .u64 c])) (c2 : Pt 39 [] [.vec false (.iarr .u8 a.size (bytesOf a))] [] (.str t))
  (hw : Wt Try.f15 [] hout res (Aa Try.f15 0) (K7 c t)) :
  Pt 15 [] [.str s] hout res := by
 refine pO Try.func15 (by kernel_rfl) ?_
 unfold K7 AV at hw
 have hl := bytesOf_length a
 have hbb := Bu a
 refine W.sgA 0 [(4, c9 c1), (15, aF), (19, cL true [] c2)] [] (K7 c t) [_, ((c:Int) == 0) = false, 0 + ByteArray.size a ≤ ByteArray.size a, rr ([] : List (Nat × Row)), ([PV.vec false (B8 (ByteArray.size a) (List.take (ByteArray.size a) (bytesOf a)))] : List PV) = [PV.vec false (B8 (ByteArray.size a) (bytesOf a))], _] (ac (c1) (ac (dF (by omega)) (ac (by omega) (ac rfl (ac (by rw [List.take_of_length_le (show List.length (bytesOf a) ≤ ByteArray.size a by omega)]) (ao (c2))))))) ?_
 exact hw
end Go.Proofs
namespace Go.Proofs
open Go Go.Pe Go.Pm
set_option maxRecDepth 100000
attribute [local irreducible] lv
theorem QI {b : ByteArray} {v q : Nat} (hq : q ≤ 65536) (hv : v < 524288) : ∀ (k i : Nat), i + k = 19 →
  Wt Try.f40 [] [] (.tup [.str b, .int .u64 ((q * 524288 + v : Nat) : Int), .int .i64 0]) (Aa Try.f40 0) (dG12 b v (q * 2 ^ i) i)
 | 0, i, h => by
  obtain rfl : i = 19 := by omega
  rw [show q * 2 ^ 19 = q * 524288 from rfl]
  exact W_g12X (b := b) (v := v) (x := q * 524288) (by omega) (by omega) (IU (p := 19) (by omega))
 | k + 1, i, h => by
  have hw := QI (b := b) hq hv k (i + 1) (by omega)
  have hp : 2 ^ i ≤ 2 ^ 18 := Nat.pow_le_pow_right (by omega) (by omega)
  have hx : q * 2 ^ i ≤ 65536 * 2 ^ 18 := Nat.mul_le_mul hq hp
  have e : q * 2 ^ (i + 1) = 2 * (q * 2 ^ i) := by rw [Nat.pow_succ, ← Nat.mul_assoc]; omega
  rw [e] at hw
  exact W_g12 (by omega) (by omega) (IU (p := 19) (by omega)) hw
theorem Mm {l : Liz} {n a : Nat} (hn : n ≤ 1000000) (ha : a ≤ 8 * n) : Pt 40 [] [.str (strOf (txt l a (8 * n - a))), .int .i64 19, .int .i64 65536] []
  (if gE l n a = 0 then .tup [.str (strOf (txt l (gA l n a) (8 * n - gA l n a))), .int .u64 (gV l n a : Nat), .int .i64 0] else .tup [.str (strOf (txt l a (8 * n - a))), .int .u64 0, .int .i64 (gE l n a : Nat)]) := by
 have c := SN (l := l) (a := a) (k := 8 * n - a) (by omega)
 have hh := IU (p := 19) (by omega)
 have hol := Kg l (8 * n - a) a
 by_cases hr : Ce (8 * n - a) (AA l a (8 * n - a)) 65536 = 0
 ·rw [if_pos hr] at c
  have hge : gE l n a = if 8 * n < a + gO l n a + 1 + 19 then 2 else 0 := if_neg (not_not_intro hr)
  rw [hge]
  have hq : AA l a (8 * n - a) ≤ 65536 ∧ AA l a (8 * n - a) + 1 ≤ 8 * n - a := by
   unfold Ce at hr
   split at hr
   ·cases hr
   ·split at hr
    ·cases hr
    ·omega
  have t := RP (l := l) (a := a + AA l a (8 * n - a) + 1) (k := 8 * n - a - (AA l a (8 * n - a) + 1)) (w := 19) (by omega) (by omega)
  have hO : gO l n a = AA l a (8 * n - a) := rfl
  rw [hO]
  by_cases hw : 8 * n < a + AA l a (8 * n - a) + 1 + 19
  ·rw [if_pos hw, if_neg (by decide)]
   rw [if_pos (by omega)] at t
   exact W_g12T hq.1 (by omega) (by omega) c hh t
  ·rw [if_neg hw, if_pos rfl]
   rw [if_neg (by omega)] at t
   have hv := Ib l 19 (a + AA l a (8 * n - a) + 1) 0 0 (by decide)
   rw [Nat.zero_add] at hv
   have h := QI (b := strOf (txt l (a + AA l a (8 * n - a) + 1 + 19) (8 * n - a - (AA l a (8 * n - a) + 1) - 19))) hq.1 hv 19 0 (by omega)
   have e1 : gA l n a = a + AA l a (8 * n - a) + 1 + 19 := rfl
   have e2 : 8 * n - gA l n a = 8 * n - a - (AA l a (8 * n - a) + 1) - 19 := by rw [e1]; omega
   rw [e2, e1]
   have e3 : gV l n a = AA l a (8 * n - a) * 524288 + Ee l 19 (a + AA l a (8 * n - a) + 1) 0 := rfl
   rw [e3]
   rw [Nat.pow_zero, Nat.mul_one] at h
   exact W_g12In hq.1 c hh t h
 ·rw [if_neg hr] at c
  have hge : gE l n a = Ce (8 * n - a) (AA l a (8 * n - a)) 65536 := if_pos hr
  rw [hge, if_neg hr]
  exact W_g12E (by omega) (by have := Q4 (8 * n - a) (AA l a (8 * n - a)) 65536; omega) c
theorem Mr (l : List Int) : ∀ (w a x : Nat), Ee l w a x = 0 ↔ x = 0 ∧ Cg l a w = true
 | 0, a, x => by unfold Ee Cg; simp
 | w + 1, a, x => by
  show Ee l w (a + 1) (2 * x + bt l a) = 0 ↔ x = 0 ∧ (if bt l a = 0 then Cg l (a + 1) w else false) = true
  rw [Mr l w]
  by_cases h : bt l a = 0
  ·rw [if_pos h, h]
   constructor
   ·intro ⟨h1, h2⟩; exact ⟨by omega, h2⟩
   ·intro ⟨h1, h2⟩; exact ⟨by omega, h2⟩
  ·rw [if_neg h]
   constructor
   ·intro ⟨h1, h2⟩; omega
   ·intro ⟨h1, h2⟩; cases h2
theorem W_rv {n c : Nat} {l : Liz} (hn : n ≤ 1000000) (hc : c ≤ 1000) : ∀ (k a s i : Nat) (o : List Int), i + k = c → 0 < i → o.length = i → s < c * 784931 → a ≤ 8 * n →
  Wt Try.f15 [] (vH (vlE l n c (vlF l n (c * 784931) k a s o)) c (vlF l n (c * 784931) k a s o).1) (vP (vlE l n c (vlF l n (c * 784931) k a s o)) c) (Aa Try.f15 0) (dRV c s i (strOf (txt l a (8 * n - a))) o)
 | 0, a, s, i, o, hk, h0, ho, hs, ha => by
  obtain rfl : i = c := by omega
  have hz : (strOf (txt l a (8 * n - a))).size = 8 * n - a := by rw [Ag, Ck]
  unfold vlF
  rw [Nr h0]
  by_cases h8 : 8 * n - a < 8
  ·have c1 := NJ (l := l) (a := a) (w := 8 * n - a) (by omega)
   have hv := Mr l (8 * n - a) a 0
   by_cases h : Cg l a (8 * n - a) = true
   ·rw [if_pos ⟨h8, h⟩]
    rw [hv.2 ⟨rfl, h⟩] at c1
    exact W_rvX h0 hc (by omega) c1
   ·rw [if_neg (fun x => h x.2)]
    exact W_rvXn h0 hc (by omega) (fun x => h (hv.1 x).2) c1
  ·rw [if_neg (fun x => h8 x.1)]
   exact W_rvX8 h0 hc (by omega) (by omega)
 | k + 1, a, s, i, o, hk, h0, ho, hs, ha => by
  have c1 := Mm (l := l) hn ha
  unfold vlF
  by_cases he : gE l n a = 0
  ·rw [if_pos he] at c1
   obtain ⟨hA, hO⟩ := Qi ha he
   have hv := Qv hO
   rw [if_neg (not_not_intro he)]
   by_cases hl : c * 784931 ≤ s + gV l n a
   ·rw [if_pos hl, Ej (by decide)]
    exact W_rvB (by omega) hc hv (by omega) hl c1
   ·rw [if_neg hl]
    exact W_rvS ho (by omega) hc hv (by omega) (by omega) c1 (W_rv hn hc k _ _ _ _ (by omega) (by omega) (by simp [ho]) (by omega) hA)
  ·rw [if_neg he] at c1
   rw [if_pos he, Ej he]
   unfold vH vP
   rw [if_neg he, if_neg he]
   exact W_rvE (by omega) hc he NZ c1
theorem W_rv0 {l : Liz} {c : Nat} (hn : l.length ≤ 1000000) (hc : c ≤ 1000) (h0 : 0 < c) :
  Wt Try.f15 [] (vH (vlE l l.length c (vlF l l.length (c * 784931) c 0 0 [])) c (vlF l l.length (c * 784931) c 0 0 []).1) (vP (vlE l l.length c (vlF l l.length (c * 784931) c 0 0 [])) c) (Aa Try.f15 0) (K7 c (strOf (txt l 0 (8 * l.length)))) := by
 obtain ⟨k, rfl⟩ : ∃ k, c = k + 1 := ⟨c - 1, by omega⟩
 have c1 := Mm (l := l) (a := 0) hn (by omega)
 rw [Nat.sub_zero] at c1
 rw [show vlF l l.length ((k + 1) * 784931) (k + 1) 0 0 [] = if gE l l.length 0 ≠ 0 then ([], 0, gE l l.length 0) else if (k + 1) * 784931 ≤ 0 + gV l l.length 0 then ([], 0, 5) else vlF l l.length ((k + 1) * 784931) k (gA l l.length 0) (0 + gV l l.length 0) ([] ++ [((0 + gV l l.length 0 : Nat) : Int)]) from rfl]
 by_cases he : gE l l.length 0 = 0
 ·rw [if_pos he] at c1
  obtain ⟨hA, hO⟩ := Qi (Nat.zero_le _) he
  have hv := Qv hO
  rw [if_neg (not_not_intro he), Nat.zero_add]
  by_cases hl : (k + 1) * 784931 ≤ gV l l.length 0
  ·rw [if_pos hl, Ej (by decide)]
   exact W_rvB0 (by omega) hc hv hl c1
  ·rw [if_neg hl]
   exact W_rvS0 (by omega) hc hv (by omega) c1 (W_rv hn hc k _ _ _ _ (by omega) (by omega) rfl (by omega) hA)
 ·rw [if_neg he] at c1
  rw [if_pos he, Ej he]
  unfold vH vP
  rw [if_neg he, if_neg he]
  exact W_rvE0 (by omega) hc he NZ c1
theorem Sz {b : Liz} (hm : b.length ≤ 1000000) (hb : Bytes b) :
  Pt 15 [] [.str (strOf b)] (if Br b = 0 then [] else vH (vE b) (Br b) (EZ b).1) (if Br b = 0 then .tup [AV, .int .i64 (vE b)] else vP (vE b) (Br b)) := by
 have hr : (Rd.mk b 0).In b b.length := ⟨rfl, Nat.le_refl _, by show b = b.drop (b.length - b.length); rw [Nat.sub_self, List.drop_zero], hb⟩
 have c1 := pc_rCnt (m := 1000) hr hm (show (0 : Nat) ≤ 100 by omega) (by decide)
 unfold Em Dc at c1
 rw [var_e] at c1
 have hr2 := hr.var 1000
 have hcl : Br b ≤ 1000 := Rd.Qy _ _
 have hE : (Rd.mk b 0).ve 1000 ≤ 100 := by
  unfold Rd.ve
  split
  ·split
   ·omega
   ·split
    ·omega
    ·split <;> omega
  ·exact Nat.zero_le 100
 unfold vE
 by_cases h : (Rd.mk b 0).ve 1000 = 0
 ·rw [h] at c1
  have h' : ¬ K9 b ≠ 0 := not_not_intro h
  rw [if_neg h']
  have hbs : Bytes (vS b) := hr2.bytes
  have hsl2 : (vS b).length ≤ b.length := hr2.le
  have hsz : (strOf (vS b)).size = (vS b).length := Ag _
  by_cases h0 : Br b = 0
  ·rw [if_pos h0, if_pos h0]
   have c1 : Pt 38 [] [.st 2 [.str (strOf b), .int .i64 0], .int .u64 1000] [] (.tup [.st 2 [.str (strOf (vS b)), .int .i64 0], .int .u64 (Br b : Nat)]) := c1
   rw [h0] at c1
   have e : vlE (vS b) (vS b).length (Br b) (EZ b) = if 0 < (vS b).length then 3 else 0 := by
    unfold EZ
    rw [h0]
    unfold vlE vlF
    dsimp only
    rw [if_neg (by simp)]
    by_cases hz : 0 < (vS b).length
    ·rw [if_pos ⟨rfl, hz⟩, if_pos hz]
    ·rw [if_neg (fun x => hz x.2), if_neg hz]
     have : (vS b).length = 0 := by omega
     rw [this]
     rfl
   rw [e]
   by_cases hz : 0 < (vS b).length
   ·rw [if_pos hz]
    exact UW (by omega) (by omega) c1
   ·rw [if_neg hz]
    exact W_rvInZ (by omega) c1
  ·rw [if_neg h0, if_neg h0]
   have c2 := Tj (nl := false) (n := (vS b).length) rfl hbs (by omega)
   have e : bytesOf (strOf (vS b)) = vS b := Bb hbs
   refine W_rvIn (a := strOf (vS b)) (by omega) hcl (by omega) c1 ?_ (W_rv0 (by omega) hcl (by omega))
   rw [e, hsz]
   exact c2
 ·have h' : K9 b ≠ 0 := h
  have h0 : Br b = 0 := by
   show (Rd.mk b 0).vn 1000 = 0
   unfold Rd.vn
   rw [if_neg h]
  rw [if_pos h', if_pos h0, if_pos h0]
  exact W_rvInE h hE c1
end Go.Proofs
namespace Go.Proofs
open Go Go.Pe Go.Pm
set_option maxRecDepth 100000
attribute [local irreducible] lv
theorem OZ {l : List Int} {n lim : Nat} : ∀ (k a s : Nat) (o : List Int), (vlF l n lim k a s o).2.2 = 0 → o.Pairwise (· ≤ ·) → (∀ x ∈ o, 0 ≤ x ∧ x ≤ (s : Int)) → s < lim →
  (vlF l n lim k a s o).1.length = o.length + k ∧ (vlF l n lim k a s o).1.Pairwise (· ≤ ·) ∧ (∀ x ∈ (vlF l n lim k a s o).1, 0 ≤ x ∧ x < (lim : Int))
 | 0, a, s, o, h, hp, hs, hl => ⟨rfl, hp, fun x hx => by have := hs x hx; omega⟩
 | k + 1, a, s, o, h, hp, hs, hl => by
  unfold vlF at h ⊢
  split at h
  ·rename_i he; exact absurd h he
  ·rename_i he
   rw [if_neg he]
   split at h
   ·cases h
   ·rename_i hlim
    rw [if_neg hlim]
    obtain ⟨a1, a2, a3⟩ := OZ k (gA l n a) (s + gV l n a) (o ++ [((s + gV l n a : Nat) : Int)]) h
     (List.pairwise_append.2 ⟨hp, List.pairwise_singleton _ _, fun x hx y hy => by rw [List.mem_singleton] at hy; subst hy; have := hs x hx; omega⟩)
     (fun x hx => by
      rcases List.mem_append.1 hx with hx | hx
      ·have := hs x hx; omega
      ·rw [List.mem_singleton] at hx; subst hx; omega) (by omega)
    refine ⟨?_, a2, a3⟩
    rw [a1, List.length_append]
    simp only [List.length_singleton]
    omega
theorem LG {b : List Int} (h0 : Br b ≠ 0) (h : vE b = 0) : (EZ b).1.length = Br b ∧ (EZ b).1.Pairwise (· ≤ ·) ∧ (∀ x ∈ (EZ b).1, 0 ≤ x ∧ x < ((Br b * 784931 : Nat) : Int)) := by
 have hr : (EZ b).2.2 = 0 := by
  unfold vE at h
  split at h
  ·rename_i he; exact absurd h he
  ·unfold vlE at h
   split at h
   ·rename_i he; exact absurd h he
   ·rename_i he; exact Classical.not_not.1 he
 have := OZ (l := vS b) (n := (vS b).length) (lim := Br b * 784931) (Br b) 0 0 [] hr List.Pairwise.nil (fun x hx => by cases hx) (by omega)
 rw [List.length_nil, Nat.zero_add] at this
 exact this
theorem Uk (b : List Int) : vE b ≤ 100 := by
 have hE : K9 b ≤ 100 := by
  unfold K9 Rd.ve
  split
  ·split
   ·omega
   ·split
    ·omega
    ·split <;> omega
  ·exact Nat.zero_le 100
 unfold vE
 split
 ·exact hE
 ·have hr : ∀ k a s o, (vlF (vS b) (vS b).length (Br b * 784931) k a s o).2.2 ≤ 100 := fun k => by
   induction k with
   | zero => intro a s o; exact Nat.zero_le _
   | succ k ih =>
    intro a s o
    unfold vlF
    split
    ·have := NZ (l := vS b) (n := (vS b).length) (a := a); show gE _ _ _ ≤ 100; omega
    ·split
     ·show 5 ≤ 100; omega
     ·exact ih _ _ _
  unfold vlE
  split
  ·exact hr _ _ _ _
  ·split
   ·omega
   ·split <;> omega
end Go.Proofs
namespace Go.Proofs
open Go Go.Pe Go.Pm
set_option maxRecDepth 100000
attribute [local irreducible] lv
def Bv (h : It → Bool) : Nat → List It → List Int → List Int
 | _, [], A => A
 | i, u :: l, A => Bv h (i + 1) l (if h u = true then A ++ [(i : Int)] else A)
theorem Gh (h : It → Bool) : ∀ (l : List It) (i : Nat) (A : List Int), Bv h i l A = A ++ Bv h i l []
 | [], i, A => (List.append_nil A).symm
 | u :: l, i, A => by
  unfold Bv
  rw [Gh h l (i + 1) (if h u = true then A ++ [(i : Int)] else A), Gh h l (i + 1) (if h u = true then [] ++ [(i : Int)] else [])]
  split
  ·rw [List.append_assoc, List.nil_append]
  ·rfl
theorem QE (h : It → Bool) : ∀ (l : List It) (i : Nat), ∀ x ∈ Bv h i l [], ∃ j : Nat, x = (j : Int) ∧ i ≤ j
 | [], i, x, hx => by cases hx
 | u :: l, i, x, hx => by
  unfold Bv at hx
  rw [Gh] at hx
  rcases List.mem_append.1 hx with hx | hx
  ·split at hx
   ·rw [List.nil_append, List.mem_singleton] at hx; exact ⟨i, hx, Nat.le_refl _⟩
   ·cases hx
  ·obtain ⟨j, e, hj⟩ := QE h l (i + 1) x hx
   exact ⟨j, e, by omega⟩
theorem N7 (h : It → Bool) : ∀ (l : List It) (i : Nat) (A : List Int), (Bv h i l A).length ≤ A.length + l.length
 | [], i, A => by unfold Bv; omega
 | u :: l, i, A => by
  unfold Bv
  have := N7 h l (i + 1) (if h u = true then A ++ [(i : Int)] else A)
  rw [List.length_cons]
  split at this
  ·rename_i hh; rw [if_pos hh]; rw [List.length_append, List.length_singleton] at this; omega
  ·rename_i hh; rw [if_neg hh]; omega
theorem Hf {h g : It → Bool} : ∀ (l : List It) (i : Nat) (A : List Int), (∀ x ∈ l, h x = g x) → Bv h i l A = Bv g i l A
 | [], i, A, _ => rfl
 | u :: l, i, A, e => by
  unfold Bv
  rw [e u (by simp), Hf l _ _ fun x hx => e x (by simp [hx])]
theorem Gp {h : It → Bool} : ∀ (l : List It) (i : Nat), (∀ x ∈ l, h x = false) → Bv h i l [] = []
 | [], i, _ => rfl
 | u :: l, i, e => by
  unfold Bv
  rw [e u (by simp), if_neg (by simp)]
  exact Gp l _ fun x hx => e x (by simp [hx])
theorem Od {h : It → Bool} : ∀ (l : List It) (i : Nat), Bv h i l [] = [] → ∀ x ∈ l, h x = false
 | [], i, _ => fun x hx => by cases hx
 | u :: l, i, e => by
  unfold Bv at e
  rw [Gh] at e
  obtain ⟨e1, e2⟩ := List.append_eq_nil_iff.1 e
  have hu : h u = false := by
   cases hh : h u with
   | false => rfl
   | true => rw [hh, if_pos rfl] at e1; cases e1
  intro x hx
  rcases List.mem_cons.1 hx with rfl | hx
  ·exact hu
  ·exact Od l _ e2 x hx
theorem UB {k0 k1 c : Nat} {L : List Int} : ∀ (l : List It) (i : Nat) (A : List Int), Ic k0 k1 c L i l A = Bv (M8 k0 k1 c L) i l A
 | [], i, A => rfl
 | u :: l, i, A => by unfold Ic Bv; exact UB l _ _
def FL (k0 k1 c : Nat) (L : List Int) (u : It) : Bool := L.any fun y => decide (y = (CL k0 k1 (c * 784931) u : Int))
theorem hit_eq {k0 k1 c : Nat} {L : List Int} (hL : L.length = c) (hp : L.Pairwise (· ≤ ·)) (u : It) : M8 k0 k1 c L u = FL k0 k1 c L u := by
 have hp2 : L.Pairwise (fun x y => decide (x ≤ y) = true) := hp.imp fun h => decide_eq_true h
 unfold M8 FL
 subst hL
 rw [Bool.eq_iff_iff, decide_eq_true_iff, List.any_eq_true]
 constructor
 ·rintro ⟨h1, h2⟩
  refine ⟨_, ?_, decide_eq_true h2⟩
  rw [List.getD_eq_getElem?_getD, List.getElem?_eq_getElem h1]
  exact List.getElem_mem h1
 ·rintro ⟨y, hy, e⟩
  have e := of_decide_eq_true e
  rw [← e]
  exact SB hp2 hy
structure LOk (c : Nat) (L : List Int) : Prop where
 len : L.length = c
 b : ∀ x ∈ L, 0 ≤ x ∧ x < ((c * 784931 : Nat) : Int)
theorem LOk.at {c : Nat} {L : List Int} (h : LOk c L) (hc : c ≤ 1000) {j : Nat} (hj : j < c) : ∃ y : Nat, L.getD j 0 = (y : Int) ∧ y < 18446744073709551616 := by
 have hm : L.getD j 0 ∈ L := by
  have hj2 : j < L.length := by rw [h.len]; exact hj
  rw [List.getD_eq_getElem?_getD, List.getElem?_eq_getElem hj2]; exact List.getElem_mem hj2
 have := h.b _ hm
 exact ⟨(L.getD j 0).toNat, by omega, by omega⟩
theorem Ld {k0 k1 c : Nat} {L : List Int} {u : It} {j : Nat} (hj : j < L.length) : ((L.drop j).any fun y => decide (y = (CL k0 k1 (c * 784931) u : Int))) = (decide (L.getD j 0 = (CL k0 k1 (c * 784931) u : Int)) || (L.drop (j + 1)).any fun y => decide (y = (CL k0 k1 (c * 784931) u : Int))) := by
 rw [dropI hj]; rfl
theorem MZ {nv nt : Bool} {k0 k1 n i c : Nat} {L : Liz} {T : Lpz} {u : It} {hout : Lrz} {res : PV} (hk : Keys k0 k1) (hn : n ≤ 1000000) (hc : c ≤ 1000) (hL : LOk c L) (hu : BQ u) (hul : u.2.length ≤ 900000)
  (hw : Wt Try.f18 [] hout res (Aa Try.f18 1) (EC nv nt k0 k1 n i c L T (strOf u.2) (FL k0 k1 c L u) c)) : ∀ (r j : Nat) (t : Bool), j + r = c → (t || (L.drop j).any fun y => decide (y = (CL k0 k1 (c * 784931) u : Int))) = FL k0 k1 c L u →
  Wt Try.f18 [] hout res (Aa Try.f18 1) (EC nv nt k0 k1 n i c L T (strOf u.2) t j)
 | 0, j, t, h, e => by
  obtain rfl : j = c := by omega
  rw [List.drop_of_length_le (by rw [hL.len]; omega)] at e
  have e : t = FL k0 k1 j L u := by rw [← e]; simp
  rw [e]; exact hw
 | r + 1, j, t, h, e => by
  have hjl : j < L.length := by rw [hL.len]; omega
  have cn := JE (n := c) hk hu hul (by omega)
  have hx : CL k0 k1 (c * 784931) u < 18446744073709551616 := by
   have := Mx (u := u) hk.a hk.b hu.b (t := c * 784931) (by omega); omega
  rw [Ld hjl, ← Bool.or_assoc] at e
  obtain ⟨y, hy, hyl⟩ := hL.at hc (j := j) (by omega)
  cases t with
  | true => rw [Bool.true_or] at e; exact W_rb0T hn hc (by omega) hL.len (MZ hk hn hc hL hu hul hw r (j + 1) true (by omega) e)
  | false =>
   rw [Bool.false_or] at e
   by_cases he : L.getD j 0 = (CL k0 k1 (c * 784931) u : Int)
   ·rw [decide_eq_true he] at e
    exact W_rb0Y hn hc (by omega) hL.len he hx cn (MZ hk hn hc hL hu hul hw r (j + 1) true (by omega) e)
   ·rw [decide_eq_false he] at e
    exact W_rb0N hn hc (by omega) hL.len hy (by rw [hy] at he; omega) hx hyl cn (MZ hk hn hc hL hu hul hw r (j + 1) false (by omega) e)
theorem MS {nv nt : Bool} {k0 k1 n i c m : Nat} {L F : Liz} {T : Lpz} {u : It} {hout : Lrz} {res : PV} (hk : Keys k0 k1) (hn : n ≤ 1000000) (hc : c ≤ 1000) (hL : LOk c L) (hu : BQ u) (hul : u.2.length ≤ 900000)
  (hw : Wt Try.f18 [] hout res (Aa Try.f18 1) (Hw nv nt k0 k1 n i c L T m F (strOf u.2) (FL k0 k1 c L u) c)) : ∀ (r j : Nat) (t : Bool), j + r = c → (t || (L.drop j).any fun y => decide (y = (CL k0 k1 (c * 784931) u : Int))) = FL k0 k1 c L u →
  Wt Try.f18 [] hout res (Aa Try.f18 1) (Hw nv nt k0 k1 n i c L T m F (strOf u.2) t j)
 | 0, j, t, h, e => by
  obtain rfl : j = c := by omega
  rw [List.drop_of_length_le (by rw [hL.len]; omega)] at e
  have e : t = FL k0 k1 j L u := by rw [← e]; simp
  rw [e]; exact hw
 | r + 1, j, t, h, e => by
  have hjl : j < L.length := by rw [hL.len]; omega
  have cn := JE (n := c) hk hu hul (by omega)
  have hx : CL k0 k1 (c * 784931) u < 18446744073709551616 := by
   have := Mx (u := u) hk.a hk.b hu.b (t := c * 784931) (by omega); omega
  rw [Ld hjl, ← Bool.or_assoc] at e
  obtain ⟨y, hy, hyl⟩ := hL.at hc (j := j) (by omega)
  cases t with
  | true => rw [Bool.true_or] at e; exact W_rb1T hn hc (by omega) hL.len (MS hk hn hc hL hu hul hw r (j + 1) true (by omega) e)
  | false =>
   rw [Bool.false_or] at e
   by_cases he : L.getD j 0 = (CL k0 k1 (c * 784931) u : Int)
   ·rw [decide_eq_true he] at e
    exact W_rb1Y hn hc (by omega) hL.len he hx cn (MS hk hn hc hL hu hul hw r (j + 1) true (by omega) e)
   ·rw [decide_eq_false he] at e
    exact W_rb1N hn hc (by omega) hL.len hy (by rw [hy] at he; omega) hx hyl cn (MS hk hn hc hL hu hul hw r (j + 1) false (by omega) e)
def rH (F : List Int) : List (Nat × Row) := if F = [] then [] else [(1, Oc F.length F)]
def rPA (F : List Int) : PV := if F = [] then Bq else .ref 1 [] 1 0 F.length
theorem Pw {nv nt : Bool} {k0 k1 c : Nat} {L : Liz} {I : List It} (hk : Keys k0 k1) (hn : I.length ≤ 1000000) (hc : c ≤ 1000) (hL : LOk c L) (ho : ∀ x ∈ I, BQ x ∧ x.2.length ≤ 900000) : ∀ (r i : Nat) (F : List Int), i + r = I.length → F ≠ [] → F.length ≤ i →
  Wt Try.f18 [] (rH (Bv (FL k0 k1 c L) i (I.drop i) F)) (rPA (Bv (FL k0 k1 c L) i (I.drop i) F)) (Aa Try.f18 0) (MP nv nt k0 k1 I.length i c L (I.map sv) F.length F)
 | 0, i, F, h, hF, hl => by
  obtain rfl : i = I.length := by omega
  rw [List.drop_length]
  unfold Bv rH rPA
  rw [if_neg hF, if_neg hF]
  exact W_ra1X
 | r + 1, i, F, h, hF, hl => by
  have hi : i < I.length := by omega
  have hm : I.getD i default ∈ I := by
   have : I.getD i default = I[i] := by simp [List.getD_eq_getElem?_getD, hi]
   rw [this]; exact List.getElem_mem hi
  obtain ⟨hu, hul⟩ := ho _ hm
  rw [drop_at hi]
  unfold Bv
  refine W_ra1S hn hc hi (Ue hi) (MS hk hn hc hL hu hul ?_ c 0 false (by omega) (by rw [Bool.false_or]; rfl))
  by_cases hh : FL k0 k1 c L (I.getD i default) = true
  ·rw [if_pos hh, hh]
   have ih := Pw (nv := nv) (nt := nt) hk hn hc hL ho r (i + 1) (F ++ [(i : Int)]) (by omega) (by simp) (by rw [List.length_append, List.length_singleton]; omega)
   rw [List.length_append, List.length_singleton] at ih
   exact W_rb1A hn hc rfl (by omega) hi ih
  ·rw [if_neg hh, Bool.eq_false_iff.2 hh]
   exact W_rb1X hn hc hi (Pw hk hn hc hL ho r (i + 1) F (by omega) hF (by omega))
theorem S9 {nv nt : Bool} {k0 k1 c : Nat} {L : Liz} {I : List It} (hk : Keys k0 k1) (hn : I.length ≤ 1000000) (hc : c ≤ 1000) (hL : LOk c L) (ho : ∀ x ∈ I, BQ x ∧ x.2.length ≤ 900000) : ∀ (r i : Nat), i + r = I.length →
  Wt Try.f18 [] (rH (Bv (FL k0 k1 c L) i (I.drop i) [])) (rPA (Bv (FL k0 k1 c L) i (I.drop i) [])) (Aa Try.f18 0) (La nv nt k0 k1 I.length i c L (I.map sv))
 | 0, i, h => by
  obtain rfl : i = I.length := by omega
  rw [List.drop_length]
  unfold Bv rH rPA
  rw [if_pos rfl, if_pos rfl]
  exact W_ra0X
 | r + 1, i, h => by
  have hi : i < I.length := by omega
  have hm : I.getD i default ∈ I := by
   have : I.getD i default = I[i] := by simp [List.getD_eq_getElem?_getD, hi]
   rw [this]; exact List.getElem_mem hi
  obtain ⟨hu, hul⟩ := ho _ hm
  rw [drop_at hi]
  unfold Bv
  refine W_ra0S hn hc hi (Ue hi) (MZ hk hn hc hL hu hul ?_ c 0 false (by omega) (by rw [Bool.false_or]; rfl))
  by_cases hh : FL k0 k1 c L (I.getD i default) = true
  ·rw [if_pos hh, hh, List.nil_append]
   exact W_rb0A hn hc hi (Pw hk hn hc hL ho r (i + 1) [(i : Int)] (by omega) (by simp) (by rw [List.length_singleton]; omega))
  ·rw [if_neg hh, Bool.eq_false_iff.2 hh]
   exact W_rb0X hn hc hi (S9 hk hn hc hL ho r (i + 1) (by omega))
theorem QZ {nv nt : Bool} {k0 k1 c : Nat} {L : Liz} {I : List It} (hk : Keys k0 k1) (hn : I.length ≤ 1000000) (hc : c ≤ 1000) (hL : LOk c L) (ho : ∀ x ∈ I, BQ x ∧ x.2.length ≤ 900000) :
  Pt 18 [] [.iarr .u64 2 [(k0 : Int), (k1 : Int)], .vec nv (.iarr .u64 c L), .vec nt (.parr 1 I.length .str (I.map sv))] (rH (Bv (FL k0 k1 c L) 0 I [])) (rPA (Bv (FL k0 k1 c L) 0 I [])) :=
 W_raIn hn (S9 hk hn hc hL ho I.length 0 (by omega))
def hM (k0 k1 : Nat) (b : List Int) (u : It) : Bool := !decide (Br b = 0) && M8 k0 k1 (Br b) (EZ b).1 u
theorem anyM_G (k0 k1 : Nat) (b : List Int) (I : List It) : anyM k0 k1 b I = Bv (hM k0 k1 b) 0 I [] := by
 unfold anyM
 split
 ·rename_i h
  exact (Gp I 0 fun x _ => by unfold hM; rw [decide_eq_true h]; rfl).symm
 ·rename_i h
  rw [UB]
  exact Hf I 0 [] fun x _ => by unfold hM; rw [decide_eq_false h]; rfl
theorem QO {nl nb : Bool} {k0 k1 m : Nat} {b : Liz} {I : List It} (hk : Keys k0 k1) (hn : I.length ≤ 100000) (ho : ∀ x ∈ I, BQ x) (hl : b.length = m) (hm : m ≤ 1000000) (hb : Bytes b) (hnl : nb = true → m = 0) (he : vE b = 0) :
  Pt 17 [] [.iarr .u64 2 [(k0 : Int), (k1 : Int)], .vec nb (.iarr .u8 m b), .vec nl (.parr 1 I.length ish (I.map itB))] (aH (Bv (hM k0 k1 b) 0 I [])) (aP (Bv (hM k0 k1 b) 0 I [])) := by
 rw [← anyM_G]
 by_cases h0 : Br b = 0
 ·have c1 := MX (nl := nb) hl hm hb hnl
  rw [if_pos h0, if_pos h0, he] at c1
  have e : anyM k0 k1 b I = [] := if_pos h0
  rw [e]
  unfold aH aP
  rw [if_pos rfl, if_pos rfl]
  exact Tp c1 (P6 hk hn ho I.length 0 (by omega))
 ·exact Tg hk hn ho hl hm hb hnl he (LG h0 he).1
theorem RB {nb : Bool} {k0 k1 m : Nat} {b : Liz} {x : It} (hk : Keys k0 k1) (hx : BQ x) (hl : b.length = m) (hm : m ≤ 1000000) (hb : Bytes b) (hnl : nb = true → m = 0) (he : vE b = 0) :
  Pt 16 [] [.iarr .u64 2 [(k0 : Int), (k1 : Int)], .vec nb (.iarr .u8 m b), .vec x.1 (.iarr .u8 x.2.length x.2)] [] (.tup [.bool (hM k0 k1 b x), .int .i64 0]) := by
 have c1 := QO (nl := false) (I := [x]) hk (by simp) (fun y hy => by rw [List.mem_singleton.1 hy]; exact hx) hl hm hb hnl he
 have e : Bv (hM k0 k1 b) 0 [x] [] = if hM k0 k1 b x = true then [((0 : Nat) : Int)] else [] := by
  unfold Bv Bv
  split <;> rfl
 rw [e] at c1
 by_cases h : hM k0 k1 b x = true
 ·rw [if_pos h] at c1
  rw [h]
  unfold aH aP at c1
  rw [if_neg (by simp), if_neg (by simp)] at c1
  exact W_mtY (by simp) rfl (by simp) c1
 ·rw [if_neg h] at c1
  rw [Bool.eq_false_iff.2 h]
  unfold aH aP at c1
  rw [if_pos rfl, if_pos rfl] at c1
  exact W_mtN (e := 0) (by omega) c1
theorem Nc {nl nb : Bool} {k0 k1 m : Nat} {I : List It} {q : Liz} (hn : I.length ≤ 20) (hm : ∀ x ∈ I, Pt 16 [] [.iarr .u64 2 [(k0 : Int), (k1 : Int)], .vec nb (.iarr .u8 m q), .vec x.1 (.iarr .u8 x.2.length x.2)] [] (.tup [.bool false, .int .i64 0])) : ∀ (r i : Nat), i + r = I.length →
  Wt Try.f6 [] [] (.bool true) (Aa Try.f6 0) (Fe nl nb k0 k1 I.length m i (I.map itB) q)
 | 0, i, h => by
  obtain rfl : i = I.length := by omega
  exact W_ga0X Ir
 | r + 1, i, h => by
  have hi : i < I.length := by omega
  have hmem : I.getD i default ∈ I := by
   have : I.getD i default = I[i] := by simp [List.getD_eq_getElem?_getD, hi]
   rw [this]; exact List.getElem_mem hi
  exact W_ga0 hi hn (Bw hi) (hm _ hmem) (Nc hn hm r (i + 1) (by omega))
theorem PZ {nl nb : Bool} {k0 k1 m : Nat} {I : List It} {q F : Liz} {h : It → Bool} (hn : I.length ≤ 20) (hF : F.length ≤ 1000) (hm : ∀ x ∈ I, Pt 16 [] [.iarr .u64 2 [(k0 : Int), (k1 : Int)], .vec nb (.iarr .u8 m q), .vec x.1 (.iarr .u8 x.2.length x.2)] [] (.tup [.bool (h x), .int .i64 0])) : ∀ (r i : Nat) (A : List Int), i + r = I.length → F = A ++ Bv h i (I.drop i) [] →
  Wt Try.f6 [] [] (.bool true) (Aa Try.f6 0) (Je nl nb k0 k1 I.length m i (I.map itB) q F.length A.length F)
 | 0, i, A, h', e => by
  obtain rfl : i = I.length := by omega
  exact W_ga1X Ir
 | r + 1, i, A, h', e => by
  have hi : i < I.length := by omega
  have hmem : I.getD i default ∈ I := by
   have : I.getD i default = I[i] := by simp [List.getD_eq_getElem?_getD, hi]
   rw [this]; exact List.getElem_mem hi
  have c := hm _ hmem
  rw [drop_at hi] at e
  unfold Bv at e
  rw [Gh] at e
  by_cases hh : h (I.getD i default) = true
  ·rw [if_pos hh, List.nil_append] at e
   rw [hh] at c
   have hl : A.length < F.length := by rw [e]; simp
   have hg : F.getD A.length 0 = (i : Int) := by rw [e, List.getD_eq_getElem?_getD, List.getElem?_append_right (Nat.le_refl _), Nat.sub_self]; rfl
   have ih := PZ (nl := nl) hn hF hm r (i + 1) (A ++ [(i : Int)]) (by omega) (by rw [List.append_assoc]; exact e)
   rw [List.length_append, List.length_singleton] at ih
   exact W_ga1Y hi hn (Bw hi) hF rfl hl hg c ih
  ·rw [if_neg hh, List.nil_append] at e
   rw [Bool.eq_false_iff.2 hh] at c
   have ih := PZ (nl := nl) hn hF hm r (i + 1) A (by omega) e
   have hge := QE h (I.drop (i + 1)) (i + 1)
   cases hR : Bv h (i + 1) (I.drop (i + 1)) [] with
   | nil =>
    rw [hR, List.append_nil] at e
    rw [← e] at ih ⊢
    exact W_ga1E hi hn (Bw hi) hF rfl c ih
   | cons x R =>
    obtain ⟨j, hj, hji⟩ := hge x (by rw [hR]; simp)
    rw [hR] at e
    have hl : A.length < F.length := by rw [e]; simp
    have hg : F.getD A.length 0 = (j : Int) := by rw [e, List.getD_eq_getElem?_getD, List.getElem?_append_right (Nat.le_refl _), Nat.sub_self, hj]; rfl
    exact W_ga1N hi hn (Bw hi) hF rfl hl hg (by omega) c ih
theorem pc_gcsAny {nl nb : Bool} {k0 k1 m : Nat} {b : Liz} {I : List It} (hk : Keys k0 k1) (ho : ∀ x ∈ I, ItW x) (hl : b.length = m) (hb : Bytes b) (hnl : nb = true → m = 0) :
  Pt 6 [] [.iarr .u64 2 [(k0 : Int), (k1 : Int)], .vec nb (.iarr .u8 m b), .vec nl (.parr 1 I.length ish (I.map itB))] [] (.bool true) := by
 have cs := Sw (nl := nl) (I := I)
 cases hs : Kj I with
 | false => rw [hs] at cs; exact W_gaF cs Ir
 | true =>
  rw [hs] at cs
  by_cases hm : 100 < m
  ·exact W_gaB cs Ir hm
  ·obtain ⟨h1, h2⟩ := Sa hs
   have hOk := it_ok ho h2
   have hm' : m ≤ 100 := by omega
   have cv := MX (nl := nb) hl (by omega) hb hnl
   have cr := Sz (b := b) (by omega) hb
   by_cases he : vE b = 0
   ·have ca := QO (nl := nl) (nb := nb) hk (by omega) hOk hl (by omega) hb hnl he
    have cm : ∀ x ∈ I, Pt 16 [] [.iarr .u64 2 [(k0 : Int), (k1 : Int)], .vec nb (.iarr .u8 m b), .vec x.1 (.iarr .u8 x.2.length x.2)] [] (.tup [.bool (hM k0 k1 b x), .int .i64 0]) := fun x hx => RB hk (hOk x hx) hl (by omega) hb hnl he
    have hO2 : ∀ x ∈ I, BQ x ∧ x.2.length ≤ 900000 := fun x hx => ⟨hOk x hx, by have := h2 x hx; omega⟩
    by_cases h0 : Br b = 0
    ·have hf : ∀ x ∈ I, hM k0 k1 b x = false := fun x _ => by unfold hM; rw [decide_eq_true h0]; rfl
     rw [Gp I 0 hf] at ca
     rw [if_pos h0, if_pos h0, he] at cr
     have c4 := fun nt => QZ (nv := true) (nt := nt) (c := 0) (L := []) hk (by omega) (by omega) ⟨rfl, fun x hx => by cases hx⟩ hO2
     have e4 : Bv (FL k0 k1 0 []) 0 I [] = [] := Gp I 0 fun x _ => rfl
     rw [e4] at c4
     have hw := Nc (nl := nl) h1 (fun x hx => by have := cm x hx; rwa [hf x hx] at this) I.length 0 (by omega)
     by_cases hz : I.length = 0
     ·obtain rfl := List.eq_nil_of_length_eq_zero hz
      exact W_gaVT0 hm' hl hb h1 cs ca cr Ls (c4 true) hw
     ·exact W_gaV0 hm' hl hb h1 cs ca cr (List.length_map _) (Ot (by omega) (by omega) hOk) (c4 false) hw
    ·rw [if_neg h0, if_neg h0] at cr
     unfold vH vP at cr
     rw [if_pos he, if_pos he] at cr
     obtain ⟨s1, s2, s3⟩ := LG h0 he
     have hc : Br b ≤ 1000 := Rd.Qy _ _
     have c4 := fun nt => QZ (nv := false) (nt := nt) (c := Br b) (L := (EZ b).1) hk (by omega) hc ⟨s1, s3⟩ hO2
     have e4 : Bv (FL k0 k1 (Br b) (EZ b).1) 0 I [] = Bv (hM k0 k1 b) 0 I [] := Hf I 0 [] fun x _ => by
      unfold hM
      rw [decide_eq_false h0, ← hit_eq s1 s2]; rfl
     rw [e4] at c4
     by_cases hz : I.length = 0
     ·obtain rfl := List.eq_nil_of_length_eq_zero hz
      exact W_gaT0 hm' hl hb h1 cs ca s1 hc cr Ls (c4 true) (Nc h1 (fun x hx => by cases hx) 0 0 rfl)
     ·have ct := Ot (nl := nl) (I := I) (by omega) (by omega) hOk
      by_cases hF : Bv (hM k0 k1 b) 0 I [] = []
      ·have hf : ∀ x ∈ I, hM k0 k1 b x = false := Od I 0 hF
       rw [hF] at ca c4
       exact W_gaI0 hm' hl hb h1 cs ca s1 hc cr (List.length_map _) ct (c4 false) (Nc (nl := nl) h1 (fun x hx => by have := cm x hx; rwa [hf x hx] at this) I.length 0 (by omega))
      ·have hFl := N7 (hM k0 k1 b) I 0 []
       rw [List.length_nil] at hFl
       have hw := PZ (nl := nl) (F := Bv (hM k0 k1 b) 0 I []) h1 (by omega) cm I.length 0 [] (by omega) rfl
       unfold aH aP at ca
       rw [if_neg hF, if_neg hF] at ca
       have c4' := c4 false
       unfold rH rPA at c4'
       rw [if_neg hF, if_neg hF] at c4'
       exact W_gaI1 hm' hl hb h1 cs rfl (by omega) ca s1 hc cr (List.length_map _) ct c4' hw
   ·have hE := Uk b
    have cv' : Pt 14 [] [.vec nb (.iarr .u8 m b)] [] (.tup [AV, .int .i64 (vE b)]) := by
     by_cases h0 : Br b = 0
     ·rw [if_pos h0, if_pos h0] at cv; exact cv
     ·rw [if_neg h0, if_neg h0] at cv
      unfold vH vP at cv
      rw [if_neg he, if_neg he] at cv; exact cv
    have cr' : Pt 15 [] [.str (strOf b)] [] (.tup [AV, .int .i64 (vE b)]) := by
     by_cases h0 : Br b = 0
     ·rw [if_pos h0, if_pos h0] at cr; exact cr
     ·rw [if_neg h0, if_neg h0] at cr
      unfold vH vP at cr
      rw [if_neg he, if_neg he] at cr; exact cr
    exact W_gaE (by omega) hE hm' hl hb h1 cs Ir (QS (by omega) (by omega) cv') cr' (W_mtN (by omega) (QS (nl := false) (n := 1) (by omega) (by omega) cv'))
end Go.Proofs
