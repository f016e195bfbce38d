/- Merged texts: the pure machine and what the walks show. Conditions: as each statement says. -/
import Derived.Test.YtjclbapcmepnpaaGreatDoorQ4
namespace Go.Proofs
open Go Go.Pe Go.Pm
set_option maxRecDepth 100000
set_option linter.unusedVariables false
set_option maxHeartbeats 4000000 in
theorem W_sb {v0 : V8} {b S : Liz} {res : Liz} (hv0 : v0.Ok) (hS : Hr b S) (hres : (DW v0 (rounds kS S 64 0 v0)).l = res) : ∀ (k t : Nat) (w : List Int), t + k = 64 → 16 ≤ t → w = S.take t →
  Wt Tryz.f125 [] [] (.iarr .u32 8 res) (Af Tryz.f125 1) (dsSB v0.l w t)
 | 0, t, w, hk, h16, hw => by
  have ht : t = 64 := by omega
  subst ht
  have hwl : w.length = 64 := by rw [hw, List.length_take, hS.len]; rfl
  have e : w = S := by rw [hw]; exact List.take_of_length_le (by rw [hS.len]; omega)
  have c1 := pc_rK
  obtain ⟨a, b', c, d, e', f, g, h⟩ := v0
  have hx := W_sc (v0 := ⟨a, b', c, d, e', f, g, h⟩) hv0 hS.w32 hS.len 64 0 a b' c d e' f g h rfl hv0
  rw [hres, ← e] at hx
  unfold V8.l at hx ⊢
  dsimp only at hx ⊢
  refine W.sgA 2 [(0, aV (I6 64)), (2, c9 c1)] [(1, 1), (2, 2), (3, 3), (112, 5), (160, 4)] (dsSC [(a : Int), (b' : Int), (c : Int), (d : Int), (e' : Int), (f : Int), (g : Int), (h : Int)] w a b' c d e' f g h 0) [I6 ↑(64 : Nat) = I6 64, _] (ac (cg (by omega)) (ao (c1))) ?_
  exact hx
 | k + 1, t, w, hk, h16, hw => by
  have hwl : w.length = t := by rw [hw, List.length_take, hS.len]; omega
  have hs := CY (s := S) (i := t) (by rw [hS.len]; omega)
  rw [hS.hi t h16 (by omega), ← hw] at hs
  obtain ⟨e16, h16'⟩ := hS.w32.get (t - 16)
  obtain ⟨e15, h15⟩ := hS.w32.get (t - 15)
  obtain ⟨e7, h7⟩ := hS.w32.get (t - 7)
  obtain ⟨e2, h2⟩ := hS.w32.get (t - 2)
  rw [← Xm (i := t) (by omega), ← hw] at e16 e15 e7 e2
  unfold NG at hs
  have hnx := W_sb hv0 hS hres k (t + 1) _ (by omega) (by omega) hs
  have i16 : (t : Int) - 16 = ((t - 16 : Nat) : Int) := by omega
  have i15 : (t : Int) - 15 = ((t - 15 : Nat) : Int) := by omega
  have i7 : (t : Int) - 7 = ((t - 7 : Nat) : Int) := by omega
  have i2 : (t : Int) - 2 = ((t - 2 : Nat) : Int) := by omega
  have k16 : t - 16 < t := by omega
  have k15 : t - 15 < t := by omega
  have k7 : t - 7 < t := by omega
  have k2 : t - 2 < t := by omega
  generalize t - 16 = j16 at *
  generalize t - 15 = j15 at *
  generalize t - 7 = j7 at *
  generalize t - 2 = j2 at *
  generalize at0 S j16 = a at *
  generalize at0 S j15 = x at *
  generalize at0 S j7 = c at *
  generalize at0 S j2 = y at *
  unfold sg0 sg1 at hnx
  have c1 := Cs (k := 7) h15 (by omega)
  have c2 := Cs (k := 18) h15 (by omega)
  have c3 := Cs (k := 17) h2 (by omega)
  have c4 := Cs (k := 19) h2 (by omega)
  have l1 := BM (k := 7) h15
  have l2 := BM (k := 18) h15
  have l3 := BM (k := 17) h2
  have l4 := BM (k := 19) h2
  generalize rot x 7 = r7 at *
  generalize rot x 18 = r18 at *
  generalize rot y 17 = r17 at *
  generalize rot y 19 = r19 at *
  have m1 : r7 ^^^ r18 < 4294967296 := Nat.xor_lt_two_pow (n := 32) l1 l2
  have m2 : r17 ^^^ r19 < 4294967296 := Nat.xor_lt_two_pow (n := 32) l3 l4
  have m3 : r7 ^^^ r18 ^^^ x / 8 < 4294967296 := Nat.xor_lt_two_pow (n := 32) m1 (by omega)
  have m4 : r17 ^^^ r19 ^^^ y / 1024 < 4294967296 := Nat.xor_lt_two_pow (n := 32) m2 (by omega)
  generalize v0.l = v0l at *
  refine W.sgA 1 [(1, aT), (4, aV (I6 j15)), (5, aV (PV.at 3 [Stp.idx j15 1])), (6, aV (U3 x)), (9, aV (I6 j2)), (10, aV (PV.at 3 [Stp.idx j2 1])), (11, aV (U3 y)), (17, aV (I6 j16)), (18, aV (PV.at 3 [Stp.idx j16 1])), (19, aV (U3 a)), (21, c9 c1), (23, c9 c2), (24, aV (U3 ↑(r7 ^^^ r18))), (26, aV (U3 ↑(x / 8))), (27, aV (U3 ↑(r7 ^^^ r18 ^^^ x / 8))), (28, aV (U3 ↑((a + (r7 ^^^ r18 ^^^ x / 8)) % 4294967296))), (31, aV (I6 j7)), (32, aV (PV.at 3 [Stp.idx j7 1])), (33, aV (U3 c)), (34, aV (U3 ↑(((a + (r7 ^^^ r18 ^^^ x / 8)) % 4294967296 + c) % 4294967296))), (36, c9 c3), (38, c9 c4), (39, aV (U3 ↑(r17 ^^^ r19))), (41, aV (U3 ↑(y / 1024))), (42, aV (U3 ↑(r17 ^^^ r19 ^^^ y / 1024))), (43, aV (U3 ↑((((a + (r7 ^^^ r18 ^^^ x / 8)) % 4294967296 + c) % 4294967296 + (r17 ^^^ r19 ^^^ y / 1024)) % 4294967296))), (45, Ans.ups [(3, none), (784, some (Row.mk (B3 (t + 1) (w ++ [(↑((((a + (r7 ^^^ r18 ^^^ x / 8)) % 4294967296 + c) % 4294967296 + (r17 ^^^ r19 ^^^ y / 1024)) % 4294967296) : Int)])) false))]), (48, aV (I6 ↑(t + 1)))] [(1, 1), (2, 2), (784, 3)] (dsSB v0l (w ++ [((((((a + (r7 ^^^ r18 ^^^ x / 8)) % 4294967296 + c) % 4294967296 + (r17 ^^^ r19 ^^^ y / 1024)) % 4294967296 : Nat)) : Int)]) (t + 1)) [decide ((t:Int) < 64) = true, I6 (IntKind.wrap .i64 ((t:Int) - 15)) = I6 j15, PV.at 3 [Stp.idx (0 + j15) 1] = PV.at 3 [Stp.idx j15 1], 0 ≤ (j15:Int), (j15:Int) < (t:Int), U3 (List.getD w j15 (0 : Int)) = U3 x, j15 < t, I6 (IntKind.wrap .i64 ((t:Int) - 2)) = I6 j2, PV.at 3 [Stp.idx (0 + j2) 1] = PV.at 3 [Stp.idx j2 1], 0 ≤ (j2:Int), (j2:Int) < (t:Int), U3 (List.getD w j2 (0 : Int)) = U3 y, j2 < t, I6 (IntKind.wrap .i64 ((t:Int) - 16)) = I6 j16, PV.at 3 [Stp.idx (0 + j16) 1] = PV.at 3 [Stp.idx j16 1], 0 ≤ (j16:Int), (j16:Int) < (t:Int), U3 (List.getD w j16 (0 : Int)) = U3 a, j16 < t, _, _, U3 (bits BinOp.xor .u32 (r7:Int) (r18:Int)) = U3 ↑(r7 ^^^ r18), U3 (IntKind.wrap .u32 (Int.tdiv (x:Int) (8 : Int))) = U3 ↑(x / 8), (8 : Int) ≠ 0, U3 (bits BinOp.xor .u32 (↑(r7 ^^^ r18) : Int) (↑(x / 8) : Int)) = U3 ↑(r7 ^^^ r18 ^^^ x / 8), U3 (IntKind.wrap .u32 ((a:Int) + (↑(r7 ^^^ r18 ^^^ x / 8) : Int))) = U3 ↑((a + (r7 ^^^ r18 ^^^ x / 8)) % 4294967296), I6 (IntKind.wrap .i64 ((t:Int) - 7)) = I6 j7, PV.at 3 [Stp.idx (0 + j7) 1] = PV.at 3 [Stp.idx j7 1], 0 ≤ (j7:Int), (j7:Int) < (t:Int), U3 (List.getD w j7 (0 : Int)) = U3 c, j7 < t, U3 (IntKind.wrap .u32 ((↑((a + (r7 ^^^ r18 ^^^ x / 8)) % 4294967296) : Int) + (c:Int))) = U3 ↑(((a + (r7 ^^^ r18 ^^^ x / 8)) % 4294967296 + c) % 4294967296), _, _, U3 (bits BinOp.xor .u32 (r17:Int) (r19:Int)) = U3 ↑(r17 ^^^ r19), U3 (IntKind.wrap .u32 (Int.tdiv (y:Int) (1024 : Int))) = U3 ↑(y / 1024), (1024 : Int) ≠ 0, U3 (bits BinOp.xor .u32 (↑(r17 ^^^ r19) : Int) (↑(y / 1024) : Int)) = U3 ↑(r17 ^^^ r19 ^^^ y / 1024), U3 (IntKind.wrap .u32 ((↑(((a + (r7 ^^^ r18 ^^^ x / 8)) % 4294967296 + c) % 4294967296) : Int) + (↑(r17 ^^^ r19 ^^^ y / 1024) : Int))) = U3 ↑((((a + (r7 ^^^ r18 ^^^ x / 8)) % 4294967296 + c) % 4294967296 + (r17 ^^^ r19 ^^^ y / 1024)) % 4294967296), ([(3, none), (784, some (Row.mk (B3 (t + 1) (List.take t w ++ [(↑((((a + (r7 ^^^ r18 ^^^ x / 8)) % 4294967296 + c) % 4294967296 + (r17 ^^^ r19 ^^^ y / 1024)) % 4294967296) : Int)])) false))] : List (Nat × Option Row)) = [(3, none), (784, some (Row.mk (B3 (t + 1) (w ++ [(↑((((a + (r7 ^^^ r18 ^^^ x / 8)) % 4294967296 + c) % 4294967296 + (r17 ^^^ r19 ^^^ y / 1024)) % 4294967296) : Int)])) false))], 1 ≤ 1, 0 + t = t, (t + 1) * 4 ≤ 140737488355328, t + 1 ≤ 9223372036854775807, I6 (IntKind.wrap .i64 ((t:Int) + 1)) = I6 ↑(t + 1)] (ac (dT (by omega)) (ac (cg (Ac i15 (by omega) (by omega))) (ac (by simp only [Nat.zero_add]) (ob2 (by omega) (ac (cg (e15)) (ac (by omega) (ac (cg (Ac i2 (by omega) (by omega))) (ac (by simp only [Nat.zero_add]) (ob2 (by omega) (ac (cg (e2)) (ac (by omega) (ac (cg (Ac i16 (by omega) (by omega))) (ac (by simp only [Nat.zero_add]) (ob2 (by omega) (ac (cg (e16)) (ac (by omega) (ac (c1) (ac (c2) (ac (cg (Ba rfl rfl (by omega) (by omega))) (ac (cg (AX rfl (by omega) (by omega))) (ac (by omega) (ac (cg (Ba rfl rfl (by omega) (by omega))) (ac (cg (BN rfl)) (ac (cg (Ac i7 (by omega) (by omega))) (ac (by simp only [Nat.zero_add]) (ob2 (by omega) (ac (cg (e7)) (ac (by omega) (ac (cg (BN rfl)) (ac (c3) (ac (c4) (ac (cg (Ba rfl rfl (by omega) (by omega))) (ac (cg (AX rfl (by omega) (by omega))) (ac (by omega) (ac (cg (Ba rfl rfl (by omega) (by omega))) (ac (cg (BN rfl)) (ac (by rw [List.take_of_length_le (show List.length w ≤ t by omega)]) (ac (by omega) (ac (by omega) (ob2 (by omega) (ao (wj (by omega))))))))))))))))))))))))))))))))))))))))))) ?_
  exact hnx
theorem VS (a b c d : Nat) : be4 a b c d = 16777216 * a + 65536 * b + 256 * c + d := by unfold be4; omega
set_option maxHeartbeats 4000000 in
theorem W_sa {v0 : V8} {nl : Bool} {b S : Liz} {res : Liz} (hv0 : v0.Ok) (hb : Bytes b) (hbl : b.length = 64) (hS : Hr b S) (hres : (DW v0 (rounds kS S 64 0 v0)).l = res) : ∀ (k t : Nat) (w : List Int), t + k = 16 → 0 < t → w = S.take t →
  Wt Tryz.f125 [] [] (.iarr .u32 8 res) (Af Tryz.f125 0) (dsSA v0.l nl b w t)
 | 0, t, w, hk, h0, hw => by
  have ht : t = 16 := by omega
  subst ht
  have hwl : w.length = 16 := by rw [hw, List.length_take, hS.len]; rfl
  have hx := W_sb hv0 hS hres 48 16 w rfl (by omega) hw
  generalize v0.l = v0l at *
  refine W.sgA 1 [(0, aV (I6 16))] (rI 3) (dsSB v0l w 16) [I6 ↑(16 : Nat) = I6 16] (ao (cg (by omega))) ?_
  exact hx
 | k + 1, t, w, hk, h0, hw => by
  have hwl : w.length = t := by rw [hw, List.length_take, hS.len]; omega
  have hs := CY (s := S) (i := t) (by rw [hS.len]; omega)
  rw [hS.lo t (by omega), ← hw] at hs
  unfold word at hs
  rw [VS] at hs
  obtain ⟨e0, g0⟩ := hb.get (4 * t)
  obtain ⟨e1, g1⟩ := hb.get (4 * t + 1)
  obtain ⟨e2, g2⟩ := hb.get (4 * t + 2)
  obtain ⟨e3, g3⟩ := hb.get (4 * t + 3)
  have hnx := W_sa (nl := nl) hv0 hb hbl hS hres k (t + 1) _ (by omega) (by omega) hs
  generalize at0 b (4 * t) = a at *
  generalize at0 b (4 * t + 1) = x at *
  generalize at0 b (4 * t + 2) = c at *
  generalize at0 b (4 * t + 3) = y at *
  generalize v0.l = v0l at *
  refine W.sgA 0 [(1, aT), (5, aV (I6 ↑(4 * t))), (6, aV (PV.cptr (B8 64 b) [Stp.idx (4 * t) 1])), (7, aV (U8 a)), (8, aV (U3 a)), (9, aV (U3 ↑(16777216 * a))), (12, aV (I6 ↑(4 * t))), (13, aV (I6 ↑(4 * t + 1))), (14, aV (PV.cptr (B8 64 b) [Stp.idx (4 * t + 1) 1])), (15, aV (U8 x)), (16, aV (U3 x)), (17, aV (U3 ↑(65536 * x))), (18, aV (U3 ↑(16777216 * a + 65536 * x))), (21, aV (I6 ↑(4 * t))), (22, aV (I6 ↑(4 * t + 2))), (23, aV (PV.cptr (B8 64 b) [Stp.idx (4 * t + 2) 1])), (24, aV (U8 c)), (25, aV (U3 c)), (26, aV (U3 ↑(256 * c))), (27, aV (U3 ↑(16777216 * a + 65536 * x + 256 * c))), (30, aV (I6 ↑(4 * t))), (31, aV (I6 ↑(4 * t + 3))), (32, aV (PV.cptr (B8 64 b) [Stp.idx (4 * t + 3) 1])), (33, aV (U8 y)), (34, aV (U3 y)), (35, aV (U3 ↑(16777216 * a + 65536 * x + 256 * c + y))), (37, Ans.ups [(3, none), (656, some (Row.mk (B3 (t + 1) (w ++ [(↑(16777216 * a + 65536 * x + 256 * c + y) : Int)])) false))]), (40, aV (I6 ↑(t + 1)))] [(1, 1), (2, 2), (656, 3)] (dsSA v0l nl b (w ++ [((16777216 * a + 65536 * x + 256 * c + y : Nat) : Int)]) (t + 1)) [decide ((t:Int) < 16) = true, I6 (IntKind.wrap .i64 (4 * (t:Int))) = I6 ↑(4 * t), PV.cptr (B8 64 b) [Stp.idx (Int.toNat (↑(4 * t) : Int)) 1] = PV.cptr (B8 64 b) [Stp.idx (4 * t) 1], 0 ≤ (↑(4 * t) : Int), (↑(4 * t) : Int) < (↑(64 : Nat) : Int), U8 (List.getD b (4 * t) (0 : Int)) = U8 a, 4 * t < 64, U3 (IntKind.wrap .u32 (a:Int)) = U3 a, U3 (IntKind.wrap .u32 ((a:Int) * (16777216 : Int))) = U3 ↑(16777216 * a), I6 (IntKind.wrap .i64 (4 * (t:Int))) = I6 ↑(4 * t), I6 (IntKind.wrap .i64 ((↑(4 * t) : Int) + 1)) = I6 ↑(4 * t + 1), PV.cptr (B8 64 b) [Stp.idx (Int.toNat (↑(4 * t + 1) : Int)) 1] = PV.cptr (B8 64 b) [Stp.idx (4 * t + 1) 1], 0 ≤ (↑(4 * t + 1) : Int), (↑(4 * t + 1) : Int) < (↑(64 : Nat) : Int), U8 (List.getD b (4 * t + 1) (0 : Int)) = U8 x, 4 * t + 1 < 64, U3 (IntKind.wrap .u32 (x:Int)) = U3 x, U3 (IntKind.wrap .u32 ((x:Int) * (65536 : Int))) = U3 ↑(65536 * x), U3 (IntKind.wrap .u32 ((↑(16777216 * a) : Int) + (↑(65536 * x) : Int))) = U3 ↑(16777216 * a + 65536 * x), I6 (IntKind.wrap .i64 (4 * (t:Int))) = I6 ↑(4 * t), I6 (IntKind.wrap .i64 ((↑(4 * t) : Int) + 2)) = I6 ↑(4 * t + 2), PV.cptr (B8 64 b) [Stp.idx (Int.toNat (↑(4 * t + 2) : Int)) 1] = PV.cptr (B8 64 b) [Stp.idx (4 * t + 2) 1], 0 ≤ (↑(4 * t + 2) : Int), (↑(4 * t + 2) : Int) < (↑(64 : Nat) : Int), U8 (List.getD b (4 * t + 2) (0 : Int)) = U8 c, 4 * t + 2 < 64, U3 (IntKind.wrap .u32 (c:Int)) = U3 c, U3 (IntKind.wrap .u32 ((c:Int) * (256 : Int))) = U3 ↑(256 * c), U3 (IntKind.wrap .u32 ((↑(16777216 * a + 65536 * x) : Int) + (↑(256 * c) : Int))) = U3 ↑(16777216 * a + 65536 * x + 256 * c), I6 (IntKind.wrap .i64 (4 * (t:Int))) = I6 ↑(4 * t), I6 (IntKind.wrap .i64 ((↑(4 * t) : Int) + 3)) = I6 ↑(4 * t + 3), PV.cptr (B8 64 b) [Stp.idx (Int.toNat (↑(4 * t + 3) : Int)) 1] = PV.cptr (B8 64 b) [Stp.idx (4 * t + 3) 1], 0 ≤ (↑(4 * t + 3) : Int), (↑(4 * t + 3) : Int) < (↑(64 : Nat) : Int), U8 (List.getD b (4 * t + 3) (0 : Int)) = U8 y, 4 * t + 3 < 64, U3 (IntKind.wrap .u32 (y:Int)) = U3 y, U3 (IntKind.wrap .u32 ((↑(16777216 * a + 65536 * x + 256 * c) : Int) + (y:Int))) = U3 ↑(16777216 * a + 65536 * x + 256 * c + y), ([(3, none), (656, some (Row.mk (B3 (t + 1) (List.take t w ++ [(↑(16777216 * a + 65536 * x + 256 * c + y) : Int)])) false))] : List (Nat × Option Row)) = [(3, none), (656, some (Row.mk (B3 (t + 1) (w ++ [(↑(16777216 * a + 65536 * x + 256 * c + y) : Int)])) false))], 1 ≤ 1, 0 + t = t, (t + 1) * 4 ≤ 140737488355328, t + 1 ≤ 9223372036854775807, I6 (IntKind.wrap .i64 ((t:Int) + 1)) = I6 ↑(t + 1)] (ac (dT (by omega)) (ac (wj (by omega)) (ac (by rw [show Int.toNat (↑(4 * t) : Int) = 4 * t by omega]) (ob2 (by omega) (ac (cg (e0)) (ac (by omega) (ac (cg (AX rfl (by omega) (by omega))) (ac (cg (AX (by omega) (by omega) (by omega))) (ac (wj (by omega)) (ac (wj (by omega)) (ac (by rw [show Int.toNat (↑(4 * t + 1) : Int) = 4 * t + 1 by omega]) (ob2 (by omega) (ac (cg (e1)) (ac (by omega) (ac (cg (AX rfl (by omega) (by omega))) (ac (cg (AX (by omega) (by omega) (by omega))) (ac (cg (AX rfl (by omega) (by omega))) (ac (wj (by omega)) (ac (wj (by omega)) (ac (by rw [show Int.toNat (↑(4 * t + 2) : Int) = 4 * t + 2 by omega]) (ob2 (by omega) (ac (cg (e2)) (ac (by omega) (ac (cg (AX rfl (by omega) (by omega))) (ac (cg (AX (by omega) (by omega) (by omega))) (ac (cg (AX rfl (by omega) (by omega))) (ac (wj (by omega)) (ac (wj (by omega)) (ac (by rw [show Int.toNat (↑(4 * t + 3) : Int) = 4 * t + 3 by omega]) (ob2 (by omega) (ac (cg (e3)) (ac (by omega) (ac (cg (AX rfl (by omega) (by omega))) (ac (cg (AX rfl (by omega) (by omega))) (ac (by rw [List.take_of_length_le (show List.length w ≤ t by omega)]) (ac (by omega) (ac (by omega) (ob2 (by omega) (ao (wj (by omega))))))))))))))))))))))))))))))))))))))))) ?_
  exact hnx
set_option maxHeartbeats 4000000 in
theorem Xf {v0 : V8} {nl : Bool} {b : Liz} (hv0 : v0.Ok) (hb : Bytes b) (hbl : b.length = 64) : Pt 125 [] [.iarr .u32 8 v0.l, .vec nl (.iarr .u8 64 b)] [] (.iarr .u32 8 (blk v0 b).l) := by
 refine pO Tryz.func125 (by kernel_rfl) ?_
 have hS := JD hb
 have hres : (DW v0 (rounds kS (JX b) 64 0 v0)).l = (blk v0 b).l := by rw [Wj]
 have hs := CY (s := JX b) (i := 0) (by rw [hS.len]; omega)
 rw [hS.lo 0 (by omega), List.take_zero, List.nil_append] at hs
 unfold word at hs
 rw [VS] at hs
 obtain ⟨e0, g0⟩ := hb.get (4 * 0)
 obtain ⟨e1, g1⟩ := hb.get (4 * 0 + 1)
 obtain ⟨e2, g2⟩ := hb.get (4 * 0 + 2)
 obtain ⟨e3, g3⟩ := hb.get (4 * 0 + 3)
 have hnx := W_sa (nl := nl) hv0 hb hbl hS hres 15 1 _ (by omega) (by omega) hs
 generalize at0 b (4 * 0) = a at *
 generalize at0 b (4 * 0 + 1) = x at *
 generalize at0 b (4 * 0 + 2) = c at *
 generalize at0 b (4 * 0 + 3) = y at *
 simp only [Nat.mul_zero, Nat.zero_add] at e0 e1 e2 e3
 generalize v0.l = v0l at *
 generalize (blk v0 b).l = res at *
 refine W.sgA 0 [] [(64, 1), (80, 2)] (dsS0 v0l nl b) [] trivial ?_
 refine W.sgA 0 [(5, aV (I6 0)), (7, aV (U8 a)), (8, aV (U3 a)), (9, aV (U3 ↑(16777216 * a))), (12, aV (I6 0)), (13, aV (I6 1)), (15, aV (U8 x)), (16, aV (U3 x)), (17, aV (U3 ↑(65536 * x))), (18, aV (U3 ↑(16777216 * a + 65536 * x))), (21, aV (I6 0)), (22, aV (I6 2)), (24, aV (U8 c)), (25, aV (U3 c)), (26, aV (U3 ↑(256 * c))), (27, aV (U3 ↑(16777216 * a + 65536 * x + 256 * c))), (30, aV (I6 0)), (31, aV (I6 3)), (33, aV (U8 y)), (34, aV (U3 y)), (35, aV (U3 ↑(16777216 * a + 65536 * x + 256 * c + y))), (40, aV (I6 1))] [(1, 1), (2, 2), (656, 3)] (dsSA v0l nl b [((16777216 * a + 65536 * x + 256 * c + y : Nat) : Int)] 1) [I6 (IntKind.wrap .i64 ((4 : Int) * (0 : Int))) = I6 0, (0 : Int) ≤ 0, 0 < (↑(64 : Nat) : Int), U8 (List.getD b 0 (0 : Int)) = U8 a, 0 < 64, U3 (IntKind.wrap .u32 (a:Int)) = U3 a, U3 (IntKind.wrap .u32 ((a:Int) * (16777216 : Int))) = U3 ↑(16777216 * a), I6 (IntKind.wrap .i64 ((4 : Int) * (0 : Int))) = I6 0, I6 (IntKind.wrap .i64 ((0 : Int) + (1 : Int))) = I6 1, (0 : Int) ≤ 1, 1 < (↑(64 : Nat) : Int), U8 (List.getD b 1 (0 : Int)) = U8 x, 1 < 64, U3 (IntKind.wrap .u32 (x:Int)) = U3 x, U3 (IntKind.wrap .u32 ((x:Int) * (65536 : Int))) = U3 ↑(65536 * x), U3 (IntKind.wrap .u32 ((↑(16777216 * a) : Int) + (↑(65536 * x) : Int))) = U3 ↑(16777216 * a + 65536 * x), I6 (IntKind.wrap .i64 ((4 : Int) * (0 : Int))) = I6 0, I6 (IntKind.wrap .i64 ((0 : Int) + (2 : Int))) = I6 2, (0 : Int) ≤ 2, 2 < (↑(64 : Nat) : Int), U8 (List.getD b 2 (0 : Int)) = U8 c, 2 < 64, U3 (IntKind.wrap .u32 (c:Int)) = U3 c, U3 (IntKind.wrap .u32 ((c:Int) * (256 : Int))) = U3 ↑(256 * c), U3 (IntKind.wrap .u32 ((↑(16777216 * a + 65536 * x) : Int) + (↑(256 * c) : Int))) = U3 ↑(16777216 * a + 65536 * x + 256 * c), I6 (IntKind.wrap .i64 ((4 : Int) * (0 : Int))) = I6 0, I6 (IntKind.wrap .i64 ((0 : Int) + (3 : Int))) = I6 3, (0 : Int) ≤ 3, 3 < (↑(64 : Nat) : Int), U8 (List.getD b 3 (0 : Int)) = U8 y, 3 < 64, U3 (IntKind.wrap .u32 (y:Int)) = U3 y, U3 (IntKind.wrap .u32 ((↑(16777216 * a + 65536 * x + 256 * c) : Int) + (y:Int))) = U3 ↑(16777216 * a + 65536 * x + 256 * c + y), 1 ≤ 1, 0 < 1, 1 * 4 ≤ 140737488355328, 1 ≤ 9223372036854775807, I6 (IntKind.wrap .i64 ((0 : Int) + (1 : Int))) = I6 1] (ac (wj (by omega)) (ob2 (by omega) (ac (cg (e0)) (ac (by omega) (ac (cg (AX rfl (by omega) (by omega))) (ac (cg (AX (by omega) (by omega) (by omega))) (ac (wj (by omega)) (ac (wj (by omega)) (ob2 (by omega) (ac (cg (e1)) (ac (by omega) (ac (cg (AX rfl (by omega) (by omega))) (ac (cg (AX (by omega) (by omega) (by omega))) (ac (cg (AX rfl (by omega) (by omega))) (ac (wj (by omega)) (ac (wj (by omega)) (ob2 (by omega) (ac (cg (e2)) (ac (by omega) (ac (cg (AX rfl (by omega) (by omega))) (ac (cg (AX (by omega) (by omega) (by omega))) (ac (cg (AX rfl (by omega) (by omega))) (ac (wj (by omega)) (ac (wj (by omega)) (ob2 (by omega) (ac (cg (e3)) (ac (by omega) (ac (cg (AX rfl (by omega) (by omega))) (ac (cg (AX rfl (by omega) (by omega))) (ob4 (by omega) (ao (wj (by omega))))))))))))))))))))))))))))))))) ?_
 exact hnx
end Go.Proofs
namespace Go.Proofs
open Go Go.Pe Go.Pm
set_option maxRecDepth 100000
set_option linter.unusedVariables false
theorem bytesOf_length (s : ByteArray) : (bytesOf s).length = s.size := by unfold bytesOf; rw [List.length_map]; rfl
theorem Nt (s : ByteArray) : Bytes (bytesOf s) := fun x hx => by
 simp only [bytesOf, List.mem_map] at hx
 obtain ⟨b, _, rfl⟩ := hx
 have := b.toNat_lt
 omega
theorem Ie {l : List Int} (h : Bytes l) : bytesOf (strOf l) = l := by
 unfold bytesOf strOf
 simp only [List.map_map]
 conv => rhs; rw [← List.map_id l]
 apply List.map_congr_left
 intro x hx
 have := h x hx
 simp only [Function.comp, id]
 rw [UInt8.toNat_ofNat_of_lt' (by simp [UInt8.size]; omega)]
 omega
theorem BS (l : List Int) : (strOf l).size = l.length := by show (l.map _).length = _; rw [List.length_map]
def dsR0 (s : ByteArray) (n : Nat) (l : List Int) : DS := ⟨[(0, .str s), (2, .at 1 []), (3, .ref 2 [] 1 0 n)], [(1, BL 32 y32), (2, BL n l)]⟩
def dsR1 (s : ByteArray) (n : Nat) (l : List Int) (x i : Nat) : DS := ⟨[(2, .at 1 []), (3, .ref 2 [] 1 0 n), (4, .int .u64 x), (5, .int .i64 i)], [(1, BL 32 y32), (2, BL n l)]⟩
def dsR2 (n : Nat) (l : List Int) (x i d j : Nat) : DS := ⟨[(2, .at 1 []), (3, .ref 2 [] 1 0 n), (4, .int .u64 x), (5, .int .i64 i), (6, .int .u64 d), (7, .int .i64 j)], [(1, BL 32 y32), (2, BL n l)]⟩
def dsR3 (n : Nat) (l : List Int) (v : List Int) (off r : Nat) : DS := ⟨[(2, .at 1 []), (3, .ref 2 [] 1 off r), (8, .at 3 [])], [(1, BL 32 y32), (2, BL n l), (3, Dp 8 v)]⟩
def dsR4 (v o : List Int) (i : Nat) : DS := ⟨[(2, .at 1 []), (8, .at 3 []), (9, .at 4 []), (10, .int .i64 i)], [(1, BL 32 y32), (3, Dp 8 v), (4, BL 32 o)]⟩
theorem EB (v : V8) {i : Nat} (hi : i < 8) {k : Nat} (hk : k < 4) : v.bytes.getD (4 * i + k) 0 = ((at0 v.l i / 256 ^ (3 - k) % 256 : Nat) : Int) := by
 have h := Ni v hi
 have e : ((v.bytes.drop (4 * i)).take 4).getD k 0 = v.bytes.getD (4 * i + k) 0 := by
  rw [List.getD_eq_getElem?_getD, List.getElem?_take_of_lt hk, List.getElem?_drop, List.getD_eq_getElem?_getD]
 rw [← e, h]
 unfold be
 exact GY (f := fun j => ((at0 v.l i / 256 ^ (4 - 1 - j) % 256 : Nat) : Int)) hk
set_option maxHeartbeats 4000000 in
theorem W_r4 {v : V8} (hv : v.Ok) : ∀ (k i : Nat) (o : List Int), i + k = 8 → o = mix y32 v.bytes (4 * i) →
  Wt Tryz.f114 [] [] (.iarr .u8 32 v.bytes) (Af Tryz.f114 4) (dsR4 v.l o i)
 | 0, i, o, hk, ho => by
  have e : o = v.bytes := by rw [ho, show 4 * i = 32 by omega]; exact I8 rfl (V8.Bv v)
  rw [← e]
  generalize v.l = vl at *
  refine W.rtA [(1, aF)] [] [decide ((i:Int) < 8) = false] (ao (dF (by omega)))
 | k + 1, i, o, hk, ho => by
  have hol : o.length = 32 := by rw [ho]; exact Dz rfl (V8.Bv v) (by omega)
  obtain ⟨e1, h1⟩ := (V8.W32 hv).get i
  have hvl : v.l.length = 8 := rfl
  have s0 := EI (h := y32) (s := v.bytes) (i := 4 * i) (n := 32) rfl (V8.Bv v) (by omega)
  have s1 := EI (h := y32) (s := v.bytes) (i := 4 * i + 1) (n := 32) rfl (V8.Bv v) (by omega)
  have s2 := EI (h := y32) (s := v.bytes) (i := 4 * i + 2) (n := 32) rfl (V8.Bv v) (by omega)
  have s3 := EI (h := y32) (s := v.bytes) (i := 4 * i + 3) (n := 32) rfl (V8.Bv v) (by omega)
  rw [← s2, ← s1, ← s0, ← ho, EB v (i := i) (by omega) (k := 3) (by omega), EB v (i := i) (by omega) (k := 2) (by omega), EB v (i := i) (by omega) (k := 1) (by omega)] at s3
  have d0 := EB v (i := i) (by omega) (k := 0) (by omega)
  rw [Nat.add_zero] at d0
  rw [d0] at s3
  simp only [Nat.sub_zero, Nat.reducePow, Nat.reduceSub, Nat.div_one] at s3
  have hw := W_r4 hv k (i + 1) _ (by omega) s3
  generalize at0 v.l i = x at *
  have hx : x / 16777216 % 256 = x / 16777216 := by omega
  rw [hx] at hw
  generalize v.bytes = vb at *
  generalize v.l = vl at *
  refine W.sgA 4 [(1, aT), (3, aV (I6 ↑(4 * i))), (6, aV (U3 x)), (7, aV (U3 ↑(x / 16777216))), (8, aV (U8 ↑(x / 16777216))), (9, aV (PV.at 4 [Stp.idx (4 * i) 1])), (12, aV (I6 ↑(4 * i))), (13, aV (I6 ↑(4 * i + 1))), (16, aV (U3 x)), (17, aV (U3 ↑(x / 65536))), (18, aV (U3 ↑(x / 65536 % 256))), (19, aV (U8 ↑(x / 65536 % 256))), (20, aV (PV.at 4 [Stp.idx (4 * i + 1) 1])), (23, aV (I6 ↑(4 * i))), (24, aV (I6 ↑(4 * i + 2))), (27, aV (U3 x)), (28, aV (U3 ↑(x / 256))), (29, aV (U3 ↑(x / 256 % 256))), (30, aV (U8 ↑(x / 256 % 256))), (31, aV (PV.at 4 [Stp.idx (4 * i + 2) 1])), (34, aV (I6 ↑(4 * i))), (35, aV (I6 ↑(4 * i + 3))), (38, aV (U3 x)), (39, aV (U3 ↑(x % 256))), (40, aV (U8 ↑(x % 256))), (41, aV (PV.at 4 [Stp.idx (4 * i + 3) 1])), (44, aV (I6 ↑(i + 1)))] [(1, 1), (3, 3), (4, 4)] (dsR4 vl ((((o.set (4 * i) ((x / 16777216 : Nat) : Int)).set (4 * i + 1) ((x / 65536 % 256 : Nat) : Int)).set (4 * i + 2) ((x / 256 % 256 : Nat) : Int)).set (4 * i + 3) ((x % 256 : Nat) : Int)) (i + 1)) [decide ((i:Int) < 8) = true, I6 (IntKind.wrap .i64 (4 * (i:Int))) = I6 ↑(4 * i), 0 ≤ (i:Int), (i:Int) < (↑(8 : Nat) : Int), U3 (List.getD vl i (0 : Int)) = U3 x, i < 8, U3 (IntKind.wrap .u32 (Int.tdiv (x:Int) (16777216 : Int))) = U3 ↑(x / 16777216), (16777216 : Int) ≠ 0, U8 (IntKind.wrap .u8 (↑(x / 16777216) : Int)) = U8 ↑(x / 16777216), PV.at 4 [Stp.idx (Int.toNat (↑(4 * i) : Int)) 1] = PV.at 4 [Stp.idx (4 * i) 1], 0 ≤ (↑(4 * i) : Int), (↑(4 * i) : Int) < (↑(32 : Nat) : Int), 4 * i < 32, I6 (IntKind.wrap .i64 (4 * (i:Int))) = I6 ↑(4 * i), I6 (IntKind.wrap .i64 ((↑(4 * i) : Int) + 1)) = I6 ↑(4 * i + 1), 0 ≤ (i:Int), (i:Int) < (↑(8 : Nat) : Int), U3 (List.getD vl i (0 : Int)) = U3 x, i < 8, U3 (IntKind.wrap .u32 (Int.tdiv (x:Int) (65536 : Int))) = U3 ↑(x / 65536), (65536 : Int) ≠ 0, U3 (Int.tmod (↑(x / 65536) : Int) (256 : Int)) = U3 ↑(x / 65536 % 256), (256 : Int) ≠ 0, U8 (IntKind.wrap .u8 (↑(x / 65536 % 256) : Int)) = U8 ↑(x / 65536 % 256), PV.at 4 [Stp.idx (Int.toNat (↑(4 * i + 1) : Int)) 1] = PV.at 4 [Stp.idx (4 * i + 1) 1], 0 ≤ (↑(4 * i + 1) : Int), (↑(4 * i + 1) : Int) < (↑(32 : Nat) : Int), 4 * i + 1 < 32, I6 (IntKind.wrap .i64 (4 * (i:Int))) = I6 ↑(4 * i), I6 (IntKind.wrap .i64 ((↑(4 * i) : Int) + 2)) = I6 ↑(4 * i + 2), 0 ≤ (i:Int), (i:Int) < (↑(8 : Nat) : Int), U3 (List.getD vl i (0 : Int)) = U3 x, i < 8, U3 (IntKind.wrap .u32 (Int.tdiv (x:Int) (256 : Int))) = U3 ↑(x / 256), (256 : Int) ≠ 0, U3 (Int.tmod (↑(x / 256) : Int) (256 : Int)) = U3 ↑(x / 256 % 256), (256 : Int) ≠ 0, U8 (IntKind.wrap .u8 (↑(x / 256 % 256) : Int)) = U8 ↑(x / 256 % 256), PV.at 4 [Stp.idx (Int.toNat (↑(4 * i + 2) : Int)) 1] = PV.at 4 [Stp.idx (4 * i + 2) 1], 0 ≤ (↑(4 * i + 2) : Int), (↑(4 * i + 2) : Int) < (↑(32 : Nat) : Int), 4 * i + 2 < 32, I6 (IntKind.wrap .i64 (4 * (i:Int))) = I6 ↑(4 * i), I6 (IntKind.wrap .i64 ((↑(4 * i) : Int) + 3)) = I6 ↑(4 * i + 3), 0 ≤ (i:Int), (i:Int) < (↑(8 : Nat) : Int), U3 (List.getD vl i (0 : Int)) = U3 x, i < 8, U3 (Int.tmod (x:Int) (256 : Int)) = U3 ↑(x % 256), (256 : Int) ≠ 0, U8 (IntKind.wrap .u8 (↑(x % 256) : Int)) = U8 ↑(x % 256), PV.at 4 [Stp.idx (Int.toNat (↑(4 * i + 3) : Int)) 1] = PV.at 4 [Stp.idx (4 * i + 3) 1], 0 ≤ (↑(4 * i + 3) : Int), (↑(4 * i + 3) : Int) < (↑(32 : Nat) : Int), 4 * i + 3 < 32, I6 (IntKind.wrap .i64 ((i:Int) + 1)) = I6 ↑(i + 1)] (ac (dT (by omega)) (ac (wj (by omega)) (ob2 (by omega) (ac (cg (e1)) (ac (by omega) (ac (cg (AX rfl (by omega) (by omega))) (ac (by omega) (ac (cg (IY rfl (by omega) (by omega))) (ac (by rw [show Int.toNat (↑(4 * i) : Int) = 4 * i by omega]) (ob3 (by omega) (ac (wj (by omega)) (ac (wj (by omega)) (ob2 (by omega) (ac (cg (e1)) (ac (by omega) (ac (cg (AX rfl (by omega) (by omega))) (ac (by omega) (ac (cg rfl) (ac (by omega) (ac (cg (IY rfl (by omega) (by omega))) (ac (by rw [show Int.toNat (↑(4 * i + 1) : Int) = 4 * i + 1 by omega]) (ob3 (by omega) (ac (wj (by omega)) (ac (wj (by omega)) (ob2 (by omega) (ac (cg (e1)) (ac (by omega) (ac (cg (AX rfl (by omega) (by omega))) (ac (by omega) (ac (cg rfl) (ac (by omega) (ac (cg (IY rfl (by omega) (by omega))) (ac (by rw [show Int.toNat (↑(4 * i + 2) : Int) = 4 * i + 2 by omega]) (ob3 (by omega) (ac (wj (by omega)) (ac (wj (by omega)) (ob2 (by omega) (ac (cg (e1)) (ac (by omega) (ac (cg rfl) (ac (by omega) (ac (cg (IY rfl (by omega) (by omega))) (ac (by rw [show Int.toNat (↑(4 * i + 3) : Int) = 4 * i + 3 by omega]) (ob3 (by omega) (ao (wj (by omega))))))))))))))))))))))))))))))))))))))))))))))) ?_
  exact hw
theorem QV (k : Nat) (v : V8) (m : List Int) : Bh (k + 1) v m = blk (Bh k v m) ((m.drop (64 * k)).take 64) := by
 rw [Iq]; rfl
set_option maxHeartbeats 4000000 in
theorem W_r3 {n : Nat} {P : Liz} (hP : P.length = n) (hPb : Bytes P) (hn : n ≤ 1000000000) {N : Nat} (hN : 64 * N = n) : ∀ (r k : Nat), k + r = N →
  Wt Tryz.f114 [] [] (.iarr .u8 32 (Bh N iv P).bytes) (Af Tryz.f114 3) (dsR3 n P (Bh k iv P).l (64 * k) (64 * r))
 | 0, k, hk => by
  have e : k = N := by omega
  subst e
  have hw := W_r4 (v := Bh k iv P) (Fv _ _ TB) 8 0 y32 rfl rfl
  generalize (Bh k iv P).bytes = vb at *
  generalize (Bh k iv P).l = vl at *
  refine W.sgA 4 [(1, aV (I6 0))] [(1, 1), (3, 3), (112, 4)] (dsR4 vl y32 0) [I6 ↑(0 : Nat) = I6 0] (ao (cg (by omega))) ?_
  exact hw
 | r + 1, k, hk => by
  have hw := W_r3 hP hPb hn hN r (k + 1) (by omega)
  rw [QV] at hw
  have c1 := Xf (v0 := Bh k iv P) (nl := false) (b := (Cx P (64 * k)).take 64) (Fv _ _ TB) (by rw [Bj]; exact (hPb.drop _).take _) (by rw [Bj, List.length_take, List.length_drop]; omega)
  rw [Bj] at c1
  generalize (blk (Bh k iv P) ((P.drop (64 * k)).take 64)).l = v2 at *
  rw [← Bj] at c1
  generalize (Bh k iv P).l = vl at *
  generalize (Bh N iv P).bytes = vb at *
  have h1 : ((64 * (r + 1) : Nat) : Int) - 64 = ((64 * r : Nat) : Int) := by omega
  refine W.seg [(1, aV (I6 ↑(64 * r + 64))), (2, aT), (5, aV (PV.ref 2 [] 1 (64 * k) 64)), (6, c9 c1), (9, aV (PV.ref 2 [] 1 (64 * k + 64) (64 * r)))] (rI 3) (dsR3 n P v2 (64 * (k + 1)) (64 * r)) (todo' := Af Tryz.f114 3) [I6 ↑(64 * (r + 1)) = I6 ↑(64 * r + 64), decide ((↑(64 * r + 64) : Int) > 0) = true, PV.ref 2 [] 1 (64 * k + 0) 64 = PV.ref 2 [] 1 (64 * k) 64, (0 : Int) ≤ 0, (0 : Int) ≤ 64, 64 ≤ (↑(64 * (r + 1)) : Int), 64 * k + 64 ≤ n, _, PV.ref 2 [] 1 (64 * k + 64) (Int.toNat ((↑(64 * (r + 1)) : Int) - (64 : Int))) = PV.ref 2 [] 1 (64 * k + 64) (64 * r), (0 : Int) ≤ 64, 64 ≤ (↑(64 * (r + 1)) : Int), (↑(64 * (r + 1)) : Int) ≤ (↑(64 * (r + 1)) : Int), rr (PV.at 1 []), PV.ref 2 [] 1 (64 * k + 64) (64 * r) = PV.ref 2 [] 1 (64 * (k + 1)) (64 * r), rr (PV.at 3 []), rr (B8 32 (List.replicate 32 0)), rr (B8 n P), rr (B3 8 v2)] (by kernel_rfl) (ac (cg (by omega)) (ac (dT (by omega)) (ac (by simp only [Nat.add_zero]) (ob4 (by omega) (ac (c1) (ac (by rw [show Int.toNat ((↑(64 * (r + 1)) : Int) - (64 : Int)) = 64 * r by omega]) (ob3 (by omega) (ac rfl (ac rfl (ac rfl (ac rfl (ac rfl (ao rfl))))))))))))) ?_
  exact hw
theorem W_r2 {n x i : Nat} {l res : Liz} (hx : x < 18446744073709551616) (hi : i < 8)
  (hnext : Wt Tryz.f114 [] [] (.iarr .u8 32 res) (Af Tryz.f114 1) (dsR1 .empty (n + 1) (l ++ [((x / 256 ^ (7 - i) % 256 : Nat) : Int)]) x (i + 1))) (hl : l.length = n) (hn : n ≤ 1000000000) : ∀ (k j d : Nat), j + k = 7 - i → d = x / 256 ^ j →
  Wt Tryz.f114 [] [] (.iarr .u8 32 res) (Af Tryz.f114 2) (dsR2 n l x i d j)
 | 0, j, d, hk, hd => by
  have hdl : d < 18446744073709551616 := by rw [hd]; exact Nat.lt_of_le_of_lt (Nat.div_le_self _ _) hx
  rw [show 7 - i = j by omega, ← hd] at hnext
  refine W.sgA 1 [(2, aV (I6 (7 - (i:Int)))), (3, aF), (6, aV (U6 ↑(d % 256))), (7, aV (U8 ↑(d % 256))), (9, Ans.ups [(2, none), (208, some (Row.mk (B8 (n + 1) (l ++ [(↑(d % 256) : Int)])) false))]), (12, aV (I6 ↑(i + 1)))] [(1, 1), (208, 2)] (⟨[(2, .at 1 []), (3, .ref 2 [] 1 0 (n + 1)), (4, .int .u64 x), (5, .int .i64 ((i + 1 : Nat) : Int))], [(1, BL 32 y32), (2, BL (n + 1) (l ++ [((d % 256 : Nat) : Int)]))]⟩) [I6 (IntKind.wrap .i64 (7 - (i:Int))) = I6 (7 - (i:Int)), decide ((j:Int) < 7 - (i:Int)) = false, U6 (Int.tmod (d:Int) (256 : Int)) = U6 ↑(d % 256), (256 : Int) ≠ 0, U8 (IntKind.wrap .u8 (↑(d % 256) : Int)) = U8 ↑(d % 256), ([(2, none), (208, some (Row.mk (B8 (n + 1) (List.take n l ++ [(↑(d % 256) : Int)])) false))] : List (Nat × Option Row)) = [(2, none), (208, some (Row.mk (B8 (n + 1) (l ++ [(↑(d % 256) : Int)])) false))], 1 ≤ 1, 0 + n = n, (n + 1) * 1 ≤ 140737488355328, n + 1 ≤ 9223372036854775807, I6 (IntKind.wrap .i64 ((i:Int) + 1)) = I6 ↑(i + 1)] (ac (wj (by omega)) (ac (dF (by omega)) (ac (cg rfl) (ac (by omega) (ac (cg (IY rfl (by omega) (by omega))) (ac (by rw [List.take_of_length_le (show List.length l ≤ n by omega)]) (ac (by omega) (ac (by omega) (ob2 (by omega) (ao (wj (by omega)))))))))))) ?_
  exact hnext
 | k + 1, j, d, hk, hd => by
  have hdl : d < 18446744073709551616 := by rw [hd]; exact Nat.lt_of_le_of_lt (Nat.div_le_self _ _) hx
  have hw := W_r2 hx hi hnext hl hn k (j + 1) (d / 256) (by omega) (by rw [hd, Nat.pow_succ, Nat.div_div_eq_div_mul])
  refine W.sgA 2 [(2, aV (I6 (7 - (i:Int)))), (3, aT), (5, aV (U6 ↑(d / 256))), (8, aV (I6 ↑(j + 1)))] (rI 2) (dsR2 n l x i (d / 256) (j + 1)) [I6 (IntKind.wrap .i64 (7 - (i:Int))) = I6 (7 - (i:Int)), decide ((j:Int) < 7 - (i:Int)) = true, U6 (IntKind.wrap .u64 (Int.tdiv (d:Int) (256 : Int))) = U6 ↑(d / 256), (256 : Int) ≠ 0, I6 (IntKind.wrap .i64 ((j:Int) + 1)) = I6 ↑(j + 1)] (ac (wj (by omega)) (ac (dT (by omega)) (ac (cg (Ah rfl (by omega) (by omega))) (ac (by omega) (ao (wj (by omega))))))) ?_
  exact hw
theorem be_snoc {x i : Nat} (hi : i < 8) : (be x 8).take i ++ [((x / 256 ^ (7 - i) % 256 : Nat) : Int)] = (be x 8).take (i + 1) := by
 have h := CY (s := be x 8) (i := i) (by rw [CG]; omega)
 have e : (be x 8).getD i 0 = ((x / 256 ^ (7 - i) % 256 : Nat) : Int) := by
  unfold be
  exact GY (f := fun j => ((x / 256 ^ (8 - 1 - j) % 256 : Nat) : Int)) hi
 rw [e] at h
 exact h
theorem W_r1 {s : ByteArray} {m : Liz} {x : Nat} (hx : x < 18446744073709551616) (hm : m.length % 64 = 56) (hml : m.length ≤ 900000000) (hmb : Bytes m) : ∀ (k i n : Nat) (l : List Int), i + k = 8 → n = m.length + i → l = m ++ (be x 8).take i →
  Wt Tryz.f114 [] [] (.iarr .u8 32 (DU iv (m ++ be x 8)).bytes) (Af Tryz.f114 1) (dsR1 s n l x i)
 | 0, i, n, l, hk, hn, hl => by
  have hi : i = 8 := by omega
  subst hi
  have e : l = m ++ be x 8 := by rw [hl, List.take_of_length_le (by rw [CG]; omega)]
  have hll : l.length = n := by rw [e, List.length_append, CG, hn]
  have hw := W_r3 (n := n) (P := m ++ be x 8) (by rw [List.length_append, CG, hn]) (hmb.append (CS _ _)) (by omega) (N := n / 64) (by omega) (n / 64) 0 (by omega)
  have e2 : DU iv (m ++ be x 8) = Bh (n / 64) iv (m ++ be x 8) := by unfold DU; rw [← e, hll]
  rw [e2]
  rw [← e] at hw ⊢
  have c1 := U9
  have hn64 : 64 * (n / 64) = n := by omega
  rw [hn64] at hw
  rw [show Bh 0 iv l = iv from rfl] at hw
  generalize (Bh (n / 64) iv l).bytes = res at *
  generalize iv.l = ivl at *
  refine W.sgA 3 [(0, aV (I6 8)), (2, c9 c1)] [(1, 1), (2, 2), (112, 3)] (dsR3 n l ivl 0 n) [I6 ↑(8 : Nat) = I6 8, _] (ac (cg (by omega)) (ao (c1))) ?_
  exact hw
 | k + 1, i, n, l, hk, hn, hl => by
  have hll : l.length = n := by rw [hl, List.length_append, List.length_take, CG]; omega
  have hs := be_snoc (x := x) (i := i) (by omega)
  have hw := W_r1 (s := .empty) hx hm hml hmb k (i + 1) (n + 1) (l ++ [((x / 256 ^ (7 - i) % 256 : Nat) : Int)]) (by omega) (by omega) (by rw [hl, List.append_assoc, hs])
  have h2 := W_r2 hx (by omega) hw hll (by omega) (7 - i) 0 x (by omega) (by simp)
  generalize (DU iv (m ++ be x 8)).bytes = res at *
  refine W.sgA 2 [(1, aT)] (rI 2) (dsR2 n l x i x 0) [decide ((i:Int) < 8) = true] (ao (dT (by omega))) ?_
  exact h2
theorem W_r0 {s : ByteArray} {m : Liz} (hm : m = bytesOf s) (hms : s.size ≤ 100000000) : ∀ (k i n : Nat) (l : List Int), i + k = (119 - s.size % 64) % 64 → n = s.size + 1 + i → l = m ++ (128 :: List.replicate i 0) →
  Wt Tryz.f114 [] [] (.iarr .u8 32 (sha m)) (Af Tryz.f114 0) (dsR0 s n l)
 | 0, i, n, l, hk, hn, hl => by
  have hml : m.length = s.size := by rw [hm, bytesOf_length]
  have hll : l.length = n := by rw [hl, List.length_append, List.length_cons, List.length_replicate]; omega
  have hmod : n % 64 = 56 := by omega
  have hlb : Bytes l := by
   rw [hl, hm]
   refine (Nt s).append fun x hx => ?_
   rcases List.mem_cons.1 hx with rfl | hx
   ·omega
   ·have := List.eq_of_mem_replicate hx; omega
  have hw := W_r1 (s := .empty) (m := l) (x := 8 * s.size) (by omega) (by omega) (by omega) hlb 8 0 n l (by omega) (by omega) (by simp)
  have e : sha m = (DU iv (l ++ be (8 * s.size) 8)).bytes := by
   unfold sha padded Q4
   rw [hl, hml, show (64 + 64 - 8 - 1 - s.size % 64) % 64 = i by omega, Nat.mul_comm s.size]
  rw [e]
  generalize (DU iv (l ++ be (8 * s.size) 8)).bytes = res at *
  generalize hsz : s.size = sz at *
  have hszI : ((s.size : Nat) : Int) = (sz : Int) := by rw [hsz]
  refine W.sgA 1 [(2, aV (I6 ↑(n % 64))), (3, aF), (5, aV (I6 sz)), (6, aV (U6 sz)), (7, aV (U6 ↑(8 * sz)))] (rI 2) (⟨[(2, .at 1 []), (3, .ref 2 [] 1 0 n), (4, .int .u64 ((8 * sz : Nat) : Int)), (5, .int .i64 (0 : Int))], [(1, BL 32 y32), (2, BL n l)]⟩) [I6 (Int.tmod (n:Int) (64 : Int)) = I6 ↑(n % 64), (64 : Int) ≠ 0, ((↑(n % 64) : Int) != 56) = false, I6 ↑(ByteArray.size s) = I6 sz, U6 (IntKind.wrap .u64 (sz:Int)) = U6 sz, U6 (IntKind.wrap .u64 ((sz:Int) * (8 : Int))) = U6 ↑(8 * sz)] (ac (cg rfl) (ac (by omega) (ac (bne_eq_false_iff_eq.2 (by omega)) (ac (cg (hszI)) (ac (cg (Ah rfl (by omega) (by omega))) (ao (cg (Ah (by omega) (by omega) (by omega))))))))) ?_
  exact hw
 | k + 1, i, n, l, hk, hn, hl => by
  have hml : m.length = s.size := by rw [hm, bytesOf_length]
  have hll : l.length = n := by rw [hl, List.length_append, List.length_cons, List.length_replicate]; omega
  have hmod : ¬ n % 64 = 56 := by omega
  have hw := W_r0 hm hms k (i + 1) (n + 1) (l ++ [0]) (by omega) (by omega) (by rw [hl, List.append_assoc, List.cons_append, List.replicate_succ'])
  generalize sha m = res at *
  refine W.sgA 0 [(2, aV (I6 ↑(n % 64))), (3, aT), (6, Ans.ups [(2, none), (160, some (Row.mk (B8 (n + 1) (l ++ [0])) false))])] [(1, 1), (160, 2)] (dsR0 s (n + 1) (l ++ [0])) [I6 (Int.tmod (n:Int) (64 : Int)) = I6 ↑(n % 64), (64 : Int) ≠ 0, ((↑(n % 64) : Int) != 56) = true, ([(2, none), (160, some (Row.mk (B8 (n + 1) (List.take n l ++ [0])) false))] : List (Nat × Option Row)) = [(2, none), (160, some (Row.mk (B8 (n + 1) (l ++ [0])) false))], 1 ≤ 1, 0 + n = n, (n + 1) * 1 ≤ 140737488355328, n + 1 ≤ 9223372036854775807] (ac (cg rfl) (ac (by omega) (ac (bne_iff_ne.2 (by omega)) (ac (by rw [List.take_of_length_le (show List.length l ≤ n by omega)]) (ac (by omega) (ac (by omega) (ac (by omega) (ao (by omega))))))))) ?_
  exact hw
theorem Tz {s : ByteArray} (hs : s.size ≤ 100000000) : Pt 114 [] [.str s] [] (.iarr .u8 32 (sha (bytesOf s))) := by
 refine pO Tryz.func114 (by kernel_rfl) ?_
 have hml := bytesOf_length s
 have hw := W_r0 (m := bytesOf s) rfl hs _ 0 (s.size + 1) (bytesOf s ++ [128]) (Nat.zero_add _) rfl rfl
 generalize sha (bytesOf s) = res at *
 refine W.sgA 0 [(4, Ans.ups [(96, none), (128, some (Row.mk (B8 (ByteArray.size s + 1) (bytesOf s ++ [128])) false))])] [(64, 1), (128, 2)] (dsR0 s (s.size + 1) (bytesOf s ++ [128])) [([(96, none), (128, some (Row.mk (B8 (ByteArray.size s + 1) (List.take (ByteArray.size s) (bytesOf s) ++ [128])) false))] : List (Nat × Option Row)) = [(96, none), (128, some (Row.mk (B8 (ByteArray.size s + 1) (bytesOf s ++ [128])) false))], 1 ≤ 1, 0 + ByteArray.size s = ByteArray.size s, (ByteArray.size s + 1) * 1 ≤ 140737488355328, ByteArray.size s + 1 ≤ 9223372036854775807] (ac (by rw [List.take_of_length_le (show List.length (bytesOf s) ≤ ByteArray.size s by omega)]) (ac (by omega) (ac (by omega) (ac (by omega) (ao (by omega)))))) ?_
 exact hw
theorem Vj {s : ByteArray} (hs : s.size ≤ 100000000) : Pt 94 [] [.str s] [] (.iarr .u8 32 (EP (bytesOf s))) := by
 refine pO Tryz.func94 (by kernel_rfl) ?_
 have c1 := Tz hs
 have hl := Iw (bytesOf s)
 have hb := JZ (bytesOf s)
 have c2 := Tz (s := strOf (sha (bytesOf s))) (by rw [BS, hl]; omega)
 rw [Ie hb] at c2
 unfold EP
 generalize sha (bytesOf s) = x at *
 generalize sha x = res at *
 refine W.rtA [(2, c9 c1), (6, aV (PV.str (strOf x))), (7, c9 c2)] [] [_, (0 : Int) ≤ 0, 0 ≤ (↑(32 : Nat) : Int), (↑(32 : Nat) : Int) ≤ (↑(32 : Nat) : Int), PV.str (strOf (List.take 32 x)) = PV.str (strOf x), 32 ≤ 32, _] (ac (c1) (ob3 (by omega) (ac (by rw [List.take_of_length_le (show List.length x ≤ 32 by omega)]) (ac (by omega) (ao (c2))))))
end Go.Proofs
namespace Go.Pm
def lv (l : List Int) : Nat → Nat
 | 0 => 0
 | k + 1 => lv l k + at0 l k * 2 ^ (8 * k)
theorem pow8 (k : Nat) : 2 ^ (8 * (k + 1)) = 256 * 2 ^ (8 * k) := by rw [Nat.mul_add, Nat.pow_add, Nat.mul_comm]
theorem Mw {l : List Int} (h : Bytes l) : ∀ k, lv l k < 2 ^ (8 * k)
 | 0 => by simp [lv]
 | k + 1 => by
  have h1 := Mw h k
  have h2 := (h.get k).2
  have h3 : at0 l k * 2 ^ (8 * k) ≤ 255 * 2 ^ (8 * k) := Nat.mul_le_mul_right _ (by omega)
  rw [lv, pow8]
  omega
theorem lv_or {l : List Int} (h : Bytes l) (k : Nat) : lv l k ||| at0 l k * 2 ^ (8 * k) = lv l (k + 1) := by
 have h1 := Mw h k
 rw [lv, Nat.or_comm, Nat.mul_comm (at0 l k), ← Nat.two_pow_add_eq_or_of_lt h1, Nat.add_comm]
theorem PR (l : List Int) (a i : Nat) : at0 (l.drop a) i = at0 l (a + i) := by
 unfold at0
 rw [List.getD_eq_getElem?_getD, List.getElem?_drop, List.getD_eq_getElem?_getD]
theorem Wo {l : List Int} {a i : Nat} (h : i < a) : at0 (l.take a) i = at0 l i := by
 unfold at0
 rw [List.getD_eq_getElem?_getD, List.getElem?_take_of_lt h, List.getD_eq_getElem?_getD]
theorem Ki (l : List Int) (a : Nat) : ∀ b, lv l (a + b) = lv l a + 2 ^ (8 * a) * lv (l.drop a) b
 | 0 => by simp [lv]
 | b + 1 => by
  rw [← Nat.add_assoc, lv, Ki l a b, lv, PR, Nat.mul_add 8 a b, Nat.pow_add, Nat.mul_add (2 ^ (8 * a)), Nat.add_assoc, Nat.mul_left_comm (at0 l (a + b))]
theorem TI {l : List Int} {a : Nat} : ∀ {k : Nat}, k ≤ a → lv (l.take a) k = lv l k
 | 0, _ => rfl
 | k + 1, h => by rw [lv, lv, TI (by omega), Wo (by omega)]
theorem V9 {l : List Int} (h : Bytes l) {n k : Nat} (hk : k < n) : lv l n / 256 ^ k % 256 = at0 l k := by
 obtain ⟨m, rfl⟩ : ∃ m, n = k + (1 + m) := ⟨n - k - 1, by omega⟩
 have e : (256 : Nat) ^ k = 2 ^ (8 * k) := by rw [Nat.pow_mul]
 rw [e, Ki, Nat.add_mul_div_left _ _ (Nat.two_pow_pos _), Nat.div_eq_of_lt (Mw h k), Nat.zero_add, Ki, lv, lv, PR]
 have := (h.get k).2
 simp only [Nat.mul_zero, Nat.pow_zero, Nat.mul_one, Nat.zero_add, Nat.add_zero]
 omega
theorem Qb (v i : Nat) : v / 256 ^ (i + 1) = v / 256 ^ i / 256 := by rw [Nat.pow_succ, Nat.div_div_eq_div_mul]
theorem OU {l : List Int} (h : Bytes l) : lv l 32 < Aa := Mw h 32
theorem lv_uw {l : List Int} (h : Bytes l) : uw (lv l 32) = [((lv l 8 : Nat) : Int), ((lv (l.drop 8) 8 : Nat) : Int), ((lv (l.drop 16) 8 : Nat) : Int), ((lv (l.drop 24) 8 : Nat) : Int)] := by
 have e : lv l 32 = wu (lv l 8) (lv (l.drop 8) 8) (lv (l.drop 16) 8) (lv (l.drop 24) 8) := by
  have a1 := Ki l 8 24
  have a2 := Ki (l.drop 8) 8 16
  have a3 := Ki (l.drop 16) 8 8
  rw [List.drop_drop] at a2 a3
  simp only [Nat.reduceAdd, Nat.reduceMul, Nat.reducePow] at a1 a2 a3
  unfold wu
  rw [a1, a2, a3]
 have b1 : ∀ n, lv (l.drop n) 8 < 18446744073709551616 := fun n => Mw (h.drop n) 8
 rw [e]
 exact P6 (b1 0) (b1 8) (b1 16) (b1 24)
def FO (v n j : Nat) : Nat := v / 256 ^ (max n (8 * j)) % 256 ^ (8 * j + 8 - max n (8 * j))
def JY (v n : Nat) : List Int := [((FO v n 0 : Nat) : Int), ((FO v n 1 : Nat) : Int), ((FO v n 2 : Nat) : Int), ((FO v n 3 : Nat) : Int)]
theorem bwat_lt (v n j : Nat) : FO v n j < 18446744073709551616 := by
 unfold FO
 have h1 : v / 256 ^ (max n (8 * j)) % 256 ^ (8 * j + 8 - max n (8 * j)) < 256 ^ (8 * j + 8 - max n (8 * j)) := Nat.mod_lt _ (Nat.pow_pos (by omega))
 have h2 : 256 ^ (8 * j + 8 - max n (8 * j)) ≤ 256 ^ 8 := Nat.pow_le_pow_right (by omega) (by omega)
 have h3 : 256 ^ 8 = 18446744073709551616 := by decide
 omega
theorem Ov {v n x : Nat} (hx : v / 256 ^ n % 256 = x) : FO v n (n / 8) = 256 * FO v (n + 1) (n / 8) + x := by
 unfold FO
 rw [show max n (8 * (n / 8)) = n by omega, show max (n + 1) (8 * (n / 8)) = n + 1 by omega, Qb,
  show 8 * (n / 8) + 8 - n = (8 * (n / 8) + 8 - (n + 1)) + 1 by omega, Nat.pow_succ, Nat.mul_comm (256 ^ _) 256, Nat.mod_mul, hx]
 omega
theorem BG {v n j : Nat} (h : j ≠ n / 8) : FO v n j = FO v (n + 1) j := by
 unfold FO
 by_cases h1 : n / 8 < j
 ·rw [show max n (8 * j) = 8 * j by omega, show max (n + 1) (8 * j) = 8 * j by omega]
 ·rw [show 8 * j + 8 - max n (8 * j) = 0 by omega, show 8 * j + 8 - max (n + 1) (8 * j) = 0 by omega]
  simp [Nat.mod_one]
theorem XC {v n : Nat} (hn : n < 32) : (JY v (n + 1)).getD (n / 8) 0 = ((FO v (n + 1) (n / 8) : Nat) : Int) := by
 have : n / 8 = 0 ∨ n / 8 = 1 ∨ n / 8 = 2 ∨ n / 8 = 3 := by omega
 rcases this with h | h | h | h <;> rw [h] <;> rfl
theorem XO {v n x : Nat} (hn : n < 32) (hx : v / 256 ^ n % 256 = x) : (JY v (n + 1)).set (n / 8) ((256 * FO v (n + 1) (n / 8) + x : Nat) : Int) = JY v n := by
 rw [← Ov hx]
 have : n / 8 = 0 ∨ n / 8 = 1 ∨ n / 8 = 2 ∨ n / 8 = 3 := by omega
 unfold JY
 rcases this with h | h | h | h
 ·rw [BG (j := 1) (n := n) (by omega), BG (j := 2) (n := n) (by omega), BG (j := 3) (n := n) (by omega), h]; rfl
 ·rw [BG (j := 0) (n := n) (by omega), BG (j := 2) (n := n) (by omega), BG (j := 3) (n := n) (by omega), h]; rfl
 ·rw [BG (j := 0) (n := n) (by omega), BG (j := 1) (n := n) (by omega), BG (j := 3) (n := n) (by omega), h]; rfl
 ·rw [BG (j := 0) (n := n) (by omega), BG (j := 1) (n := n) (by omega), BG (j := 2) (n := n) (by omega), h]; rfl
theorem UD (v : Nat) : JY v 0 = uw v := by
 unfold JY FO uw
 simp only [Nat.mul_zero, Nat.zero_max, Nat.max_self, Nat.pow_zero, Nat.div_one, Nat.zero_add, Nat.sub_zero, Nat.mul_one]
 have e : ∀ a b : Nat, v / a / b = v / (a * b) := fun a b => Nat.div_div_eq_div_mul v a b
 rw [e, e, show 8 + 8 - 8 = 8 by omega, show (256 : Nat) ^ 8 = 18446744073709551616 by decide,
  show (256 : Nat) ^ (8 * 2) = 18446744073709551616 * 18446744073709551616 by decide, show (256 : Nat) ^ (8 * 3) = 18446744073709551616 * 18446744073709551616 * 18446744073709551616 by decide]
theorem Jo {v n : Nat} (h : v < 256 ^ n) (j : Nat) : FO v n j = 0 := by
 unfold FO
 rw [Nat.div_eq_of_lt (Nat.lt_of_lt_of_le h (Nat.pow_le_pow_right (by omega) (Nat.le_max_left _ _))), Nat.zero_mod]
theorem Ww {v n : Nat} (h : v < 256 ^ n) : JY v n = [0, 0, 0, 0] := by unfold JY; rw [Jo h, Jo h, Jo h, Jo h]; rfl
theorem Tm {l : List Int} (h : Bytes l) {n : Nat} (hn : n < 32) : lv l 32 / 256 ^ n % 256 = at0 l n := V9 h hn
end Go.Pm
namespace Go.Proofs
open Go Go.Pe Go.Pm
set_option maxRecDepth 100000
set_option linter.unusedVariables false
def RX (nl : Bool) (n c : Nat) (l : List Int) (x i : Nat) : DS := ⟨[(0, .vec nl (.iarr .u8 n l)), (3, .int .u64 x), (7, .int .i64 c), (8, .int .i64 i)], []⟩
theorem W9 {nl : Bool} {n c : Nat} {l : Liz} (hl : l.length = n) (hb : Bytes l) (hc : c ≤ 8) (hcn : c ≤ n) : ∀ (k i x : Nat), i + k = c → x = lv l i →
  Wt Tryz.f118 [] [] (.int .u64 ((lv l c : Nat) : Int)) (Af Tryz.f118 0) (RX nl n c l x i)
 | 0, i, x, hk, hx => by
  have hi : i = c := by omega
  subst hi
  rw [← hx]
  refine W.rtA [(0, aF)] [] [decide ((i:Int) < (i:Int)) = false] (ao (dF (by omega)))
 | k + 1, i, x, hk, hx => by
  obtain ⟨e, h1⟩ := hb.get i
  have ho := lv_or hb i
  have hlt := Mw hb (i + 1)
  have hle : 2 ^ (8 * (i + 1)) ≤ 2 ^ 64 := Nat.pow_le_pow_right (by omega) (by omega)
  have hxl : lv l (i + 1) < 18446744073709551616 := Nat.lt_of_lt_of_le hlt hle
  have hstep : lv l (i + 1) = lv l i + at0 l i * 2 ^ (8 * i) := rfl
  rw [← hx] at ho hstep
  have hmod : at0 l i * 2 ^ (8 * i) % 18446744073709551616 = at0 l i * 2 ^ (8 * i) := Nat.mod_eq_of_lt (by omega)
  have hw := W9 (nl := nl) hl hb hc hcn k (i + 1) (lv l (i + 1)) (by omega) rfl
  have hxlt : x < 18446744073709551616 := by omega
  have hmodl : at0 l i * 2 ^ (8 * i) % 18446744073709551616 < 18446744073709551616 := Nat.mod_lt _ (by decide)
  have hor : ((x ||| at0 l i * 2 ^ (8 * i) % 18446744073709551616 : Nat) : Int) = ((lv l (i + 1) : Nat) : Int) := by rw [hmod, ho]
  generalize lv l (i + 1) = y at *
  generalize lv l c = z at *
  generalize at0 l i = b at *
  refine W.sgA 0 [(0, aT), (7, aV (U8 b)), (8, aV (U6 b)), (10, aV (I6 ↑(8 * i))), (11, aV (U6 ↑(b * 2 ^ (8 * i) % 18446744073709551616))), (12, aV (U6 ↑(x ||| b * 2 ^ (8 * i) % 18446744073709551616))), (13, aV (U6 y)), (14, aV (I6 ↑(i + 1)))] [] (RX nl n c l y (i + 1)) [decide ((i:Int) < (c:Int)) = true, 0 ≤ (i:Int), (i:Int) < (n:Int), U8 (List.getD l i (0 : Int)) = U8 b, i < n, U6 (IntKind.wrap .u64 (b:Int)) = U6 b, I6 (IntKind.wrap .i64 (8 * (i:Int))) = I6 ↑(8 * i), U6 (IntKind.wrap .u64 ((b:Int) * (2 : Int) ^ min (Int.toNat (↑(8 * i) : Int)) 64)) = U6 ↑(b * 2 ^ (8 * i) % 18446744073709551616), 0 ≤ (↑(8 * i) : Int), U6 (bits BinOp.or .u64 (x:Int) (↑(b * 2 ^ (8 * i) % 18446744073709551616) : Int)) = U6 ↑(x ||| b * 2 ^ (8 * i) % 18446744073709551616), U6 ↑(x ||| b * 2 ^ (8 * i) % 18446744073709551616) = U6 y, I6 (IntKind.wrap .i64 ((i:Int) + 1)) = I6 ↑(i + 1)] (ac (dT (by omega)) (ob2 (by omega) (ac (cg (e)) (ac (by omega) (ac (cg (Ah rfl (by omega) (by omega))) (ac (wj (by omega)) (ac (cg (Bt rfl rfl)) (ac (by omega) (ac (cg (BF rfl rfl (by omega) (by omega))) (ac (cg (hor)) (ao (wj (by omega))))))))))))) ?_
  exact hw
theorem pc_num8 {nl : Bool} {n : Nat} {l : Liz} (hl : l.length = n) (hb : Bytes l) : Pt 118 [] [.vec nl (.iarr .u8 n l)] [] (.int .u64 ((lv l (min n 8) : Nat) : Int)) := by
 refine pO Tryz.func118 (by kernel_rfl) ?_
 have hm : mn (n : Int) 8 = ((min n 8 : Nat) : Int) := by unfold mn; split <;> omega
 have hw := W9 (nl := nl) hl hb (c := min n 8) (by omega) (by omega) (min n 8) 0 0 (by omega) rfl
 generalize lv l (min n 8) = z at *
 generalize min n 8 = c at *
 refine W.sgA 0 [(4, aV (I6 c))] [] (RX nl n c l 0 0) [I6 (mn (n:Int) (8 : Int)) = I6 c] (ao (cg (hm))) ?_
 exact hw
theorem Vd {w : Nat} (hw : w ≤ 8) : Pt 127 [] [.int .i64 w] [] (.int .i64 w) := by
 refine pO Tryz.func127 (by kernel_rfl) ?_
 refine W.rtA [(4, aF)] [] [decide ((w:Int) > 8) = false] (ao (dF (by omega)))
theorem WP {x w i : Nat} (h : i < w) : (le x w).getD i 0 = ((x / 2 ^ (8 * i) % 256 : Nat) : Int) := GY h
def dsDg (y w n i : Nat) (l : List Int) : DS := ⟨[(0, .int .u64 y), (1, .int .i64 w), (5, .ref 1 [] 1 0 n), (6, .int .i64 i)], [(1, K5 n l)]⟩
theorem W_dg {x w : Nat} (hx : x < 18446744073709551616) (hw : w ≤ 8) : ∀ (k i y : Nat) (l : List Int), i + k = w → y = x / 2 ^ (8 * i) → l = (le x w).take i →
  Wt Tryz.f126 [] [(1, K5 w (le x w))] (.ref 1 [] 1 0 w) (Af Tryz.f126 0) (dsDg y w i i l)
 | 0, i, y, l, hk, hy, hl => by
  have hi : i = w := by omega
  subst hi
  have e : l = le x i := by rw [hl]; exact List.take_of_length_le (by rw [A9]; omega)
  rw [← e]
  refine W.rtA [(2, aF)] (rI 1) [decide ((i:Int) < (i:Int)) = false] (ao (dF (by omega)))
 | k + 1, i, y, l, hk, hy, hl => by
  have hll : l.length = i := by rw [hl, List.length_take, A9]; omega
  have hyl : y < 18446744073709551616 := by rw [hy]; exact Nat.lt_of_le_of_lt (Nat.div_le_self _ _) hx
  have hs := CY (s := le x w) (i := i) (by rw [A9]; omega)
  rw [WP (by omega), ← hl, ← hy] at hs
  have hy2 : y / 256 = x / 2 ^ (8 * (i + 1)) := by rw [hy, Nat.div_div_eq_div_mul, pow8, Nat.mul_comm 256]
  have hw2 := W_dg hx hw k (i + 1) (y / 256) _ (by omega) hy2 hs
  generalize le x w = L at *
  refine W.sgA 0 [(2, aT), (5, aV (U6 ↑(y % 256))), (6, aV (I6 ↑(y % 256))), (8, Ans.ups [(1, none), (192, some (Row.mk (BI (i + 1) (l ++ [(↑(y % 256) : Int)])) false))]), (11, aV (U6 ↑(y / 256))), (14, aV (I6 ↑(i + 1)))] [(192, 1)] (dsDg (y / 256) w (i + 1) (i + 1) (l ++ [((y % 256 : Nat) : Int)])) [decide ((i:Int) < (w:Int)) = true, U6 (Int.tmod (y:Int) (256 : Int)) = U6 ↑(y % 256), (256 : Int) ≠ 0, I6 (IntKind.wrap .i64 (↑(y % 256) : Int)) = I6 ↑(y % 256), ([(1, none), (192, some (Row.mk (BI (i + 1) (List.take i l ++ [(↑(y % 256) : Int)])) false))] : List (Nat × Option Row)) = [(1, none), (192, some (Row.mk (BI (i + 1) (l ++ [(↑(y % 256) : Int)])) false))], 1 ≤ 1, 0 + i = i, (i + 1) * 8 ≤ 140737488355328, i + 1 ≤ 9223372036854775807, U6 (IntKind.wrap .u64 (Int.tdiv (y:Int) (256 : Int))) = U6 ↑(y / 256), (256 : Int) ≠ 0, I6 (IntKind.wrap .i64 ((i:Int) + 1)) = I6 ↑(i + 1)] (ac (dT (by omega)) (ac (cg rfl) (ac (by omega) (ac (wj (by omega)) (ac (by rw [List.take_of_length_le (show List.length l ≤ i by omega)]) (ac (by omega) (ac (by omega) (ob2 (by omega) (ac (cg (Ah rfl (by omega) (by omega))) (ac (by omega) (ao (wj (by omega))))))))))))) ?_
  exact hw2
theorem Vs {x w : Nat} (hx : x < 18446744073709551616) (hw : w ≤ 8) (h0 : 0 < w) : Pt 126 [] [.int .u64 x, .int .i64 w] [(1, K5 w (le x w))] (.ref 1 [] 1 0 w) := by
 refine pO Tryz.func126 (by kernel_rfl) ?_
 have hs := CY (s := le x w) (i := 0) (by rw [A9]; omega)
 rw [WP (by omega), List.take_zero, List.nil_append, Nat.mul_zero, Nat.pow_zero, Nat.div_one] at hs
 have hw2 := W_dg hx hw (w - 1) 1 (x / 256) _ (by omega) rfl hs
 generalize le x w = L at *
 refine W.sgA 0 [] [] (⟨[(0, .int .u64 x), (1, .int .i64 w), (5, .vec true (.iarr .i64 0 [])), (6, .int .i64 (0 : Int))], []⟩) [] trivial ?_
 refine W.sgA 0 [(0, aV (I6 0)), (2, aT), (5, aV (U6 ↑(x % 256))), (6, aV (I6 ↑(x % 256))), (11, aV (U6 ↑(x / 256))), (13, aV (I6 0)), (14, aV (I6 1))] [(192, 1)] (dsDg (x / 256) w 1 1 [((x % 256 : Nat) : Int)]) [I6 ↑(0 : Nat) = I6 0, decide (0 < (w:Int)) = true, U6 (Int.tmod (x:Int) (256 : Int)) = U6 ↑(x % 256), (256 : Int) ≠ 0, I6 (IntKind.wrap .i64 (↑(x % 256) : Int)) = I6 ↑(x % 256), 1 ≤ 1, 0 < 1, 8 ≤ 140737488355328, 1 ≤ 9223372036854775807, U6 (IntKind.wrap .u64 (Int.tdiv (x:Int) (256 : Int))) = U6 ↑(x / 256), (256 : Int) ≠ 0, I6 ↑(0 : Nat) = I6 0, I6 (IntKind.wrap .i64 ((0 : Int) + (1 : Int))) = I6 1] (ac (cg (by omega)) (ac (dT (by omega)) (ac (cg rfl) (ac (by omega) (ac (wj (by omega)) (ob4 (by omega) (ac (cg (Ah rfl (by omega) (by omega))) (ac (by omega) (ac (cg (by omega)) (ao (wj (by omega)))))))))))) ?_
 exact hw2
def dsN6 (w i : Nat) (L l : List Int) : DS := ⟨[(5, .ref 1 [] 1 0 i), (12, .ref 2 [] 1 0 w), (13, .int .i64 w), (14, .int .i64 i)], [(1, BL i l), (2, K5 w L)]⟩
theorem W_n6 {w : Nat} {L : Liz} (hL : L.length = w) (hb : Bytes L) (hw : w ≤ 8) : ∀ (k i : Nat) (l : List Int), i + k = w → l = L.take i →
  Wt Tryz.f115 [] [] (.str (strOf L)) (Af Tryz.f115 0) (dsN6 w i L l)
 | 0, i, l, hk, hl => by
  have hi : i = w := by omega
  subst hi
  have e : l = L := by rw [hl]; exact List.take_of_length_le (by omega)
  subst e
  refine W.rtA [(0, aF), (2, aV (PV.str (strOf l)))] [] [decide ((i:Int) < (i:Int)) = false, PV.str (strOf (List.take i l)) = PV.str (strOf l), 0 + i ≤ i] (ac (dF (by omega)) (ac (by rw [List.take_of_length_le (show List.length l ≤ i by omega)]) (ao (by omega))))
 | k + 1, i, l, hk, hl => by
  have hll : l.length = i := by rw [hl, List.length_take]; omega
  have hs := CY (s := L) (i := i) (by omega)
  obtain ⟨e, h1⟩ := hb.get i
  rw [e, ← hl] at hs
  have hw2 := W_n6 hL hb hw k (i + 1) _ (by omega) hs
  generalize at0 L i = b at *
  refine W.sgA 0 [(0, aT), (1, aV (PV.at 2 [Stp.idx i 1])), (2, aV (I6 b)), (6, aV (U8 b)), (8, Ans.ups [(1, none), (192, some (Row.mk (B8 (i + 1) (l ++ [(b:Int)])) false))]), (10, aV (I6 ↑(i + 1)))] [(192, 1), (2, 2)] (dsN6 w (i + 1) L (l ++ [(b : Int)])) [decide ((i:Int) < (w:Int)) = true, PV.at 2 [Stp.idx (0 + i) 1] = PV.at 2 [Stp.idx i 1], 0 ≤ (i:Int), (i:Int) < (w:Int), I6 (List.getD L i (0 : Int)) = I6 b, i < w, U8 (IntKind.wrap .u8 (b:Int)) = U8 b, ([(1, none), (192, some (Row.mk (B8 (i + 1) (List.take i l ++ [(b:Int)])) false))] : List (Nat × Option Row)) = [(1, none), (192, some (Row.mk (B8 (i + 1) (l ++ [(b:Int)])) false))], 1 ≤ 1, 0 + i = i, (i + 1) * 1 ≤ 140737488355328, i + 1 ≤ 9223372036854775807, I6 (IntKind.wrap .i64 ((i:Int) + 1)) = I6 ↑(i + 1)] (ac (dT (by omega)) (ac (by simp only [Nat.zero_add]) (ob2 (by omega) (ac (cg (e)) (ac (by omega) (ac (cg (IY rfl (by omega) (by omega))) (ac (by rw [List.take_of_length_le (show List.length l ≤ i by omega)]) (ac (by omega) (ac (by omega) (ob2 (by omega) (ao (wj (by omega))))))))))))) ?_
  exact hw2
theorem Ju {x w : Nat} (hx : x < 18446744073709551616) (hw : w ≤ 8) (h0 : 0 < w) : Pt 115 [] [.int .u64 x, .int .i64 w] [] (.str (strOf (le x w))) := by
 refine pO Tryz.func115 (by kernel_rfl) ?_
 have c1 := Vd hw
 have c2 := Vs hx hw h0
 have hw2 := W_n6 (A9 x w) (Gm x w) hw w 0 [] (by omega) rfl
 have hl := A9 x w
 generalize le x w = L at *
 refine W.sgA 0 [(5, c9 c1), (6, c9 c2)] [(80, 1), (161, 2)] (dsN6 w 0 L []) [_, _] (ac (c1) (ao (c2))) ?_
 exact hw2
theorem OX (a b : List Int) : strOf a ++ strOf b = strOf (a ++ b) := by
 unfold strOf
 apply ByteArray.ext
 simp [List.map_append]
end Go.Proofs
namespace Go.Proofs
open Go Go.Pe Go.Pm
set_option maxRecDepth 100000
set_option linter.unusedVariables false
def dsLi (b w : List Int) (i : Nat) : DS := ⟨[(1, .at 1 []), (2, .at 2 []), (3, .at 3 []), (5, .int .i64 i)], [(1, BL 32 b), (2, ⟨.iarr .u64 4 [0, 0, 0, 0], false⟩), (3, ⟨.iarr .u64 4 w, false⟩)]⟩
set_option maxHeartbeats 4000000 in
theorem Ro {b : Liz} (hb : Bytes b) (hl : b.length = 32) : Pt 102 [] [.iarr .u8 32 b] [] (.iarr .u64 4 (uw (lv b 32))) := by
 refine pO Tryz.func102 (by kernel_rfl) ?_
 rw [lv_uw hb]
 have c : ∀ a, a + 8 ≤ 32 → Pt 118 [] [.vec false (.iarr .u8 8 ((Cx b a).take 8))] [] (.int .u64 ((lv (b.drop a) 8 : Nat) : Int)) := fun a ha => by
  have h := pc_num8 (nl := false) (n := 8) (l := (Cx b a).take 8) (by rw [Bj, List.length_take, List.length_drop]; omega) (by rw [Bj]; exact (hb.drop a).take 8)
  rw [Nat.min_self, TI (Nat.le_refl 8), Bj] at h
  rw [Bj]
  exact h
 have c0 : Pt 118 [] [.vec false (.iarr .u8 8 (b.take 8))] [] (.int .u64 ((lv b 8 : Nat) : Int)) := by
  have := c 0 (by omega)
  rw [Bj] at this
  exact this
 have c1 := c 8 (by omega)
 have c2 := c 16 (by omega)
 have c3 := c 24 (by omega)
 clear c
 generalize lv b 8 = w0 at *
 generalize lv (b.drop 8) 8 = w1 at *
 generalize lv (b.drop 16) 8 = w2 at *
 generalize lv (b.drop 24) 8 = w3 at *
 refine W.sgA 0 [] [(64, 1), (80, 2), (96, 3)] (dsLi b [0, 0, 0, 0] 0) [] trivial ?_
 refine W.sgA 0 [(1, aV (I6 0)), (5, aV (I6 0)), (7, aV (I6 0)), (8, aV (I6 8)), (10, c9 c0), (13, aV (I6 1))] (rI 3) (dsLi b [(w0 : Int), 0, 0, 0] 1) [I6 ↑(0 : Nat) = I6 0, I6 (IntKind.wrap .i64 ((8 : Int) * (0 : Int))) = I6 0, I6 (IntKind.wrap .i64 ((8 : Int) * (0 : Int))) = I6 0, I6 (IntKind.wrap .i64 ((0 : Int) + (8 : Int))) = I6 8, (0 : Int) ≤ 0, (0 : Int) ≤ 8, 8 ≤ (↑(32 : Nat) : Int), 8 ≤ 32, _, (0 : Int) ≤ 0, 0 < (↑(4 : Nat) : Int), 0 < 4, I6 (IntKind.wrap .i64 ((↑(0 : Nat) : Int) + 1)) = I6 1] (ac (cg (by omega)) (ac (wj (by omega)) (ac (wj (by omega)) (ac (wj (by omega)) (ob4 (by omega) (ac (c0) (ob3 (by omega) (ao (wj (by omega)))))))))) ?_
 refine W.sgA 0 [(1, aV (I6 1)), (5, aV (I6 8)), (7, aV (I6 8)), (8, aV (I6 16)), (10, c9 c1), (13, aV (I6 2))] (rI 3) (dsLi b [(w0 : Int), (w1 : Int), 0, 0] 2) [I6 ↑(1 : Nat) = I6 1, I6 (IntKind.wrap .i64 ((8 : Int) * (1 : Int))) = I6 8, I6 (IntKind.wrap .i64 ((8 : Int) * (1 : Int))) = I6 8, I6 (IntKind.wrap .i64 ((8 : Int) + (8 : Int))) = I6 16, (0 : Int) ≤ 8, (8 : Int) ≤ 16, 16 ≤ (↑(32 : Nat) : Int), 16 ≤ 32, _, (0 : Int) ≤ 1, 1 < (↑(4 : Nat) : Int), 1 < 4, I6 (IntKind.wrap .i64 ((↑(1 : Nat) : Int) + 1)) = I6 2] (ac (cg (by omega)) (ac (wj (by omega)) (ac (wj (by omega)) (ac (wj (by omega)) (ob4 (by omega) (ac (c1) (ob3 (by omega) (ao (wj (by omega)))))))))) ?_
 refine W.sgA 0 [(1, aV (I6 2)), (5, aV (I6 16)), (7, aV (I6 16)), (8, aV (I6 24)), (10, c9 c2), (13, aV (I6 3))] (rI 3) (dsLi b [(w0 : Int), (w1 : Int), (w2 : Int), 0] 3) [I6 ↑(2 : Nat) = I6 2, I6 (IntKind.wrap .i64 ((8 : Int) * (2 : Int))) = I6 16, I6 (IntKind.wrap .i64 ((8 : Int) * (2 : Int))) = I6 16, I6 (IntKind.wrap .i64 ((16 : Int) + (8 : Int))) = I6 24, (0 : Int) ≤ 16, (16 : Int) ≤ 24, 24 ≤ (↑(32 : Nat) : Int), 24 ≤ 32, _, (0 : Int) ≤ 2, 2 < (↑(4 : Nat) : Int), 2 < 4, I6 (IntKind.wrap .i64 ((↑(2 : Nat) : Int) + 1)) = I6 3] (ac (cg (by omega)) (ac (wj (by omega)) (ac (wj (by omega)) (ac (wj (by omega)) (ob4 (by omega) (ac (c2) (ob3 (by omega) (ao (wj (by omega)))))))))) ?_
 refine W.sgA 0 [(1, aV (I6 3)), (5, aV (I6 24)), (7, aV (I6 24)), (8, aV (I6 32)), (10, c9 c3), (13, aV (I6 4))] (rI 3) (dsLi b [(w0 : Int), (w1 : Int), (w2 : Int), (w3 : Int)] 4) [I6 ↑(3 : Nat) = I6 3, I6 (IntKind.wrap .i64 ((8 : Int) * (3 : Int))) = I6 24, I6 (IntKind.wrap .i64 ((8 : Int) * (3 : Int))) = I6 24, I6 (IntKind.wrap .i64 ((24 : Int) + (8 : Int))) = I6 32, (0 : Int) ≤ 24, (24 : Int) ≤ 32, 32 ≤ (↑(32 : Nat) : Int), 32 ≤ 32, _, (0 : Int) ≤ 3, 3 < (↑(4 : Nat) : Int), 3 < 4, I6 (IntKind.wrap .i64 ((↑(3 : Nat) : Int) + 1)) = I6 4] (ac (cg (by omega)) (ac (wj (by omega)) (ac (wj (by omega)) (ac (wj (by omega)) (ob4 (by omega) (ac (c3) (ob3 (by omega) (ao (wj (by omega)))))))))) ?_
 refine W.rtA [] [] [] trivial
def hnum (h : Hd) : Nat := lv (Ak h) 32
def meets (h : Hd) : Bool := decide (tgt h.bits ≠ 0 ∧ hnum h ≤ tgt h.bits)
set_option maxHeartbeats 4000000 in
theorem RJ {h : Hd} (ho : h.Ok) : Pt 71 [] [h.pv] [] (.bool (meets h)) := by
 refine pO Tryz.func71 (by kernel_rfl) ?_
 by_cases h0 : tgt h.bits = 0
 ·have c1 := Eu ho.bits h0
  have e : meets h = false := by unfold meets; exact decide_eq_false fun x => x.1 h0
  rw [e]
  refine W.rtA [(4, c9 c1)] [] [_] (ao (c1))
 ·have c1 := DC ho.bits h0
  have c2 := Da ho
  have c3 := Ro (EJ h) (Bq h)
  have hn := OU (EJ h)
  have c4 := Ec hn (BP h.bits)
  have hl := Bq h
  have e0 : meets h = decide (lv (Ak h) 32 ≤ tgt h.bits) := by
   unfold meets hnum
   rw [decide_eq_decide]
   exact ⟨fun x => x.2, fun x => ⟨h0, x⟩⟩
  rw [e0]
  by_cases hc : lv (Ak h) 32 ≤ tgt h.bits
  ·obtain ⟨z, hz, hz0⟩ := O5 hc
   rw [hz] at c4
   rw [decide_eq_true hc]
   generalize lv (Ak h) 32 = v at *
   generalize Ak h = hh at *
   refine W.rtA [(4, c9 c1), (15, c9 c2), (16, c9 c3), (18, c9 c4), (19, aT)] [] [_, _, _, _, decide (z ≤ (0 : Int)) = true] (ac (c1) (ac (c2) (ac (c3) (ac (c4) (ao (dT (by omega)))))))
  ·rw [Un (by omega)] at c4
   rw [decide_eq_false hc]
   generalize lv (Ak h) 32 = v at *
   generalize Ak h = hh at *
   refine W.rtA [(4, c9 c1), (15, c9 c2), (16, c9 c3), (18, c9 c4)] [] [_, _, _, _] (ac (c1) (ac (c2) (ac (c3) (ao (c4)))))
end Go.Proofs
namespace Go.Proofs
open Go Go.Pe Go.Pm
set_option maxRecDepth 100000
set_option linter.unusedVariables false
set_option maxHeartbeats 4000000 in
theorem Su {h : Hd} (ho : h.Ok) : Pt 95 [] [h.pv] [] (.str (strOf (hb h))) := by
 refine pO Tryz.func95 (by kernel_rfl) ?_
 have p1 := ho.ver
 have p2 := ho.time
 have p3 := ho.bits
 have p4 := ho.nonce
 have p5 := ho.prev
 have p6 := ho.root
 have c1 := Ju (x := h.ver) (w := 4) (by omega) (by omega) (by omega)
 have c2 := Ju (x := h.time) (w := 4) (by omega) (by omega) (by omega)
 have c3 := Ju (x := h.bits) (w := 4) (by omega) (by omega) (by omega)
 have c4 := Ju (x := h.nonce) (w := 4) (by omega) (by omega) (by omega)
 have e : strOf (hb h) = ((((strOf (le h.ver 4) ++ strOf h.prev) ++ strOf h.root) ++ strOf (le h.time 4)) ++ strOf (le h.bits 4)) ++ strOf (le h.nonce 4) := by
  unfold hb
  simp only [OX, List.append_assoc]
 rw [e]
 have l1 := A9 h.ver 4
 have l2 := A9 h.time 4
 have l3 := A9 h.bits 4
 have l4 := A9 h.nonce 4
 have s1 : (strOf (le h.ver 4)).size = 4 := by rw [BS, l1]
 have s2 : (strOf h.prev).size = 32 := by rw [BS, p5]
 have s3 : (strOf h.root).size = 32 := by rw [BS, p6]
 have s4 : (strOf (le h.time 4)).size = 4 := by rw [BS, l2]
 have s5 : (strOf (le h.bits 4)).size = 4 := by rw [BS, l3]
 have s6 : (strOf (le h.nonce 4)).size = 4 := by rw [BS, l4]
 generalize le h.ver 4 = a1 at *
 generalize le h.time 4 = a2 at *
 generalize le h.bits 4 = a3 at *
 generalize le h.nonce 4 = a4 at *
 refine W.rtA [(4, aV (U6 ↑(Hd.ver h))), (5, c9 c1), (8, aV (PV.str (strOf (Hd.prev h)))), (12, aV (PV.str (strOf (Hd.root h)))), (18, aV (U6 ↑(Hd.time h))), (19, c9 c2), (23, aV (U6 ↑(Hd.bits h))), (24, c9 c3), (28, aV (U6 ↑(Hd.nonce h))), (29, c9 c4)] [] [U6 (IntKind.wrap .u64 (↑(Hd.ver h) : Int)) = U6 ↑(Hd.ver h), _, (0 : Int) ≤ 0, 0 ≤ (↑(32 : Nat) : Int), (↑(32 : Nat) : Int) ≤ (↑(32 : Nat) : Int), PV.str (strOf (List.take 32 (Hd.prev h))) = PV.str (strOf (Hd.prev h)), 32 ≤ 32, ByteArray.size (strOf a1) + ByteArray.size (strOf (Hd.prev h)) ≤ 9223372036854775807, (0 : Int) ≤ 0, 0 ≤ (↑(32 : Nat) : Int), (↑(32 : Nat) : Int) ≤ (↑(32 : Nat) : Int), PV.str (strOf (List.take 32 (Hd.root h))) = PV.str (strOf (Hd.root h)), 32 ≤ 32, ByteArray.size (strOf a1 ++ strOf (Hd.prev h)) + ByteArray.size (strOf (Hd.root h)) ≤ 9223372036854775807, U6 (IntKind.wrap .u64 (↑(Hd.time h) : Int)) = U6 ↑(Hd.time h), _, ByteArray.size (strOf a1 ++ strOf (Hd.prev h) ++ strOf (Hd.root h)) + ByteArray.size (strOf a2) ≤ 9223372036854775807, U6 (IntKind.wrap .u64 (↑(Hd.bits h) : Int)) = U6 ↑(Hd.bits h), _, ByteArray.size (strOf a1 ++ strOf (Hd.prev h) ++ strOf (Hd.root h) ++ strOf a2) + ByteArray.size (strOf a3) ≤ 9223372036854775807, U6 (IntKind.wrap .u64 (↑(Hd.nonce h) : Int)) = U6 ↑(Hd.nonce h), _, ByteArray.size (strOf a1 ++ strOf (Hd.prev h) ++ strOf (Hd.root h) ++ strOf a2 ++ strOf a3) + ByteArray.size (strOf a4) ≤ 9223372036854775807] (ac (cg (Ah rfl (by omega) (by omega))) (ac (c1) (ob3 (by omega) (ac (by rw [List.take_of_length_le (show List.length (Hd.prev h) ≤ 32 by omega)]) (ob4 (by omega) (ac (by omega) (ac (by rw [List.take_of_length_le (show List.length (Hd.root h) ≤ 32 by omega)]) (ac (by omega) (ac (by (simp; omega)) (ac (cg (Ah rfl (by omega) (by omega))) (ac (c2) (ac (by (simp; omega)) (ac (cg (Ah rfl (by omega) (by omega))) (ac (c3) (ac (by (simp; omega)) (ac (cg (Ah rfl (by omega) (by omega))) (ac (c4) (ao (by (simp; omega))))))))))))))))))))
theorem NJ {h : Hd} (ho : h.Ok) : Pt 62 [] [h.pv] [] (.iarr .u8 32 (Ak h)) := by
 refine pO Tryz.func62 (by kernel_rfl) ?_
 have c1 := Su ho
 have c2 := Vj (s := strOf (hb h)) (by rw [BS, JN ho]; omega)
 rw [Ie (Qv ho)] at c2
 unfold Ak
 generalize EP (hb h) = r at *
 generalize strOf (hb h) = s at *
 refine W.rtA [(3, c9 c1), (4, c9 c2)] [] [_, _] (ac (c1) (ao (c2)))
end Go.Proofs
namespace Go.Proofs
open Go Go.Pe Go.Pm
set_option maxRecDepth 100000
set_option linter.unusedVariables false
instance : Inhabited Hd := ⟨⟨0, [], [], 0, 0, 0⟩⟩
def lpv (nl : Bool) (l : List Hd) : PV := .vec nl (.parr 68 l.length hsh (l.map Hd.pv))
theorem Eg {l : List Hd} {i : Nat} (h : i < l.length) : (l.map Hd.pv).getD i .undef = (l.getD i default).pv := by
 simp [List.getD_eq_getElem?_getD, h]
theorem Mr {l : List Hd} {i : Nat} (ho : ∀ h ∈ l, h.Ok) (hi : i < l.length) : (l.getD i default).Ok := by
 rw [List.getD_eq_getElem?_getD, List.getElem?_eq_getElem hi]
 exact ho _ (List.getElem_mem hi)
set_option maxHeartbeats 4000000 in
theorem Pf {p : Prm} {nl : Bool} {l : List Hd} {n q : Nat} (hp : p.per = (q : Int)) (hq : 1 ≤ q) (hn : l.length = n) (h0 : 0 < n) (hn1 : n ≤ 1000000) (hm : ¬ n % q = 0) : Pt 70 [] [p.pv, lpv nl l] [] (.tup [.int .u32 (l.getD (n - 1) default).bits, .int .i64 0]) := by
 refine pO Tryz.func70 (by kernel_rfl) ?_
 have g := Eg (l := l) (i := n - 1) (by omega)
 have hi : (n : Int) - 1 = ((n - 1 : Nat) : Int) := by omega
 unfold lpv
 rw [hn]
 generalize n - 1 = k at *
 refine W.rtA [(7, aF), (10, aV (I6 k)), (12, aE g), (17, aV (I6 q)), (18, aV (I6 ↑(n % q))), (19, aT)] [] [((n:Int) == 0) = false, I6 (IntKind.wrap .i64 ((n:Int) - 1)) = I6 k, 0 ≤ (k:Int), (k:Int) < (n:Int), _, k < n, I6 (Prm.per p) = I6 q, I6 (Int.tmod (n:Int) (q:Int)) = I6 ↑(n % q), (q:Int) ≠ 0, ((↑(n % q) : Int) != 0) = true] (ac (dF (by omega)) (ac (cg (Ac hi (by omega) (by omega))) (ob2 (by omega) (ac (ex g) (ac (by omega) (ac (cg (hp)) (ac (cg (G9 rfl rfl)) (ac (by omega) (ao (bne_iff_ne.2 (by omega)))))))))))
set_option maxHeartbeats 4000000 in
theorem Js {p : Prm} {nl : Bool} {l : List Hd} {n q : Nat} {x e : Int} (hp : p.per = (q : Int)) (hq : 1 ≤ q) (hn : l.length = n) (h0 : 0 < n) (hn1 : n ≤ 1000000) (hm : n % q = 0)
  (hb : Pt 101 [] [.int .u32 (l.getD (n - 1) default).bits, .int .u32 p.lim, .int .i64 q, .int .i64 p.sp, .int .u32 (l.getD (n - q) default).time, .int .u32 (l.getD (n - 1) default).time] [] (.tup [.int .u32 x, .int .i64 e])) :
  Pt 70 [] [p.pv, lpv nl l] [] (.tup [.int .u32 x, .int .i64 e]) := by
 refine pO Tryz.func70 (by kernel_rfl) ?_
 have hqn : q ≤ n := Nat.le_of_dvd h0 (Nat.dvd_of_mod_eq_zero hm)
 have g := Eg (l := l) (i := n - 1) (by omega)
 have g2 := Eg (l := l) (i := n - q) (by omega)
 have hi : (n : Int) - 1 = ((n - 1 : Nat) : Int) := by omega
 have hi2 : (n : Int) - q = ((n - q : Nat) : Int) := by omega
 have hk2 : n - q < n := by omega
 unfold lpv
 rw [hn]
 generalize n - 1 = k at *
 generalize n - q = k2 at *
 refine W.rtA [(7, aF), (10, aV (I6 k)), (12, aE g), (17, aV (I6 q)), (18, aV (I6 ↑(n % q))), (19, aF), (25, aV (I6 q)), (31, aV (I6 q)), (32, aV (I6 k2)), (35, aV (U3 ↑(Hd.time (List.getD l k2 default)))), (38, c9 hb)] [] [((n:Int) == 0) = false, I6 (IntKind.wrap .i64 ((n:Int) - 1)) = I6 k, 0 ≤ (k:Int), (k:Int) < (n:Int), _, k < n, I6 (Prm.per p) = I6 q, I6 (Int.tmod (n:Int) (q:Int)) = I6 ↑(n % q), (q:Int) ≠ 0, ((↑(n % q) : Int) != 0) = false, I6 (Prm.per p) = I6 q, I6 (Prm.per p) = I6 q, I6 (IntKind.wrap .i64 ((n:Int) - (q:Int))) = I6 k2, 0 ≤ (k2:Int), (k2:Int) < (n:Int), U3 (PV.num (List.headD (List.tail (List.tail (List.tail (PV.fs (List.getD (List.map Hd.pv l) k2 PV.undef))))) PV.undef)) = U3 ↑(Hd.time (List.getD l k2 default)), k2 < n, _] (ac (dF (by omega)) (ac (cg (Ac hi (by omega) (by omega))) (ob2 (by omega) (ac (ex g) (ac (by omega) (ac (cg (hp)) (ac (cg (G9 rfl rfl)) (ac (by omega) (ac (bne_eq_false_iff_eq.2 (by omega)) (ac (cg (hp)) (ac (cg (hp)) (ac (cg (Ac hi2 (by omega) (by omega))) (ob2 (by omega) (ac (cg (by (rw [g2]; rfl))) (ac (by omega) (ao (hb)))))))))))))))))
def tot (s : Nat) : List Hd → Nat × Int
 | [] => (s, 0)
 | h :: t => if tgt h.bits = 0 then (0, 5) else if Aa ≤ s + work (tgt h.bits) then (0, 14) else tot (s + work (tgt h.bits)) t
end Go.Proofs
namespace Go.Proofs
open Go Go.Pe Go.Pm
set_option maxRecDepth 100000
set_option linter.unusedVariables false
theorem Lb (h : Hd) : Pt 15 [] [h.pv] [] h.pv := by
 refine pO Tryz.func15 (by kernel_rfl) ?_
 refine W.rtA [] [] [] trivial
theorem Tx {v : Nat} (hv : v < Aa) : Pt 36 [] [.vec false (.iarr .u64 4 (uw v))] [] (bv false v) := by
 have h := Xr (nl := false) (m := 4) (v := v) (ws := uw v) (by omega) (by omega) rfl (Db.1 (CO.2 hv))
 exact h
set_option maxHeartbeats 4000000 in
theorem Ls {p : Prm} (hs : p.sum < Aa) : Pt 13 [] [p.pv] [] p.rpv := by
 refine pO Tryz.func13 (by kernel_rfl) ?_
 have g1 := Lb p.gen
 have g2 := Tx hs
 unfold uw at g2
 refine W.rtA [(14, c9 g1), (17, aV (U6 ↑(Prm.sum p % 18446744073709551616))), (20, aV (U6 ↑(Prm.sum p / 18446744073709551616 % 18446744073709551616))), (23, aV (U6 ↑(Prm.sum p / 18446744073709551616 / 18446744073709551616 % 18446744073709551616))), (26, aV (U6 ↑(Prm.sum p / 18446744073709551616 / 18446744073709551616 / 18446744073709551616 % 18446744073709551616))), (28, c0 g2)] [] [_, (0 : Int) ≤ 0, 0 < (↑(4 : Nat) : Int), U6 (List.getD (uw (Prm.sum p)) 0 (0 : Int)) = U6 ↑(Prm.sum p % 18446744073709551616), 0 < 4, (0 : Int) ≤ 1, 1 < (↑(4 : Nat) : Int), U6 (List.getD (uw (Prm.sum p)) 1 (0 : Int)) = U6 ↑(Prm.sum p / 18446744073709551616 % 18446744073709551616), 1 < 4, (0 : Int) ≤ 2, 2 < (↑(4 : Nat) : Int), U6 (List.getD (uw (Prm.sum p)) 2 (0 : Int)) = U6 ↑(Prm.sum p / 18446744073709551616 / 18446744073709551616 % 18446744073709551616), 2 < 4, (0 : Int) ≤ 3, 3 < (↑(4 : Nat) : Int), U6 (List.getD (uw (Prm.sum p)) 3 (0 : Int)) = U6 ↑(Prm.sum p / 18446744073709551616 / 18446744073709551616 / 18446744073709551616 % 18446744073709551616), 3 < 4, 4 ≤ 4, _] (ac (g1) (ob2 (by omega) (ac (cg rfl) (ob3 (by omega) (ac (cg rfl) (ob3 (by omega) (ac (cg rfl) (ob3 (by omega) (ac (cg rfl) (ob2 (by omega) (ao (g2))))))))))))
def z32 : List Int := [0, 0, 0, 0, 0, 0, 0, 0, 0, 0, 0, 0, 0, 0, 0, 0, 0, 0, 0, 0, 0, 0, 0, 0, 0, 0, 0, 0, 0, 0, 0, 0]
def AR : Prm := ⟨545259519, 4, 10, 100, 50, ⟨0, z32, z32, 1000, 545259519, 0⟩, 0⟩
def zeroP : Prm := ⟨0, 0, 0, 0, 0, ⟨0, z32, z32, 0, 0, 0⟩, 0⟩
theorem LM : AR.Ok := ⟨by decide, ⟨by decide, by decide, by decide, by decide, rfl, rfl, by decide, by decide⟩, by decide⟩
theorem zero_ok : zeroP.Ok := ⟨by decide, ⟨by decide, by decide, by decide, by decide, rfl, rfl, by decide, by decide⟩, by decide⟩
theorem Vp : AR.May := ⟨by decide +kernel, by decide +kernel, by decide +kernel, by decide, by decide, by decide, by decide⟩
theorem VV : ¬ zeroP.May := fun h => by have := h.per; revert this; decide
theorem VW : Pt 30 [] [] [] AR.pv := by
 refine pO Tryz.func30 (by kernel_rfl) ?_
 refine W.ret [] [] [PV.st 77 [U3 545259519, I6 4, I6 10, I6 100, I6 50, PV.st 68 [U3 0, B8 32 (List.replicate 32 0), B8 32 (List.replicate 32 0), U3 1000, U3 545259519, U3 0], B6 4 [0, 0, 0, 0]] = PV.st 77 [U3 ↑(545259519 : Nat), I6 (Prm.per AR), I6 (Prm.sp AR), I6 (Prm.fu AR), I6 (Prm.cap AR), PV.st 68 [U3 ↑(0 : Nat), B8 32 (List.replicate 32 0), B8 32 (List.replicate 32 0), U3 ↑(1000 : Nat), U3 ↑(545259519 : Nat), U3 ↑(0 : Nat)], B6 4 (uw (Prm.sum AR))]] (by kernel_rfl) (ao rfl)
theorem Vv {l : List Int} (h : ∀ x ∈ l, IntKind.u64.wrap x = x) : ∀ x ∈ l, 0 ≤ x ∧ x ≤ 18446744073709551615 := fun x hx => by
 have := h x hx
 rw [Aq] at this
 exact this
def psh : Sh := .st 77 [.int .u32, .int .i64, .int .i64, .int .i64, .int .i64, hsh, .iarr .u64 4]
theorem prm_of {p : PV} (hc : conf psh p = true) (hw : WF p) : ∃ q : Prm, p = q.pv ∧ q.Ok := by
 have e := BB psh p hc
 obtain ⟨a, b, c, d, x, g, s, rfl⟩ : ∃ a b c d x g s, p = .st 77 [.int .u32 a, .int .i64 b, .int .i64 c, .int .i64 d, .int .i64 x, Bo hsh g, .iarr .u64 4 s] := ⟨_, _, _, _, _, _, _, e.symm⟩
 have hg : conf hsh (Bo hsh g) = true := by
  simp only [psh, conf, DV, Bool.and_eq_true] at hc
  exact hc.2.2.2.2.2.2.1
 simp only [WF, WFL] at hw
 obtain ⟨_, ha, _, _, _, _, hwg, ⟨hs1, hs2⟩, _⟩ := hw
 obtain ⟨h, eh, ho⟩ := hd_of hg hwg
 obtain ⟨a, rfl, ka⟩ := I9 ha
 obtain ⟨v, hv, rfl⟩ := uw_of hs1 (Vv hs2)
 refine ⟨⟨a, b, c, d, x, h, v⟩, ?_, ⟨ka, ho, hv⟩⟩
 rw [eh]
 rfl
end Go.Proofs
namespace Go.Proofs
open Go Go.Pe Go.Pm
set_option maxRecDepth 100000
set_option linter.unusedVariables false
def lk (x : Hd × List Int) : PV := .st 100 [x.1.pv, .iarr .u8 32 x.2]
def H5 : Sh := .st 100 [hsh, .iarr .u8 32]
def links (nl : Bool) (l : List (Hd × List Int)) : PV := .vec nl (.parr 100 l.length H5 (l.map lk))
theorem O1 {l : List (Hd × List Int)} {i : Nat} (h : i < l.length) : (l.map lk).getD i .undef = lk (l.getD i default) := by
 simp [List.getD_eq_getElem?_getD, h]
set_option maxHeartbeats 4000000 in
theorem P8 {p : Prm} {nl : Bool} {l : List (Hd × List Int)} {n q : Nat} (hp : p.per = (q : Int)) (hq : 1 ≤ q) (hn : l.length = n) (h0 : 0 < n) (hn1 : n ≤ 1000000) (hm : ¬ n % q = 0) : Pt 64 [] [p.rpv, links nl l] [] (.tup [.int .u32 (l.getD (n - 1) default).1.bits, .bool true]) := by
 refine pO Tryz.func64 (by kernel_rfl) ?_
 have g := O1 (l := l) (i := n - 1) (by omega)
 have hi : (n : Int) - 1 = ((n - 1 : Nat) : Int) := by omega
 have hk : n - 1 < n := by omega
 unfold links
 rw [hn]
 generalize n - 1 = k at *
 refine W.rtA [(6, aV (I6 k)), (9, aV (PV.st 68 [U3 ↑(Hd.ver (Prod.fst (List.getD l k (default, [])))), B8 32 (Hd.prev (Prod.fst (List.getD l k (default, [])))), B8 32 (Hd.root (Prod.fst (List.getD l k (default, [])))), U3 ↑(Hd.time (Prod.fst (List.getD l k (default, [])))), U3 ↑(Hd.bits (Prod.fst (List.getD l k (default, [])))), U3 ↑(Hd.nonce (Prod.fst (List.getD l k (default, []))))])), (15, aV (I6 q)), (16, aV (I6 ↑(n % q))), (17, aT)] [] [I6 (IntKind.wrap .i64 ((n:Int) - 1)) = I6 k, 0 ≤ (k:Int), (k:Int) < (n:Int), Bo hsh (List.headD (PV.fs (List.getD (List.map lk l) k PV.undef)) PV.undef) = PV.st 68 [U3 ↑(Hd.ver (Prod.fst (List.getD l k (default, [])))), B8 32 (Hd.prev (Prod.fst (List.getD l k (default, [])))), B8 32 (Hd.root (Prod.fst (List.getD l k (default, [])))), U3 ↑(Hd.time (Prod.fst (List.getD l k (default, [])))), U3 ↑(Hd.bits (Prod.fst (List.getD l k (default, [])))), U3 ↑(Hd.nonce (Prod.fst (List.getD l k (default, []))))], k < n, I6 (Prm.per p) = I6 q, I6 (Int.tmod (n:Int) (q:Int)) = I6 ↑(n % q), (q:Int) ≠ 0, ((↑(n % q) : Int) != 0) = true] (ac (cg (Ac hi (by omega) (by omega))) (ob2 (by omega) (ac (by (rw [g]; rfl)) (ac (by omega) (ac (cg (hp)) (ac (cg (G9 rfl rfl)) (ac (by omega) (ao (bne_iff_ne.2 (by omega))))))))))
set_option maxHeartbeats 4000000 in
theorem KW {p : Prm} {nl : Bool} {l : List (Hd × List Int)} {n q : Nat} {x : Int} {b : Bool} (hp : p.per = (q : Int)) (hq : 1 ≤ q) (hn : l.length = n) (h0 : 0 < n) (hn1 : n ≤ 1000000) (hm : n % q = 0)
  (hb : Pt 96 [] [.int .u32 (l.getD (n - 1) default).1.bits, .int .u32 p.lim, .int .i64 q, .int .i64 p.sp, .int .u32 (l.getD (n - q) default).1.time, .int .u32 (l.getD (n - 1) default).1.time] [] (.tup [.int .u32 x, .bool b])) :
  Pt 64 [] [p.rpv, links nl l] [] (.tup [.int .u32 x, .bool b]) := by
 refine pO Tryz.func64 (by kernel_rfl) ?_
 have hqn : q ≤ n := Nat.le_of_dvd h0 (Nat.dvd_of_mod_eq_zero hm)
 have g := O1 (l := l) (i := n - 1) (by omega)
 have g2 := O1 (l := l) (i := n - q) (by omega)
 have hi : (n : Int) - 1 = ((n - 1 : Nat) : Int) := by omega
 have hi2 : (n : Int) - q = ((n - q : Nat) : Int) := by omega
 have hk2 : n - q < n := by omega
 have hk : n - 1 < n := by omega
 unfold links
 rw [hn]
 generalize n - 1 = k at *
 generalize n - q = k2 at *
 refine W.rtA [(6, aV (I6 k)), (9, aV (PV.st 68 [U3 ↑(Hd.ver (Prod.fst (List.getD l k (default, [])))), B8 32 (Hd.prev (Prod.fst (List.getD l k (default, [])))), B8 32 (Hd.root (Prod.fst (List.getD l k (default, [])))), U3 ↑(Hd.time (Prod.fst (List.getD l k (default, [])))), U3 ↑(Hd.bits (Prod.fst (List.getD l k (default, [])))), U3 ↑(Hd.nonce (Prod.fst (List.getD l k (default, []))))])), (15, aV (I6 q)), (16, aV (I6 ↑(n % q))), (17, aF), (22, aV (I6 q)), (23, aV (I6 k2)), (26, aV (PV.st 68 [U3 ↑(Hd.ver (Prod.fst (List.getD l k2 (default, [])))), B8 32 (Hd.prev (Prod.fst (List.getD l k2 (default, [])))), B8 32 (Hd.root (Prod.fst (List.getD l k2 (default, [])))), U3 ↑(Hd.time (Prod.fst (List.getD l k2 (default, [])))), U3 ↑(Hd.bits (Prod.fst (List.getD l k2 (default, [])))), U3 ↑(Hd.nonce (Prod.fst (List.getD l k2 (default, []))))])), (34, aV (I6 q)), (41, c9 hb)] [] [I6 (IntKind.wrap .i64 ((n:Int) - 1)) = I6 k, 0 ≤ (k:Int), (k:Int) < (n:Int), Bo hsh (List.headD (PV.fs (List.getD (List.map lk l) k PV.undef)) PV.undef) = PV.st 68 [U3 ↑(Hd.ver (Prod.fst (List.getD l k (default, [])))), B8 32 (Hd.prev (Prod.fst (List.getD l k (default, [])))), B8 32 (Hd.root (Prod.fst (List.getD l k (default, [])))), U3 ↑(Hd.time (Prod.fst (List.getD l k (default, [])))), U3 ↑(Hd.bits (Prod.fst (List.getD l k (default, [])))), U3 ↑(Hd.nonce (Prod.fst (List.getD l k (default, []))))], k < n, I6 (Prm.per p) = I6 q, I6 (Int.tmod (n:Int) (q:Int)) = I6 ↑(n % q), (q:Int) ≠ 0, ((↑(n % q) : Int) != 0) = false, I6 (Prm.per p) = I6 q, I6 (IntKind.wrap .i64 ((n:Int) - (q:Int))) = I6 k2, 0 ≤ (k2:Int), (k2:Int) < (n:Int), Bo hsh (List.headD (PV.fs (List.getD (List.map lk l) k2 PV.undef)) PV.undef) = PV.st 68 [U3 ↑(Hd.ver (Prod.fst (List.getD l k2 (default, [])))), B8 32 (Hd.prev (Prod.fst (List.getD l k2 (default, [])))), B8 32 (Hd.root (Prod.fst (List.getD l k2 (default, [])))), U3 ↑(Hd.time (Prod.fst (List.getD l k2 (default, [])))), U3 ↑(Hd.bits (Prod.fst (List.getD l k2 (default, [])))), U3 ↑(Hd.nonce (Prod.fst (List.getD l k2 (default, []))))], k2 < n, I6 (Prm.per p) = I6 q, _] (ac (cg (Ac hi (by omega) (by omega))) (ob2 (by omega) (ac (by (rw [g]; rfl)) (ac (by omega) (ac (cg (hp)) (ac (cg (G9 rfl rfl)) (ac (by omega) (ac (bne_eq_false_iff_eq.2 (by omega)) (ac (cg (hp)) (ac (cg (Ac hi2 (by omega) (by omega))) (ob2 (by omega) (ac (by (rw [g2]; rfl)) (ac (by omega) (ac (cg (hp)) (ao (hb))))))))))))))))
theorem QP {t : Nat} (h0 : 0 < t) (ht : t < Aa) : Aa / (t + 1) = work t := by
 unfold work
 split
 ·rename_i h; subst h
  rw [Nat.sub_add_cancel Bg, Nat.div_self Bg]
 ·rw [if_neg (by omega)]
  have e : Aa = (Aa - 1 - t) + (t + 1) := by omega
  conv => lhs; rw [e]
  rw [Nat.add_div_right _ (by omega)]
theorem Rf {t : Nat} (h0 : 0 < t) (ht : t < Aa) : 0 < work t := by
 rw [← QP h0 ht]
 exact Nat.div_pos (by omega) (by omega)
theorem Vb {h : Hd} (ho : h.Ok) (h0 : ¬ tgt h.bits = 0) : Pt 40 [] [h.pv] [] (.tup [bv false (work (tgt h.bits)), .bool true]) := by
 refine pO Tryz.func40 (by kernel_rfl) ?_
 have c1 := Bz ho.bits h0
 have hlt := BP h.bits
 have hp := Rf (by omega) hlt
 have hq := QP (by omega) hlt
 have n1 := CO.2 hlt
 have n2 : nd (tgt h.bits + 1) ≤ 1000 := by have := LJ (tgt h.bits) 1; have : nd 1 = 1 := rfl; omega
 have c2 := PG (na := false) (a := tgt h.bits) (by omega)
 have c3 := Lh (k := 256) (by omega)
 have c4 := Ug (na := false) (nb := false) (a := 2 ^ 256) (b := tgt h.bits + 1) (by rw [J8]; omega) n2 (by omega)
 have e : 2 ^ 256 / (tgt h.bits + 1) = work (tgt h.bits) := hq
 rw [e, decide_eq_false (by omega)] at c4
 generalize hX : 2 ^ 256 = X at *
 generalize work (tgt h.bits) = w at *
 generalize tgt h.bits = t at *
 refine W.rtA [(5, c0 c1), (13, c0 c3), (16, c0 c2), (17, c0 c4)] [] [_, _, 1 ≤ 1, _, _] (ac (c1) (ac (c3) (ac (by omega) (ac (c2) (ao (c4))))))
end Go.Proofs
namespace Go.Pm
def swap (l : List Int) (j : Nat) : List Int := (l.set (j + 1) (l.getD j 0)).set j (l.getD (j + 1) 0)
def sink : Nat → List Int → List Int
 | 0, l => l
 | j + 1, l => if l.getD (j + 1) 0 < l.getD j 0 then sink j (swap l j) else l
def Dt : Nat → Nat → List Int → List Int
 | 0, _, l => l
 | k + 1, i, l => Dt k (i + 1) (sink i l)
theorem Hg (l : List Int) (j : Nat) : (swap l j).length = l.length := by simp [swap]
theorem Ut {l : List Int} {j : Nat} (h : j + 1 < l.length) (a : Nat) : (swap l j).getD a 0 = if a = j then l.getD (j + 1) 0 else if a = j + 1 then l.getD j 0 else l.getD a 0 := by
 unfold swap
 simp only [List.getD_eq_getElem?_getD, List.getElem?_set, List.length_set]
 by_cases h1 : a = j
 ·subst h1
  simp [show a < l.length by omega]
 ·by_cases h2 : a = j + 1
  ·subst h2
   simp [h]
  ·simp [h1, h2, show ¬ j = a by omega, show ¬ j + 1 = a by omega]
theorem swap_perm {l : List Int} {j : Nat} (h : j + 1 < l.length) : (swap l j).Perm l := by
 unfold swap
 have e1 : l.getD j 0 = l[j] := by simp [List.getD_eq_getElem?_getD, show j < l.length by omega]
 have e2 : l.getD (j + 1) 0 = l[j + 1] := by simp [List.getD_eq_getElem?_getD, h]
 rw [e1, e2]
 exact List.set_set_perm h (by omega)
theorem GN : ∀ (j : Nat) (l : List Int), (sink j l).length = l.length
 | 0, l => rfl
 | j + 1, l => by
  unfold sink
  split
  ·rw [GN j, Hg]
  ·rfl
theorem OB : ∀ (j : Nat) (l : List Int), j < l.length → (sink j l).Perm l
 | 0, l, _ => .refl _
 | j + 1, l, h => by
  unfold sink
  split
  ·exact (OB j _ (by rw [Hg]; omega)).trans (swap_perm h)
  ·exact .refl _
theorem Mt : ∀ (k i : Nat) (l : List Int), i + k ≤ l.length → (Dt k i l).Perm l
 | 0, i, l, _ => .refl _
 | k + 1, i, l, h => (Mt k (i + 1) _ (by rw [GN]; omega)).trans (OB i l (by omega))
def Gw (i : Nat) (l : List Int) : Prop := ∀ a b, a < b → b < i → l.getD a 0 ≤ l.getD b 0
theorem Ky : ∀ (j : Nat) (l : List Int) (i : Nat), j ≤ i → i < l.length → (∀ a b, a < b → b ≤ i → a ≠ j → b ≠ j → l.getD a 0 ≤ l.getD b 0) → (∀ b, j < b → b ≤ i → l.getD j 0 ≤ l.getD b 0) → Gw (i + 1) (sink j l)
 | 0, l, i, _, _, h1, h2 => fun a b hab hb => by
  show l.getD a 0 ≤ l.getD b 0
  by_cases ha : a = 0
  ·subst ha; exact h2 b hab (by omega)
  ·exact h1 a b hab (by omega) ha (by omega)
 | j + 1, l, i, hj, hi, h1, h2 => by
  unfold sink
  split
  ·rename_i hc
   have hs := Ut (l := l) (j := j) (by omega)
   refine Ky j _ i (by omega) (by rw [Hg]; exact hi) (fun a b hab hb ha' hb' => ?_) (fun b hb hbi => ?_)
   ·rw [hs a, hs b, if_neg ha', if_neg hb']
    by_cases e1 : a = j + 1
    ·rw [if_pos e1, if_neg (by omega)]
     exact h1 j b (by omega) hb (by omega) (by omega)
    ·rw [if_neg e1]
     by_cases e2 : b = j + 1
     ·rw [if_pos e2]
      exact h1 a j (by omega) (by omega) e1 (by omega)
     ·rw [if_neg e2]
      exact h1 a b hab hb e1 e2
   ·rw [hs j, hs b, if_pos rfl, if_neg (by omega)]
    by_cases e2 : b = j + 1
    ·rw [if_pos e2]; omega
    ·rw [if_neg e2]
     exact h2 b (by omega) hbi
  ·rename_i hc
   intro a b hab hb
   by_cases e1 : a = j + 1
   ·subst e1; exact h2 b hab (by omega)
   ·by_cases e2 : b = j + 1
    ·subst e2
     by_cases e3 : a = j
     ·subst e3; omega
     ·have := h1 a j (by omega) (by omega) (by omega) (by omega)
      omega
    ·exact h1 a b hab (by omega) e1 e2
theorem Jf : ∀ (k i : Nat) (l : List Int), i + k ≤ l.length → Gw i l → Gw (i + k) (Dt k i l)
 | 0, i, l, _, h => h
 | k + 1, i, l, hl, h => by
  have := Jf k (i + 1) (sink i l) (by rw [GN]; omega) (Ky i l i (Nat.le_refl _) (by omega) (fun a b hab hb _ hb' => h a b hab (by omega)) (fun b hb hbi => by omega))
  rw [show i + (k + 1) = i + 1 + k by omega]
  exact this
def lt (m : Int) (l : List Int) : Nat := l.countP fun x => decide (x < m)
def eqs (m : Int) (l : List Int) : Nat := l.countP fun x => decide (x = m)
def isM (m : Int) (l : List Int) : Bool := if l = [] then decide (m = 0) else decide (lt m l ≤ l.length / 2) && (decide (l.length / 2 < lt m l + eqs m l) && decide (0 < eqs m l))
def Av (l : List Int) : List Int := l.drop (l.length - 11)
def middle (l : List Int) : Int := (Dt (l.length - 1) 1 l).getD (l.length / 2) 0
def Br (l : List Int) : Int := if l = [] then 0 else middle (Av l)
theorem Wi (m : Int) (l : List Int) : lt m l + eqs m l = l.countP fun x => decide (x ≤ m) := by
 induction l with
 | nil => rfl
 | cons x l ih =>
  simp only [lt, eqs, List.countP_cons] at ih ⊢
  by_cases h1 : x < m
  ·simp [h1, show ¬ x = m by omega, show x ≤ m by omega]; omega
  ·by_cases h2 : x = m
   ·subst h2; simp; omega
   ·simp [h1, h2, show ¬ x ≤ m by omega]; omega
theorem lt_perm {l l' : List Int} (h : l.Perm l') (m : Int) : lt m l = lt m l' := h.countP_eq _
theorem WZ {l l' : List Int} (h : l.Perm l') (m : Int) : eqs m l = eqs m l' := h.countP_eq _
theorem XV {l l' : List Int} (h : l.Perm l') (m : Int) : isM m l = isM m l' := by
 unfold isM
 rw [lt_perm h, WZ h, h.length_eq]
 by_cases h0 : l = []
 ·subst h0
  have := h.symm.eq_nil
  simp [this]
 ·rw [if_neg h0, if_neg]
  rintro rfl
  exact h0 h.eq_nil
theorem SF {l : List Int} {m m' : Int} (h0 : l ≠ []) (h : isM m l = true) (h' : isM m' l = true) : m = m' := by
 have key : ∀ a b : Int, isM a l = true → isM b l = true → ¬ a < b := by
  intro a b ha hb hab
  simp only [isM, if_neg h0, Bool.and_eq_true, decide_eq_true_eq] at ha hb
  have e := Wi a l
  have : (l.countP fun x => decide (x ≤ a)) ≤ lt b l := List.countP_mono_left (fun x _ hx => by simp at hx ⊢; omega)
  omega
 have h1 := key m m' h h'
 have h2 := key m' m h' h
 omega
theorem RH {s : List Int} (h0 : s ≠ []) (h : Gw s.length s) : isM (s.getD (s.length / 2) 0) s = true := by
 have hl : 0 < s.length := List.length_pos_iff.2 h0
 have hm : s.length / 2 < s.length := by omega
 generalize hmm : s.getD (s.length / 2) 0 = m
 have hget : ∀ i (hi : i < s.length), s.getD i 0 = s[i] := fun i hi => by simp [List.getD_eq_getElem?_getD, hi]
 simp only [isM, if_neg h0, Bool.and_eq_true, decide_eq_true_eq]
 refine ⟨?_, ?_, ?_⟩
 ·unfold lt
  rw [← List.take_append_drop (s.length / 2) s, List.countP_append]
  have h1 : (s.take (s.length / 2)).countP (fun x => decide (x < m)) ≤ s.length / 2 := by
   refine Nat.le_trans List.countP_le_length ?_
   simp; omega
  have h2 : (s.drop (s.length / 2)).countP (fun x => decide (x < m)) = 0 := by
   rw [List.countP_eq_zero]
   intro x hx
   obtain ⟨i, hi, rfl⟩ := List.mem_iff_getElem.1 hx
   simp only [List.length_drop] at hi
   simp only [List.getElem_drop, decide_eq_true_eq, Int.not_lt]
   have := hget (s.length / 2 + i) (by omega)
   rw [← this, ← hmm]
   rcases Nat.eq_zero_or_pos i with h0 | h0
   ·subst h0; exact Int.le_refl _
   ·exact h _ _ (by omega) (by omega)
  rw [h2]
  have : (List.take (s.length / 2) s ++ List.drop (s.length / 2) s).length = s.length := by simp
  omega
 ·rw [Wi]
  rw [← List.take_append_drop (s.length / 2 + 1) s, List.countP_append]
  have h1 : (s.take (s.length / 2 + 1)).countP (fun x => decide (x ≤ m)) = s.length / 2 + 1 := by
   have : (s.take (s.length / 2 + 1)).countP (fun x => decide (x ≤ m)) = (s.take (s.length / 2 + 1)).length := by
    rw [List.countP_eq_length]
    intro x hx
    obtain ⟨i, hi, rfl⟩ := List.mem_iff_getElem.1 hx
    simp only [List.length_take] at hi
    simp only [List.getElem_take, decide_eq_true_eq]
    have := hget i (by omega)
    rw [← this, ← hmm]
    by_cases e : i = s.length / 2
    ·subst e; exact Int.le_refl _
    ·exact h _ _ (by omega) (by omega)
   rw [this]
   simp; omega
  rw [h1]
  have : (List.take (s.length / 2 + 1) s ++ List.drop (s.length / 2 + 1) s).length = s.length := by simp
  omega
 ·unfold eqs
  rw [List.countP_pos_iff]
  refine ⟨m, ?_, by simp⟩
  rw [← hmm, hget _ hm]
  exact List.getElem_mem _
theorem Df {l : List Int} : Av l = [] ↔ l = [] := by
 unfold Av
 rw [List.drop_eq_nil_iff]
 constructor
 ·intro h; exact List.eq_nil_of_length_eq_zero (by omega)
 ·rintro rfl; simp
theorem Rs {l : List Int} (h0 : l ≠ []) : isM (middle l) l = true := by
 have hl : 0 < l.length := List.length_pos_iff.2 h0
 have hp := Mt (l.length - 1) 1 l (by omega)
 have hs := Jf (l.length - 1) 1 l (by omega) (fun a b h1 h2 => by omega)
 rw [← XV hp]
 unfold middle
 have hlen := hp.length_eq
 have hs : Gw (Dt (l.length - 1) 1 l).length (Dt (l.length - 1) 1 l) := by
  rw [hlen]
  rwa [show 1 + (l.length - 1) = l.length by omega] at hs
 generalize Dt (l.length - 1) 1 l = s at *
 rw [← hlen] at hl ⊢
 exact RH (fun e => by subst e; simp at hl) hs
theorem GD (l : List Int) : isM (Br l) (Av l) = true := by
 unfold Br
 by_cases h : l = []
 ·subst h; rfl
 ·rw [if_neg h]
  exact Rs fun e => h (Df.1 e)
theorem Sw {l : List Int} {m : Int} (h : isM m (Av l) = true) : m = Br l := by
 by_cases h0 : l = []
 ·subst h0
  simp [isM, Av] at h
  subst h; rfl
 ·exact SF (fun e => h0 (Df.1 e)) h (GD l)
theorem Ra {l : List Int} (h : l ≠ []) : Br l ∈ Av l := by
 have h1 := GD l
 have h2 : Av l ≠ [] := fun e => h (Df.1 e)
 simp only [isM, if_neg h2, Bool.and_eq_true, decide_eq_true_eq] at h1
 obtain ⟨x, hx, hx2⟩ := List.countP_pos_iff.1 h1.2.2
 simp at hx2
 rwa [← hx2]
end Go.Pm
namespace Go.Proofs
open Go Go.Pe Go.Pm
set_option maxRecDepth 100000
theorem Xv (x : Int) : Pt 161 [] [.int .u32 x] [] (.bool false) := by
 refine pO Tryz.func161 (by kernel_rfl) ?_
 refine W.rtA [(3, aF)] [] [(x != x) = false] (ao (bne_eq_false_iff_eq.2 (by omega)))
theorem Ul (x y : Int) : Pt 149 [] [.int .u32 x, .int .u32 y] [] (.bool (decide (x < y))) := by
 refine pO Tryz.func149 (by kernel_rfl) ?_
 refine W.rtA [(2, aK (PV.bool false))] [] [Pt 161 [] [U3 x] [] (PV.bool false)] (ao (Xv _))
theorem XX (x y : Int) (h : x < y) : Pt 149 [] [.int .u32 x, .int .u32 y] [] (.bool true) := by
 have := Ul x y
 rwa [decide_eq_true h] at this
theorem XK (x y : Int) (h : ¬ x < y) : Pt 149 [] [.int .u32 x, .int .u32 y] [] (.bool false) := by
 have := Ul x y
 rwa [decide_eq_false h] at this
def LU (n : Nat) (l : List Int) : Row := ⟨.iarr .u32 n l, false⟩
def dsO (n i : Nat) (l : List Int) : DS := ⟨[(0, .ref 0 [] 1 0 n), (1, .int .i64 0), (2, .int .i64 n), (6, .int .i64 i)], [(0, LU n l)]⟩
def dsI (n i j : Nat) (l : List Int) : DS := ⟨[(0, .ref 0 [] 1 0 n), (1, .int .i64 0), (2, .int .i64 n), (6, .int .i64 i), (7, .int .i64 j)], [(0, LU n l)]⟩
theorem TY {n i : Nat} {hout : Lrz} {res : PV} (hn : n < 1000) (hi : i < n) : ∀ (j : Nat) (l : List Int), j ≤ i → 
   Wt Tryz.f143 [0] hout res (Af Tryz.f143 0) (dsO n (i + 1) (sink j l)) → Wt Tryz.f143 [0] hout res (Af Tryz.f143 1) (dsI n i j l)
  | 0, l, _, h => by
    refine W.sgA 0 [(0, aV (I6 0)), (16, aV (I6 ↑(i + 1)))] [(0, 0)] (dsO n (i + 1) (sink 0 l)) [I6 ↑(0 : Nat) = I6 0, I6 (IntKind.wrap .i64 ((i:Int) + 1)) = I6 ↑(i + 1)] (ac (cg (by omega)) (ao (wj (by omega)))) ?_
    exact h
  | j + 1, l, hj, h => by
    by_cases hc : l.getD (j + 1) 0 < l.getD j 0
    · refine W.seg [(2, aT), (6, aV (PV.at 0 [Stp.idx (j + 1) 1])), (10, aV (I6 (j:Int))), (11, aV (PV.at 0 [Stp.idx j 1])), (13, aK (PV.bool true)), (19, aV (I6 (j:Int))), (22, aV (I6 (j:Int))), (23, aV (PV.at 0 [Stp.idx j 1])), (27, aV (PV.at 0 [Stp.idx (j + 1) 1])), (29, aV (PV.at 0 [Stp.idx (j + 1) 1])), (31, aV (PV.at 0 [Stp.idx j 1])), (34, aV (I6 (j:Int)))] [(0, 0)] (dsI n i j (swap l j)) (todo' := Af Tryz.f143 1) [decide ((↑(j + 1) : Int) > 0) = true, PV.at 0 [Stp.idx (0 + Int.toNat (↑(j + 1) : Int)) 1] = PV.at 0 [Stp.idx (j + 1) 1], 0 ≤ (↑(j + 1) : Int), (↑(j + 1) : Int) < (n:Int), j + 1 < n, I6 (IntKind.wrap .i64 ((↑(j + 1) : Int) - 1)) = I6 (j:Int), PV.at 0 [Stp.idx (0 + j) 1] = PV.at 0 [Stp.idx j 1], 0 ≤ (j:Int), (j:Int) < (n:Int), j < n, Pt 149 [] [U3 (List.getD l (j + 1) (0 : Int)), U3 (List.getD l j (0 : Int))] [] (PV.bool true), I6 (IntKind.wrap .i64 ((↑(j + 1) : Int) - 1)) = I6 (j:Int), I6 (IntKind.wrap .i64 ((↑(j + 1) : Int) - 1)) = I6 (j:Int), PV.at 0 [Stp.idx (0 + j) 1] = PV.at 0 [Stp.idx j 1], 0 ≤ (j:Int), (j:Int) < (n:Int), j < n, PV.at 0 [Stp.idx (0 + Int.toNat (↑(j + 1) : Int)) 1] = PV.at 0 [Stp.idx (j + 1) 1], 0 ≤ (↑(j + 1) : Int), (↑(j + 1) : Int) < (n:Int), j + 1 < n, PV.at 0 [Stp.idx (0 + Int.toNat (↑(j + 1) : Int)) 1] = PV.at 0 [Stp.idx (j + 1) 1], 0 ≤ (↑(j + 1) : Int), (↑(j + 1) : Int) < (n:Int), j + 1 < n, PV.at 0 [Stp.idx (0 + j) 1] = PV.at 0 [Stp.idx j 1], 0 ≤ (j:Int), (j:Int) < (n:Int), j < n, I6 (IntKind.wrap .i64 ((↑(j + 1) : Int) - 1)) = I6 (j:Int), rr (PV.ref 0 [] 1 0 n), rr (I6 0), rr (I6 (n:Int)), rr (I6 (i:Int)), rr (I6 (j:Int)), B3 n (List.set (List.set l (j + 1) (List.getD l j (0 : Int))) j (List.getD l (j + 1) (0 : Int))) = B3 n (swap l j)] (by kernel_rfl) (ac (dT (by omega)) (ac (by (rw [show Int.toNat (↑(j + 1) : Int) = j + 1 by omega]; simp only [Nat.zero_add])) (ac (by omega) (ac (by omega) (ac (by omega) (ac (cg (Ac (by omega) (by omega) (by omega))) (ac (by simp only [Nat.zero_add]) (ac (by omega) (ac (by omega) (ac (by omega) (ac (XX _ _ (by first | omega | decide)) (ac (cg (Ac (by omega) (by omega) (by omega))) (ac (cg (Ac (by omega) (by omega) (by omega))) (ac (by simp only [Nat.zero_add]) (ac (by omega) (ac (by omega) (ac (by omega) (ac (by (rw [show Int.toNat (↑(j + 1) : Int) = j + 1 by omega]; simp only [Nat.zero_add])) (ac (by omega) (ac (by omega) (ac (by omega) (ac (by (rw [show Int.toNat (↑(j + 1) : Int) = j + 1 by omega]; simp only [Nat.zero_add])) (ac (by omega) (ac (by omega) (ac (by omega) (ac (by simp only [Nat.zero_add]) (ac (by omega) (ac (by omega) (ac (by omega) (ac (cg (Ac (by omega) (by omega) (by omega))) (ac rfl (ac rfl (ac rfl (ac rfl (ac rfl (ao rfl)))))))))))))))))))))))))))))))))))) ?_
      exact TY hn hi j (swap l j) (by omega) (by rw [sink, if_pos hc] at h; exact h)
    · refine W.sg 0 [(2, aT), (6, aV (PV.at 0 [Stp.idx (j + 1) 1])), (10, aV (I6 (j:Int))), (11, aV (PV.at 0 [Stp.idx j 1])), (13, aK (PV.bool false)), (16, aV (I6 (↑(i + 1) : Int)))] [(0, 0)] (dsO n (i + 1) l) [decide ((↑(j + 1) : Int) > 0) = true, PV.at 0 [Stp.idx (0 + Int.toNat (↑(j + 1) : Int)) 1] = PV.at 0 [Stp.idx (j + 1) 1], 0 ≤ (↑(j + 1) : Int), (↑(j + 1) : Int) < (n:Int), j + 1 < n, I6 (IntKind.wrap .i64 ((↑(j + 1) : Int) - 1)) = I6 (j:Int), PV.at 0 [Stp.idx (0 + j) 1] = PV.at 0 [Stp.idx j 1], 0 ≤ (j:Int), (j:Int) < (n:Int), j < n, Pt 149 [] [U3 (List.getD l (j + 1) (0 : Int)), U3 (List.getD l j (0 : Int))] [] (PV.bool false), I6 (IntKind.wrap .i64 ((i:Int) + 1)) = I6 (↑(i + 1) : Int)] (by kernel_rfl) (ac (dT (by omega)) (ac (by (rw [show Int.toNat (↑(j + 1) : Int) = j + 1 by omega]; simp only [Nat.zero_add])) (ac (by omega) (ac (by omega) (ac (by omega) (ac (cg (Ac (by omega) (by omega) (by omega))) (ac (by simp only [Nat.zero_add]) (ac (by omega) (ac (by omega) (ac (by omega) (ac (XK _ _ (by first | omega | decide)) (ao (cg (Ac rfl (by omega) (by omega))))))))))))))) ?_
      rw [sink, if_neg hc] at h; exact h
theorem Tu {n : Nat} (hn : n < 1000) : ∀ (k i : Nat) (l : List Int), i + k = n ∨ (k = 0 ∧ n ≤ i) → i ≤ n + 1 → 
   Wt Tryz.f143 [0] [(0, LU n (Dt k i l))] (.tup []) (Af Tryz.f143 0) (dsO n i l)
  | 0, i, l, h, h1 => by
    refine W.rtA [(2, aF)] [(0, 0)] [decide ((i:Int) < (n:Int)) = false] (ao (dF (by omega)))
  | k + 1, i, l, h, h1 => by
    refine W.sgA 1 [(2, aT)] [(0, 0)] (dsI n i i l) [decide ((i:Int) < (n:Int)) = true] (ao (dT (by omega))) ?_
    exact TY hn (by omega) i l (Nat.le_refl i) (Tu hn k (i + 1) (sink i l) (by omega) (by omega))
theorem Wq {n : Nat} (hn : n < 1000) (l : List Int) : Pt 143 [(0, LU n l)] [.ref 0 [] 1 0 n, .int .i64 0, .int .i64 n] [(0, LU n (Dt (n - 1) 1 l))] (.tup []) := by
 refine pO Tryz.func143 (by kernel_rfl) ?_
 refine W.sgA 0 [(1, aV (I6 1))] [(0, 0)] (dsO n 1 l) [I6 (IntKind.wrap .i64 ((0 : Int) + (1 : Int))) = I6 1] (ao (wj (by omega))) ?_
 exact Tu hn (n - 1) 1 l (by omega) (by omega)
def IB (x : Nat) : Nat := [0, 1, 2, 2, 3, 3, 3, 3, 4, 4, 4, 4, 4].getD x 0
theorem UN {x : Nat} (hx : x < 12) : Pt 104 [] [.int .u64 x] [] (.int .i64 (IB x)) := by
 refine pO Tryz.func104 (by kernel_rfl) ?_
 refine W.rtA [(2, Ans.dec false), (4, Ans.dec false), (6, Ans.dec false), (9, Ans.val (PV.int .u8 (↑x : Int))), (10, Ans.val (PV.int .u8 (↑(IB x) : Int))), (11, Ans.val (PV.int .i64 (↑(IB x) : Int))), (12, Ans.val (PV.int .i64 (↑(IB x) : Int)))] [] [decide ((↑x : Int) ≥ (4294967296 : Int)) = false, decide ((↑x : Int) ≥ (65536 : Int)) = false, decide ((↑x : Int) ≥ (256 : Int)) = false, PV.int .u8 (IntKind.wrap .u8 (↑x : Int)) = PV.int .u8 (↑x : Int), PV.int .u8 (CX (ByteArray.mk #[(0 : UInt8), (1 : UInt8), (2 : UInt8), (2 : UInt8), (3 : UInt8), (3 : UInt8), (3 : UInt8), (3 : UInt8), (4 : UInt8), (4 : UInt8), (4 : UInt8), (4 : UInt8), (4 : UInt8), (4 : UInt8), (4 : UInt8), (4 : UInt8), (5 : UInt8), (5 : UInt8), (5 : UInt8), (5 : UInt8), (5 : UInt8), (5 : UInt8), (5 : UInt8), (5 : UInt8), (5 : UInt8), (5 : UInt8), (5 : UInt8), (5 : UInt8), (5 : UInt8), (5 : UInt8), (5 : UInt8), (5 : UInt8), (6 : UInt8), (6 : UInt8), (6 : UInt8), (6 : UInt8), (6 : UInt8), (6 : UInt8), (6 : UInt8), (6 : UInt8), (6 : UInt8), (6 : UInt8), (6 : UInt8), (6 : UInt8), (6 : UInt8), (6 : UInt8), (6 : UInt8), (6 : UInt8), (6 : UInt8), (6 : UInt8), (6 : UInt8), (6 : UInt8), (6 : UInt8), (6 : UInt8), (6 : UInt8), (6 : UInt8), (6 : UInt8), (6 : UInt8), (6 : UInt8), (6 : UInt8), (6 : UInt8), (6 : UInt8), (6 : UInt8), (6 : UInt8), (7 : UInt8), (7 : UInt8), (7 : UInt8), (7 : UInt8), (7 : UInt8), (7 : UInt8), (7 : UInt8), (7 : UInt8), (7 : UInt8), (7 : UInt8), (7 : UInt8), (7 : UInt8), (7 : UInt8), (7 : UInt8), (7 : UInt8), (7 : UInt8), (7 : UInt8), (7 : UInt8), (7 : UInt8), (7 : UInt8), (7 : UInt8), (7 : UInt8), (7 : UInt8), (7 : UInt8), (7 : UInt8), (7 : UInt8), (7 : UInt8), (7 : UInt8), (7 : UInt8), (7 : UInt8), (7 : UInt8), (7 : UInt8), (7 : UInt8), (7 : UInt8), (7 : UInt8), (7 : UInt8), (7 : UInt8), (7 : UInt8), (7 : UInt8), (7 : UInt8), (7 : UInt8), (7 : UInt8), (7 : UInt8), (7 : UInt8), (7 : UInt8), (7 : UInt8), (7 : UInt8), (7 : UInt8), (7 : UInt8), (7 : UInt8), (7 : UInt8), (7 : UInt8), (7 : UInt8), (7 : UInt8), (7 : UInt8), (7 : UInt8), (7 : UInt8), (7 : UInt8), (7 : UInt8), (7 : UInt8), (7 : UInt8), (7 : UInt8), (7 : UInt8), (7 : UInt8), (8 : UInt8), (8 : UInt8), (8 : UInt8), (8 : UInt8), (8 : UInt8), (8 : UInt8), (8 : UInt8), (8 : UInt8), (8 : UInt8), (8 : UInt8), (8 : UInt8), (8 : UInt8), (8 : UInt8), (8 : UInt8), (8 : UInt8), (8 : UInt8), (8 : UInt8), (8 : UInt8), (8 : UInt8), (8 : UInt8), (8 : UInt8), (8 : UInt8), (8 : UInt8), (8 : UInt8), (8 : UInt8), (8 : UInt8), (8 : UInt8), (8 : UInt8), (8 : UInt8), (8 : UInt8), (8 : UInt8), (8 : UInt8), (8 : UInt8), (8 : UInt8), (8 : UInt8), (8 : UInt8), (8 : UInt8), (8 : UInt8), (8 : UInt8), (8 : UInt8), (8 : UInt8), (8 : UInt8), (8 : UInt8), (8 : UInt8), (8 : UInt8), (8 : UInt8), (8 : UInt8), (8 : UInt8), (8 : UInt8), (8 : UInt8), (8 : UInt8), (8 : UInt8), (8 : UInt8), (8 : UInt8), (8 : UInt8), (8 : UInt8), (8 : UInt8), (8 : UInt8), (8 : UInt8), (8 : UInt8), (8 : UInt8), (8 : UInt8), (8 : UInt8), (8 : UInt8), (8 : UInt8), (8 : UInt8), (8 : UInt8), (8 : UInt8), (8 : UInt8), (8 : UInt8), (8 : UInt8), (8 : UInt8), (8 : UInt8), (8 : UInt8), (8 : UInt8), (8 : UInt8), (8 : UInt8), (8 : UInt8), (8 : UInt8), (8 : UInt8), (8 : UInt8), (8 : UInt8), (8 : UInt8), (8 : UInt8), (8 : UInt8), (8 : UInt8), (8 : UInt8), (8 : UInt8), (8 : UInt8), (8 : UInt8), (8 : UInt8), (8 : UInt8), (8 : UInt8), (8 : UInt8), (8 : UInt8), (8 : UInt8), (8 : UInt8), (8 : UInt8), (8 : UInt8), (8 : UInt8), (8 : UInt8), (8 : UInt8), (8 : UInt8), (8 : UInt8), (8 : UInt8), (8 : UInt8), (8 : UInt8), (8 : UInt8), (8 : UInt8), (8 : UInt8), (8 : UInt8), (8 : UInt8), (8 : UInt8), (8 : UInt8), (8 : UInt8), (8 : UInt8), (8 : UInt8), (8 : UInt8), (8 : UInt8), (8 : UInt8), (8 : UInt8), (8 : UInt8), (8 : UInt8), (8 : UInt8), (8 : UInt8), (8 : UInt8), (8 : UInt8), (8 : UInt8)]) (↑x : Int)) = PV.int .u8 (↑(IB x) : Int), (0 : Int) ≤ (↑x : Int), (↑x : Int) < (↑(256 : Nat) : Int), PV.int .i64 (IntKind.wrap .i64 (↑(IB x) : Int)) = PV.int .i64 (↑(IB x) : Int), PV.int .i64 (IntKind.wrap .i64 ((0 : Int) + (↑(IB x) : Int))) = PV.int .i64 (↑(IB x) : Int)] (ac (by exact decide_eq_false (by omega)) (ac (by exact decide_eq_false (by omega)) (ac (by exact decide_eq_false (by omega)) (ac ?_ (ac ?_ (ob2 (by omega) (ac ?_ (ao ?_))))))))
 all_goals match x, hx with
 | 0, _ | 1, _ | 2, _ | 3, _ | 4, _ | 5, _ | 6, _ | 7, _ | 8, _ | 9, _ | 10, _ | 11, _ => first | rfl | decide
theorem pc_len {x : Nat} (hx : x < 12) : Pt 135 [] [.int .u64 x] [] (.int .i64 (IB x)) := by
 refine pO Tryz.func135 (by kernel_rfl) ?_
 refine W.rtA [(2, aK (I6 ↑(IB x)))] [] [Pt 104 [] [U6 x] [] (I6 ↑(IB x))] (ao (UN (by first | omega | decide)))
theorem pc_pdq {n : Nat} (hn : n < 12) (x : Int) (l : List Int) : Pt 134 [(0, LU n l)] [.ref 0 [] 1 0 n, .int .i64 0, .int .i64 n, .int .i64 x] [(0, LU n (Dt (n - 1) 1 l))] (.tup []) := by
 refine pO Tryz.func134 (by kernel_rfl) ?_
 refine W.sgA 0 [] [(0, 0)] (⟨IE 0 [.ref 0 [] 1 0 n, .int .i64 0, .int .i64 n, .int .i64 x], [(0, LU n l)]⟩) [] trivial ?_
 refine W.rtA [(2, aV (I6 n)), (5, aT), (9, Ans.call true [(0, 0)] [(0, Row.mk (B3 n (Dt (n - 1) 1 l)) false)] (PV.tup []))] [(0, 0)] [I6 (IntKind.wrap .i64 ((n:Int) - 0)) = I6 n, decide ((n:Int) ≤ 12) = true, Pt 143 [(0, Row.mk (B3 n l) false)] [PV.ref 0 [] 1 0 n, I6 0, I6 n] [(0, Row.mk (B3 n (Dt (n - 1) 1 l)) false)] (PV.tup [])] (ac (wj (by omega)) (ac (dT (by omega)) (ao (Wq (by first | omega | decide) _))))
theorem pc_sort {n : Nat} (hn : n < 12) (l : List Int) : Pt 120 [(0, LU n l)] [.ref 0 [] 1 0 n] [(0, LU n (Dt (n - 1) 1 l))] (.tup []) := by
 refine pO Tryz.func120 (by kernel_rfl) ?_
 refine W.rtA [(6, aV (U6 n)), (7, aK (I6 ↑(IB n))), (8, Ans.call true [(0, 0)] [(0, Row.mk (B3 n (Dt (n - 1) 1 l)) false)] (PV.tup []))] [(0, 0)] [U6 (IntKind.wrap .u64 (n:Int)) = U6 n, Pt 135 [] [U6 n] [] (I6 ↑(IB n)), Pt 134 [(0, Row.mk (B3 n l) false)] [PV.ref 0 [] 1 0 n, I6 0, I6 n, I6 ↑(IB n)] [(0, Row.mk (B3 n (Dt (n - 1) 1 l)) false)] (PV.tup [])] (ac (cg (Ah rfl (by omega) (by omega))) (ac (pc_len (by first | omega | decide)) (ao (pc_pdq (by first | omega | decide) _ _))))
theorem Xo {n : Nat} (hn : n < 1000) (l : List Int) (h0 : 0 < n) : Pt 119 [] [.vec false (.iarr .u32 n l)] [(1, LU n l)] (.ref 1 [] 1 0 n) := by
 refine pO Tryz.func119 (by kernel_rfl) ?_
 refine W.rtA [(5, Ans.vu (PV.ref 144 [] 1 0 n) [(112, none), (144, some (Row.mk (B3 n l) false))])] [(144, 1)] [([(112, none), (144, some (Row.mk (B3 (0 + n) l) false))] : List (Nat × Option Row)) = [(112, none), (144, some (Row.mk (B3 n l) false))], PV.ref 144 [] 1 0 (0 + n) = PV.ref 144 [] 1 0 n, rr (0), (0 + n) * 4 ≤ 140737488355328, 0 + n ≤ 9223372036854775807] (ac (by simp only [Nat.zero_add]) (ac (by simp only [Nat.zero_add]) (ac rfl (ac (by omega) (ao (by omega))))))
end Go.Proofs
namespace Go.Proofs
open Go Go.Pe Go.Pm
set_option maxRecDepth 100000
theorem R3 (nl : Bool) : Pt 103 [] [.vec nl (.iarr .u32 0 [])] [] (.int .u32 0) := by
 refine pO Tryz.func103 (by kernel_rfl) ?_
 refine W.rtA [(2, aV (I6 0))] [] [I6 ↑(0 : Nat) = I6 0] (ao (cg (by omega)))
theorem Rl {l : Liz} {n : Nat} (hn : n = l.length) (h0 : 0 < n) (hl : n < 1000) : Pt 103 [] [.vec false (.iarr .u32 n l)] [] (.int .u32 (Br l)) := by
 refine pO Tryz.func103 (by kernel_rfl) ?_
 subst hn
 have hm : (Av l).length < 12 := by simp [Av]; omega
 have hm0 : 0 < (Av l).length := by simp [Av]; omega
 have hdrop : (mx 0 ((l.length : Int) - 11)).toNat = l.length - 11 := by
  unfold mx
  split <;> omega
 have hmx : 0 ≤ mx 0 ((l.length : Int) - 11) ∧ mx 0 ((l.length : Int) - 11) ≤ l.length := by
  unfold mx
  split <;> omega
 have hk : ((l.length : Int) - mx 0 ((l.length : Int) - 11)).toNat = (Av l).length := by
  simp [Av]; omega
 have hmm : (Cx l (mx 0 ((l.length : Int) - 11)).toNat).take (Av l).length = Av l := by
  rw [hdrop, Bj]
  exact List.take_of_length_le (by simp [Av])
 have hv : PV.vec false (PV.iarr IntKind.u32 ((l.length : Int) - mx 0 ((l.length : Int) - 11)).toNat (List.take ((l.length : Int) - mx 0 ((l.length : Int) - 11)).toNat (Cx l (mx 0 ((l.length : Int) - 11)).toNat))) = PV.vec false (PV.iarr IntKind.u32 (Av l).length (Av l)) := by rw [hk, hmm]
 have hres : Br l = (Dt ((Av l).length - 1) 1 (Av l)).getD ((Av l).length / 2) 0 := by
  have : l ≠ [] := by rintro rfl; simp at h0
  simp [Br, this, middle]
 have hd : (((Av l).length : Int)).tdiv 2 = (((Av l).length / 2 : Nat) : Int) := by
  rw [Int.tdiv_eq_ediv_of_nonneg (by omega)]; omega
 obtain ⟨hmx1, hmx2⟩ := hmx
 rw [hres]
 generalize hg : Av l = m at *
 refine W.rtA [(3, aF), (7, aV (I6 ((↑(List.length l) : Int) - 11))), (9, aV (PV.vec false (B3 (List.length m) m))), (10, Ans.call true [] [(1, Row.mk (B3 (List.length m) m) false)] (PV.ref 1 [] 1 0 (List.length m))), (13, Ans.call true [(225, 0)] [(0, Row.mk (B3 (List.length m) (Dt (List.length m - 1) 1 m)) false)] (PV.tup [])), (17, aV (I6 ↑(List.length m / 2))), (18, aV (PV.at 225 [Stp.idx (List.length m / 2) 1]))] [] [((↑(List.length l) : Int) == 0) = false, I6 (IntKind.wrap .i64 ((↑(List.length l) : Int) - 11)) = I6 ((↑(List.length l) : Int) - 11), PV.vec false (B3 (Int.toNat ((↑(List.length l) : Int) - mx (0 : Int) ((↑(List.length l) : Int) - 11))) (List.take (Int.toNat ((↑(List.length l) : Int) - mx (0 : Int) ((↑(List.length l) : Int) - 11))) (Cx l (Int.toNat (mx (0 : Int) ((↑(List.length l) : Int) - 11)))))) = PV.vec false (B3 (List.length m) m), (0 : Int) ≤ mx (0 : Int) ((↑(List.length l) : Int) - 11), mx (0 : Int) ((↑(List.length l) : Int) - 11) ≤ (↑(List.length l) : Int), (↑(List.length l) : Int) ≤ (↑(List.length l) : Int), Pt 119 [] [PV.vec false (B3 (List.length m) m)] [(1, Row.mk (B3 (List.length m) m) false)] (PV.ref 1 [] 1 0 (List.length m)), Pt 120 [(0, Row.mk (B3 (List.length m) m) false)] [PV.ref 0 [] 1 0 (List.length m)] [(0, Row.mk (B3 (List.length m) (Dt (List.length m - 1) 1 m)) false)] (PV.tup []), I6 (IntKind.wrap .i64 (Int.tdiv (↑(List.length m) : Int) (2 : Int))) = I6 ↑(List.length m / 2), (2 : Int) ≠ 0, PV.at 225 [Stp.idx (0 + Int.toNat (↑(List.length m / 2) : Int)) 1] = PV.at 225 [Stp.idx (List.length m / 2) 1], 0 ≤ (↑(List.length m / 2) : Int), (↑(List.length m / 2) : Int) < (↑(List.length m) : Int), List.length m / 2 < List.length m] (ac (dF (by omega)) (ac (wj (by omega)) (ac (by omega) (ac (by omega) (ac (by omega) (ac (by omega) (ac (Xo (by first | omega | decide) _ (by first | omega | decide)) (ac (pc_sort (by first | omega | decide) _) (ac (wj (by omega)) (ac (by omega) (ac (by (rw [show Int.toNat (↑(List.length m / 2) : Int) = List.length m / 2 by omega]; simp only [Nat.zero_add])) (ac (by omega) (ac (by omega) (ao (by omega)))))))))))))))
theorem Ux {nl : Bool} {n : Nat} {l : Liz} (hn : n = l.length) (hl : n < 1000) (hnl : nl = true → l = []) : Pt 103 [] [.vec nl (.iarr .u32 n l)] [] (.int .u32 (Br l)) := by
 by_cases h0 : l = []
 ·subst h0; subst hn; exact R3 nl
 ·have : nl = false := by cases nl with
   | false => rfl
   | true => exact absurd (hnl rfl) h0
  subst this
  exact Rl hn (by have := List.length_pos_iff.2 h0; omega) hl
end Go.Proofs
namespace Go.Proofs
open Go Go.Pe Go.Pm
set_option maxRecDepth 100000
theorem UB {nl : Bool} {n : Nat} {l : Liz} (t : Int) (hn : n = l.length) (h0 : 0 < n) (hl : n < 1000) (hnl : nl = true → l = []) : Pt 72 [] [.vec nl (.iarr .u32 n l), .int .u32 t] [] (.bool (decide (t > Br l))) := by
 refine pO Tryz.func72 (by kernel_rfl) ?_
 have := @Ux nl n l hn hl hnl
 refine W.rtA [(3, aF), (7, c9 this)] [] [((n:Int) == 0) = false, _] (ac (dF (by omega)) (ao (this)))
theorem Tn {nl : Bool} {n : Nat} {l : Liz} (hn : n = l.length) (hl : n < 1000) : Pt 98 [] [.vec nl (.iarr .u32 n l)] [] (.vec nl (.iarr .u32 (Av l).length (Av l))) := by
 refine pO Tryz.func98 (by kernel_rfl) ?_
 subst hn
 by_cases h : l.length > 11
 ·have e1 : ((l.length : Int) - 11).toNat = l.length - 11 := by omega
  have e2 : ((l.length : Int) - ((l.length : Int) - 11)).toNat = (Av l).length := by simp [Av]; omega
  have e3 : PV.vec nl (PV.iarr IntKind.u32 ((l.length : Int) - ((l.length : Int) - 11)).toNat (List.take ((l.length : Int) - ((l.length : Int) - 11)).toNat (Cx l ((l.length : Int) - 11).toNat))) = PV.vec nl (PV.iarr IntKind.u32 (Av l).length (Av l)) := by
   rw [e2, e1, Bj]
   congr 2
   exact List.take_of_length_le (by simp [Av])
  refine W.rtA [(3, aT), (7, aV (I6 ((↑(List.length l) : Int) - 11))), (8, aV (PV.vec nl (B3 (List.length (Av l)) (Av l))))] [] [decide ((↑(List.length l) : Int) > 11) = true, I6 (IntKind.wrap .i64 ((↑(List.length l) : Int) - 11)) = I6 ((↑(List.length l) : Int) - 11), PV.vec nl (B3 (Int.toNat ((↑(List.length l) : Int) - ((↑(List.length l) : Int) - 11))) (List.take (Int.toNat ((↑(List.length l) : Int) - ((↑(List.length l) : Int) - 11))) (Cx l (Int.toNat ((↑(List.length l) : Int) - 11))))) = PV.vec nl (B3 (List.length (Av l)) (Av l)), 0 ≤ (↑(List.length l) : Int) - 11, (↑(List.length l) : Int) - 11 ≤ (↑(List.length l) : Int), (↑(List.length l) : Int) ≤ (↑(List.length l) : Int)] (ac (dT (by omega)) (ac (wj (by omega)) (ac (by omega) (ac (by omega) (ac (by omega) (ao (by omega)))))))
 ·have e : Av l = l := by
   unfold Av
   rw [show l.length - 11 = 0 by omega]; rfl
  rw [e]
  refine W.rtA [(3, aF)] [] [decide ((↑(List.length l) : Int) > 11) = false] (ao (dF (by omega)))
def dsIs (nl : Bool) (m : Int) (n : Nat) (l : List Int) (a b i : Nat) : DS := ⟨[(0, .int .u32 m), (1, .vec nl (.iarr .u32 n l)), (5, .int .i64 a), (6, .int .i64 b), (7, .int .i64 i)], []⟩
theorem Qr (p : Int → Bool) (l : List Int) {i : Nat} (h : i < l.length) : (l.drop i).countP p = (l.drop (i + 1)).countP p + if p (l.getD i 0) = true then 1 else 0 := by
 rw [List.drop_eq_getElem_cons h, List.countP_cons]
 simp [List.getD_eq_getElem?_getD, h]
theorem W_is {nl : Bool} {m : Int} {n : Nat} {l : Liz} (hn : n = l.length) (h0 : 0 < n) (hl : n < 1000) : ∀ (k i a b : Nat), i + k = n → a + lt m (l.drop i) = lt m l → b + eqs m (l.drop i) = eqs m l →
  Wt Tryz.f99 [] [] (.bool (isM m l)) (Af Tryz.f99 0) (dsIs nl m n l a b i)
 | 0, i, a, b, hk, ha, hb => by
  have hd : l.drop i = [] := List.drop_eq_nil_of_le (by omega)
  rw [hd] at ha hb
  have la : lt m l ≤ l.length := List.countP_le_length
  have lb : eqs m l ≤ l.length := List.countP_le_length
  simp only [lt, eqs, List.countP_nil, Nat.add_zero] at ha hb
  have hne : l ≠ [] := by rintro rfl; simp at hn; omega
  have hq : (n : Int).tdiv 2 = ((n / 2 : Nat) : Int) := by rw [Int.tdiv_eq_ediv_of_nonneg (by omega)]; omega
  have hM : isM m l = (decide (a ≤ n / 2) && (decide (n / 2 < a + b) && decide (0 < b))) := by
   unfold isM lt eqs
   rw [if_neg hne, ← ha, ← hb, hn]
  rw [hM]
  unfold lt at la
  unfold eqs at lb
  by_cases c1 : a ≤ n / 2
  ·by_cases c2 : n / 2 < a + b
   ·have c3 : 0 < b := by omega
    refine W.ret [(3, aF), (7, aV (I6 ↑(n / 2))), (8, aT), (12, aV (I6 ↑(a + b))), (15, aV (I6 ↑(n / 2))), (16, aT), (20, aT)] [] [decide ((i:Int) < (n:Int)) = false, I6 (IntKind.wrap .i64 (Int.tdiv (n:Int) (2 : Int))) = I6 ↑(n / 2), (2 : Int) ≠ 0, decide ((a:Int) ≤ (↑(n / 2) : Int)) = true, I6 (IntKind.wrap .i64 ((a:Int) + (b:Int))) = I6 ↑(a + b), I6 (IntKind.wrap .i64 (Int.tdiv (n:Int) (2 : Int))) = I6 ↑(n / 2), (2 : Int) ≠ 0, decide ((↑(a + b) : Int) > (↑(n / 2) : Int)) = true, decide ((b:Int) > 0) = true, PV.bool true = PV.bool (decide (a ≤ n / 2) && (decide (n / 2 < a + b) && decide (0 < b)))] (by kernel_rfl) (ac (dF (by omega)) (ac (cg (Ac hq (by omega) (by omega))) (ac (by omega) (ac (dT (by omega)) (ac (wj (by omega)) (ac (cg (Ac hq (by omega) (by omega))) (ac (by omega) (ac (dT (by omega)) (ac (dT (by omega)) (ao (by (simp; omega))))))))))))
   ·refine W.ret [(3, aF), (7, aV (I6 (↑(n / 2) : Int))), (8, aT), (12, aV (I6 (↑(a + b) : Int))), (15, aV (I6 (↑(n / 2) : Int))), (16, aF)] [] [decide ((i:Int) < (n:Int)) = false, I6 (IntKind.wrap .i64 (Int.tdiv (n:Int) (2 : Int))) = I6 (↑(n / 2) : Int), (2 : Int) ≠ (0 : Int), decide ((a:Int) ≤ (↑(n / 2) : Int)) = true, I6 (IntKind.wrap .i64 ((a:Int) + (b:Int))) = I6 (↑(a + b) : Int), I6 (IntKind.wrap .i64 (Int.tdiv (n:Int) (2 : Int))) = I6 (↑(n / 2) : Int), (2 : Int) ≠ (0 : Int), decide ((↑(a + b) : Int) > (↑(n / 2) : Int)) = false, PV.bool false = PV.bool (decide (a ≤ n / 2) && (decide (n / 2 < a + b) && decide (0 < b)))] (by kernel_rfl) (ac (dF (by omega)) (ac (cg (Ac hq (by omega) (by omega))) (ac (by omega) (ac (dT (by omega)) (ac (cg (Ac rfl (by omega) (by omega))) (ac (cg (Ac hq (by omega) (by omega))) (ac (by omega) (ac (dF (by omega)) (ao (by (simp; omega)))))))))))
  ·refine W.ret [(3, aF), (7, aV (I6 (↑(n / 2) : Int))), (8, aF)] [] [decide ((i:Int) < (n:Int)) = false, I6 (IntKind.wrap .i64 (Int.tdiv (n:Int) (2 : Int))) = I6 (↑(n / 2) : Int), (2 : Int) ≠ (0 : Int), decide ((a:Int) ≤ (↑(n / 2) : Int)) = false, PV.bool false = PV.bool (decide (a ≤ n / 2) && (decide (n / 2 < a + b) && decide (0 < b)))] (by kernel_rfl) (ac (dF (by omega)) (ac (cg (Ac hq (by omega) (by omega))) (ac (by omega) (ac (dF (by omega)) (ao (by (simp; omega)))))))
 | k + 1, i, a, b, hk, ha, hb => by
  have la : lt m l ≤ l.length := List.countP_le_length
  have lb : eqs m l ≤ l.length := List.countP_le_length
  have sa := Qr (fun x => decide (x < m)) l (i := i) (by omega)
  have sb := Qr (fun x => decide (x = m)) l (i := i) (by omega)
  unfold lt eqs at *
  by_cases c1 : l.getD i 0 < m
  ·have c2 : ¬ l.getD i 0 = m := by omega
   rw [if_pos (by simpa using c1)] at sa
   rw [if_neg (by simpa using c2)] at sb
   refine W.sgA 0 [(3, aT), (9, aT), (11, aV (I6 ↑(a + 1))), (18, aF), (20, aV (I6 ↑(i + 1)))] [] (dsIs nl m n l (a + 1) b (i + 1)) [decide ((i:Int) < (n:Int)) = true, 0 ≤ (i:Int), (i:Int) < (n:Int), i < n, decide (List.getD l i (0 : Int) < m) = true, I6 (IntKind.wrap .i64 ((a:Int) + 1)) = I6 ↑(a + 1), 0 ≤ (i:Int), (i:Int) < (n:Int), i < n, (List.getD l i (0 : Int) == m) = false, I6 (IntKind.wrap .i64 ((i:Int) + 1)) = I6 ↑(i + 1)] (ac (dT (by omega)) (ob3 (by omega) (ac (dT (by omega)) (ac (wj (by omega)) (ob3 (by omega) (ac (dF (by omega)) (ao (wj (by omega))))))))) ?_
   exact W_is hn h0 hl k (i + 1) (a + 1) b (by omega) (by unfold lt; omega) (by unfold eqs; omega)
  ·by_cases c2 : l.getD i 0 = m
   ·rw [if_neg (by simpa using c1)] at sa
    rw [if_pos (by simpa using c2)] at sb
    refine W.sgA 0 [(3, aT), (7, aV (U3 m)), (9, aF), (13, aV (U3 m)), (15, aT), (17, aV (I6 ↑(b + 1))), (20, aV (I6 ↑(i + 1)))] [] (dsIs nl m n l a (b + 1) (i + 1)) [decide ((i:Int) < (n:Int)) = true, 0 ≤ (i:Int), (i:Int) < (n:Int), U3 (List.getD l i (0 : Int)) = U3 m, i < n, decide (m < m) = false, 0 ≤ (i:Int), (i:Int) < (n:Int), U3 (List.getD l i (0 : Int)) = U3 m, i < n, (m == m) = true, I6 (IntKind.wrap .i64 ((b:Int) + 1)) = I6 ↑(b + 1), I6 (IntKind.wrap .i64 ((i:Int) + 1)) = I6 ↑(i + 1)] (ac (dT (by omega)) (ob2 (by omega) (ac (cg (c2)) (ac (by omega) (ac (dF (by omega)) (ob2 (by omega) (ac (cg (c2)) (ac (by omega) (ac (dT (by omega)) (ac (wj (by omega)) (ao (wj (by omega))))))))))))) ?_
    exact W_is hn h0 hl k (i + 1) a (b + 1) (by omega) (by unfold lt; omega) (by unfold eqs; omega)
   ·rw [if_neg (by simpa using c1)] at sa
    rw [if_neg (by simpa using c2)] at sb
    refine W.sgA 0 [(3, aT), (9, aF), (15, aF), (17, aV (I6 ↑(i + 1)))] [] (dsIs nl m n l a b (i + 1)) [decide ((i:Int) < (n:Int)) = true, 0 ≤ (i:Int), (i:Int) < (n:Int), i < n, decide (List.getD l i (0 : Int) < m) = false, 0 ≤ (i:Int), (i:Int) < (n:Int), i < n, (List.getD l i (0 : Int) == m) = false, I6 (IntKind.wrap .i64 ((i:Int) + 1)) = I6 ↑(i + 1)] (ac (dT (by omega)) (ob3 (by omega) (ac (dF (by omega)) (ob3 (by omega) (ac (dF (by omega)) (ao (wj (by omega)))))))) ?_
    exact W_is hn h0 hl k (i + 1) a b (by omega) (by unfold lt; omega) (by unfold eqs; omega)
theorem pc_is {nl : Bool} {m : Int} {n : Nat} {l : Liz} (hn : n = l.length) (hl : n < 1000) : Pt 99 [] [.int .u32 m, .vec nl (.iarr .u32 n l)] [] (.bool (isM m (Av l))) := by
 refine pO Tryz.func99 (by kernel_rfl) ?_
 have hlen : (Av l).length ≤ n := by simp [Av]; omega
 have hp := Tn (nl := nl) hn hl
 by_cases h0 : Av l = []
 ·rw [h0] at hp ⊢
  have : isM m [] = decide (m = 0) := rfl
  rw [this]
  have hb : decide (m = 0) = (m == 0) := by rw [Bool.eq_iff_iff]; simp
  rw [hb]
  simp only [List.length_nil] at hp
  refine W.rtA [(2, c9 hp), (5, aV (I6 0))] [] [_, I6 ↑(0 : Nat) = I6 0] (ac (hp) (ao (cg (by omega))))
 ·have hpos := List.length_pos_iff.2 h0
  generalize hL : Av l = L at *
  refine W.sgA 0 [(2, c0 hp), (6, aF)] [] (dsIs nl m L.length L 0 0 0) [_, ((↑(List.length L) : Int) == 0) = false] (ac (hp) (ao (dF (by omega)))) ?_
  exact W_is rfl hpos (by omega) L.length 0 0 0 (by omega) (by simp) (by simp)
end Go.Proofs
namespace Go.Proofs
open Go Go.Pe Go.Pm
set_option maxRecDepth 100000
def dsRm (nl : Bool) (n : Nat) (l L : List Int) (i : Nat) : DS := ⟨[(0, .vec nl (.iarr .u32 n l)), (6, .vec nl (.iarr .u32 L.length L)), (7, .int .i64 L.length), (8, .int .i64 i)], []⟩
theorem W_rm {nl : Bool} {n : Nat} {l L : Liz} (hn : n = l.length) (hl : n < 1000) (hL : Av l = L) (hLn : L.length ≤ n) : ∀ (k i : Nat), i + k = L.length → (Br l ∈ L.drop i ∨ L = []) → 
  Wt Tryz.f66 [] [] (.int .u32 (Br l)) (Af Tryz.f66 0) (dsRm nl n l L i)
 | 0, i, hk, h => by
  have hd : L.drop i = [] := List.drop_eq_nil_of_le (by omega)
  rw [hd] at h
  have h0 : l = [] := by
   rcases h with h | h
   ·cases h
   ·rw [h] at hL; exact Df.1 hL
  have : Br l = 0 := by rw [h0]; rfl
  rw [this]
  refine W.rtA [(0, aF)] [] [decide ((i:Int) < (↑(List.length L) : Int)) = false] (ao (dF (by omega)))
 | k + 1, i, hk, h => by
  have hp := @pc_is nl (L.getD i 0) n l hn hl
  rw [hL] at hp
  by_cases hc : isM (L.getD i 0) L = true
  ·have hm : L.getD i 0 = Br l := Sw (by rw [hL]; exact hc)
   rw [← hm]
   clear hm
   rw [hc] at hp
   refine W.rtA [(0, aT), (6, c9 hp)] [] [decide ((i:Int) < (↑(List.length L) : Int)) = true, 0 ≤ (i:Int), (i:Int) < (↑(List.length L) : Int), i < List.length L, _] (ac (dT (by omega)) (ac (by omega) (ac (by omega) (ac (by omega) (ao (hp))))))
  ·rw [Bool.not_eq_true] at hc
   rw [hc] at hp
   refine W.sgA 0 [(0, aT), (6, c9 hp), (7, aV (I6 ↑(i + 1)))] [] (dsRm nl n l L (i + 1)) [decide ((i:Int) < (↑(List.length L) : Int)) = true, 0 ≤ (i:Int), (i:Int) < (↑(List.length L) : Int), i < List.length L, _, I6 (IntKind.wrap .i64 ((i:Int) + 1)) = I6 ↑(i + 1)] (ac (dT (by omega)) (ac (by omega) (ac (by omega) (ac (by omega) (ac (hp) (ao (wj (by omega)))))))) ?_
   refine W_rm hn hl hL hLn k (i + 1) (by omega) ?_
   rcases h with h | h
   ·left
    rw [List.drop_eq_getElem_cons (by omega), List.mem_cons] at h
    rcases h with h | h
    ·exfalso
     have e : L.getD i 0 = L[i]'(by omega) := by simp [List.getD_eq_getElem?_getD, show i < L.length by omega]
     rw [e, ← h, ← hL, GD] at hc
     cases hc
    ·exact h
   ·exact .inr h
theorem OH {nl : Bool} {n : Nat} {l : Liz} (hn : n = l.length) (hl : n < 1000) : Pt 66 [] [.vec nl (.iarr .u32 n l)] [] (.int .u32 (Br l)) := by
 refine pO Tryz.func66 (by kernel_rfl) ?_
 have hlen : (Av l).length ≤ n := by simp [Av]; omega
 have hp := Tn (nl := nl) hn hl
 generalize hL : Av l = L at *
 refine W.sgA 0 [(2, c0 hp)] [] (dsRm nl n l L 0) [_] (ao (hp)) ?_
 refine W_rm hn hl hL hlen L.length 0 (by omega) ?_
 by_cases h0 : l = []
 ·right; rw [← hL]; exact Df.2 h0
 ·left; rw [← hL]; exact Ra h0
def held (n : Int) : Int := mn (mx n 0) 1099511627776
theorem Pv (n : Int) : 0 ≤ held n ∧ held n ≤ 1099511627776 := by
 unfold held mn mx
 split <;> split <;> omega
theorem pc_near {t now future : Int} (h1 : 0 ≤ t) (h2 : t ≤ 4294967295) : Pt 74 [] [.int .u32 t, .int .i64 now, .int .i64 future] [] (.bool (decide (t ≤ held now + held future))) := by
 refine pO Tryz.func74 (by kernel_rfl) ?_
 have h2 := Pv now
 have h3 := Pv future
 unfold held at *
 refine W.rtA [(2, aV (I6 t)), (9, aV (I6 (mn (mx now (0 : Int)) (1099511627776 : Int) + mn (mx future (0 : Int)) (1099511627776 : Int))))] [] [I6 (IntKind.wrap .i64 t) = I6 t, I6 (IntKind.wrap .i64 (mn (mx now (0 : Int)) (1099511627776 : Int) + mn (mx future (0 : Int)) (1099511627776 : Int))) = I6 (mn (mx now (0 : Int)) (1099511627776 : Int) + mn (mx future (0 : Int)) (1099511627776 : Int))] (ac (wj (by omega)) (ao (wj (by omega))))
theorem pc_held (n : Int) : Pt 67 [] [.int .i64 n] [] (.int .i64 (held n)) := by
 refine pO Tryz.func67 (by kernel_rfl) ?_
 by_cases h1 : n < 0
 ·have : held n = 0 := by simp [held, mx, mn, h1]
  rw [this]
  refine W.rtA [(2, aT)] [] [decide (n < (0 : Int)) = true] (ao (dT (by omega)))
 ·by_cases h2 : n > 1099511627776
  ·have : held n = 1099511627776 := by simp [held, mx, mn, h1, h2]
   rw [this]
   refine W.rtA [(2, aF), (4, aT)] [] [decide (n < (0 : Int)) = false, decide (n > (1099511627776 : Int)) = true] (ac (dF (by omega)) (ao (dT (by omega))))
  ·have : held n = n := by simp [held, mx, mn, h1, h2]
   rw [this]
   refine W.rtA [(2, aF), (4, aF)] [] [decide (n < (0 : Int)) = false, decide (n > (1099511627776 : Int)) = false] (ac (dF (by omega)) (ao (dF (by omega))))
end Go.Proofs
namespace Go.Proofs
open Go Go.Pe Go.Pm
set_option maxRecDepth 100000
set_option linter.unusedVariables false
attribute [local irreducible] Ak lv EP JY FO
def dsNu (b : List Int) (L : List Int) (i : Int) : DS := ⟨[(1, .at 1 []), (3, .at 3 []), (4, .int .i64 i)], [(1, BL 32 b), (3, ⟨.iarr .u64 4 L, false⟩)]⟩
set_option maxHeartbeats 4000000 in
theorem W_nu {b : Liz} (hb : Bytes b) (hl : b.length = 32) : ∀ (n : Nat) (L : List Int) (i : Int), n ≤ 32 → i = (n : Int) - 1 → L = JY (lv b 32) n →
  Wt Tryz.f97 [] [] (bv false (lv b 32)) (Af Tryz.f97 0) (dsNu b L i)
 | 0, L, i, hn, hi, hL => by
  have h1 : i < 0 := by omega
  rw [UD] at hL
  have c := Tx (OU hb)
  subst hL
  generalize lv b 32 = v at *
  unfold uw at c
  unfold uw
  refine W.rtA [(0, aV (I6 ((↑(0 : Nat) : Int) - 1))), (11, c0 c)] [] [I6 i = I6 ((↑(0 : Nat) : Int) - 1), (0 : Int) ≤ 0, 0 < (↑(4 : Nat) : Int), 0 < 4, (0 : Int) ≤ 1, 1 < (↑(4 : Nat) : Int), 1 < 4, (0 : Int) ≤ 2, 2 < (↑(4 : Nat) : Int), 2 < 4, (0 : Int) ≤ 3, 3 < (↑(4 : Nat) : Int), 3 < 4, 4 ≤ 4, _] (ac (cg (hi)) (ob4 (by omega) (ob4 (by omega) (ob4 (by omega) (ac (by omega) (ao (c)))))))
 | n + 1, L, i, hn, hi, hL => by
  have hi : i = (n : Int) := by omega
  subst hi
  have hs := XO (n := n) (by omega) (Tm hb (n := n) (by omega))
  have hg := XC (v := lv b 32) (n := n) (by omega)
  have hst := Ov (Tm hb (n := n) (by omega))
  have hlt := bwat_lt (lv b 32) n (n / 8)
  have hw := W_nu hb hl n (JY (lv b 32) n) ((n : Int) - 1) (by omega) (by omega) rfl
  have hLl : L.length = 4 := by rw [hL]; unfold JY; rfl
  obtain ⟨e, h1⟩ := hb.get n
  have hq : (n : Int).tdiv 8 = ((n / 8 : Nat) : Int) := by rw [Int.tdiv_eq_ediv_of_nonneg (by omega)]; omega
  rw [← hL] at hs hg
  rw [hst] at hlt
  generalize JY (lv b 32) n = L2 at *
  generalize FO (lv b 32) (n + 1) (n / 8) = x at *
  generalize at0 b n = d at *
  refine W.seg [(0, aV (I6 ((↑(n + 1) : Int) - 1))), (1, aT), (2, aV (I6 ((↑(n + 1) : Int) - 1))), (3, aV (I6 ↑(n / 8))), (4, aV (I6 ((↑(n + 1) : Int) - 1))), (5, aV (I6 ↑(n / 8))), (6, aV (PV.at 3 [Stp.idx (n / 8) 1])), (7, aV (U6 x)), (8, aV (U6 ↑(256 * x))), (9, aV (I6 ((↑(n + 1) : Int) - 1))), (10, aV (PV.at 1 [Stp.idx n 1])), (11, aV (U8 d)), (12, aV (U6 d)), (13, aV (U6 ↑(256 * x + d))), (14, aV (PV.at 3 [Stp.idx (n / 8) 1])), (16, aV (I6 ((↑(n + 1) : Int) - 1))), (17, aV (I6 ((n:Int) - 1)))] [(1, 1), (3, 3)] (dsNu b L2 ((n : Int) - 1)) (todo' := Af Tryz.f97 0) [I6 n = I6 ((↑(n + 1) : Int) - 1), decide ((↑(n + 1) : Int) - 1 ≥ (0 : Int)) = true, I6 n = I6 ((↑(n + 1) : Int) - 1), I6 (IntKind.wrap .i64 (Int.tdiv ((↑(n + 1) : Int) - 1) (8 : Int))) = I6 ↑(n / 8), (8 : Int) ≠ 0, I6 n = I6 ((↑(n + 1) : Int) - 1), I6 (IntKind.wrap .i64 (Int.tdiv ((↑(n + 1) : Int) - 1) (8 : Int))) = I6 ↑(n / 8), (8 : Int) ≠ 0, PV.at 3 [Stp.idx (Int.toNat (↑(n / 8) : Int)) 1] = PV.at 3 [Stp.idx (n / 8) 1], 0 ≤ (↑(n / 8) : Int), (↑(n / 8) : Int) < (↑(4 : Nat) : Int), U6 (List.getD L (n / 8) (0 : Int)) = U6 x, n / 8 < 4, U6 (IntKind.wrap .u64 ((x:Int) * (256 : Int))) = U6 ↑(256 * x), I6 n = I6 ((↑(n + 1) : Int) - 1), PV.at 1 [Stp.idx (Int.toNat ((↑(n + 1) : Int) - 1)) 1] = PV.at 1 [Stp.idx n 1], 0 ≤ (↑(n + 1) : Int) - 1, (↑(n + 1) : Int) - 1 < (↑(32 : Nat) : Int), U8 (List.getD b n (0 : Int)) = U8 d, n < 32, U6 (IntKind.wrap .u64 (d:Int)) = U6 d, U6 (IntKind.wrap .u64 ((↑(256 * x) : Int) + (d:Int))) = U6 ↑(256 * x + d), PV.at 3 [Stp.idx (Int.toNat (↑(n / 8) : Int)) 1] = PV.at 3 [Stp.idx (n / 8) 1], 0 ≤ (↑(n / 8) : Int), (↑(n / 8) : Int) < (↑(4 : Nat) : Int), n / 8 < 4, I6 n = I6 ((↑(n + 1) : Int) - 1), I6 (IntKind.wrap .i64 ((↑(n + 1) : Int) - 1 - (1 : Int))) = I6 ((n:Int) - 1), rr (PV.at 1 []), rr (PV.at 3 []), rr (I6 ((n:Int) - 1)), rr (B8 32 b), B6 4 (List.set L (n / 8) (↑(256 * x + d) : Int)) = B6 4 L2] (by kernel_rfl) (ac (cg (hi)) (ac (dT (by omega)) (ac (cg (hi)) (ac (cg (Ac (by rw [Int.tdiv_eq_ediv_of_nonneg (by omega)]; omega) (by omega) (by omega))) (ac (by omega) (ac (cg (hi)) (ac (cg (Ac (by rw [Int.tdiv_eq_ediv_of_nonneg (by omega)]; omega) (by omega) (by omega))) (ac (by omega) (ac (by rw [show Int.toNat (↑(n / 8) : Int) = n / 8 by omega]) (ob2 (by omega) (ac (cg (hg)) (ac (by omega) (ac (cg (Ah (by omega) (by omega) (by omega))) (ac (cg (hi)) (ac (by rw [show Int.toNat ((↑(n + 1) : Int) - 1) = n by omega]) (ob2 (by omega) (ac (cg (e)) (ac (by omega) (ac (cg (Ah rfl (by omega) (by omega))) (ac (cg (Ah rfl (by omega) (by omega))) (ac (by rw [show Int.toNat (↑(n / 8) : Int) = n / 8 by omega]) (ob3 (by omega) (ac (cg (hi)) (ac (cg (Ac (by omega) (by omega) (by omega))) (ac rfl (ac rfl (ac rfl (ac rfl (ao ?_))))))))))))))))))))))))))))) ?_
  ·rw [hs]
  exact hw
theorem Qf {b : Liz} (hb : Bytes b) (hl : b.length = 32) : Pt 97 [] [.iarr .u8 32 b] [] (bv false (lv b 32)) := by
 refine pO Tryz.func97 (by kernel_rfl) ?_
 have hw := W_nu hb hl 32 [0, 0, 0, 0] 31 (by omega) (by omega) (Ww (Mw hb 32)).symm
 generalize lv b 32 = v at *
 refine W.sgA 0 [] [(64, 1), (96, 3)] (dsNu b [0, 0, 0, 0] 31) [] trivial ?_
 exact hw
theorem Rq {h : Hd} (ho : h.Ok) : Pt 65 [] [h.pv] [] (.bool (meets h)) := by
 refine pO Tryz.func65 (by kernel_rfl) ?_
 by_cases h0 : tgt h.bits = 0
 ·have c1 := De ho.bits h0
  have e : meets h = false := by unfold meets; exact decide_eq_false fun x => x.1 h0
  rw [e]
  refine W.rtA [(4, c9 c1)] [] [_] (ao (c1))
 ·have c1 := Bz ho.bits h0
  have c2 := NJ ho
  have c3 := Qf (EJ h) (Bq h)
  have n1 := CO.2 (BP h.bits)
  have n2 := CO.2 (OU (EJ h))
  have c4 := Cq (na := false) (nb := false) (a := tgt h.bits) (b := lv (Ak h) 32) (by omega) (by omega)
  have hl := Bq h
  have e0 : meets h = decide (lv (Ak h) 32 ≤ tgt h.bits) := by
   unfold meets hnum
   rw [decide_eq_decide]
   exact ⟨fun x => x.2, fun x => ⟨h0, x⟩⟩
  rw [e0]
  by_cases hc : lv (Ak h) 32 ≤ tgt h.bits
  ·rw [decide_eq_false (by omega)] at c4
   rw [decide_eq_true hc]
   generalize lv (Ak h) 32 = v at *
   generalize Ak h = hh at *
   refine W.rtA [(4, c0 c1), (14, c9 c2), (15, c0 c3), (16, c9 c4)] [] [_, _, _, _] (ac (c1) (ac (c2) (ac (c3) (ao (c4)))))
  ·rw [decide_eq_true (by omega)] at c4
   rw [decide_eq_false hc]
   generalize lv (Ak h) 32 = v at *
   generalize Ak h = hh at *
   refine W.rtA [(4, c0 c1), (14, c9 c2), (15, c0 c3), (16, c9 c4)] [] [_, _, _, _] (ac (c1) (ac (c2) (ac (c3) (ao (c4)))))
def lh (h : Hd) : Hd × List Int := (h, Ak h)
theorem TC {h : Hd} (ho : h.Ok) : Pt 35 [] [h.pv] [] (lk (lh h)) := by
 refine pO Tryz.func35 (by kernel_rfl) ?_
 have c1 := NJ ho
 have e : lk (lh h) = .st 100 [h.pv, .iarr .u8 32 (Ak h)] := rfl
 rw [e]
 generalize Ak h = x at *
 refine W.rtA [(4, c9 c1)] [] [_] (ao (c1))
def tms (l : List Hd) : List Int := l.map fun h => (h.time : Int)
def dsTm (l : List Hd) (nl : Bool) (n : Nat) (T : PV) (i : Nat) : DS := ⟨[(3, T), (11, .vec nl (.parr 68 n hsh (l.map Hd.pv))), (12, .int .i64 n), (13, .int .i64 i)], []⟩
def dsTm1 (l : List Hd) (nl : Bool) (n : Nat) (L : List Int) (i : Nat) : DS := ⟨[(3, .ref 1 [] 1 0 i), (11, .vec nl (.parr 68 n hsh (l.map Hd.pv))), (12, .int .i64 n), (13, .int .i64 i)], [(1, ⟨.iarr .u32 i L, false⟩)]⟩
theorem Jz {l : List Hd} {i : Nat} (h : i < l.length) : tms (l.take i) ++ [((l.getD i default).time : Int)] = tms (l.take (i + 1)) := by
 unfold tms
 rw [List.take_add_one, List.map_append, List.getElem?_eq_getElem h, List.getD_eq_getElem?_getD, List.getElem?_eq_getElem h]
 rfl
theorem Tf {nl : Bool} {l : List Hd} {n : Nat} (hn : l.length = n) (hn1 : n ≤ 30) (ho : ∀ h ∈ l, h.Ok) : ∀ (k i : Nat) (L : List Int), i + k = n → 0 < i → L = tms (l.take i) →
  Wt Tryz.f73 [] [] (.vec false (.iarr .u32 n (tms l))) (Af Tryz.f73 0) (dsTm1 l nl n L i)
 | 0, i, L, hk, h0, hL => by
  have hi : i = n := by omega
  subst hi
  rw [← hn, List.take_length] at hL
  have hll : L.length = i := by rw [hL]; simp [tms, hn]
  rw [← hL]
  refine W.ret [(0, aF)] [] [decide ((i:Int) < (i:Int)) = false, 0 + i ≤ i, PV.vec false (B3 i (List.take i L)) = PV.vec false (B3 i L)] (by kernel_rfl) (ac (dF (by omega)) (ac (by omega) (ao ?_)))
  rw [List.take_of_length_le (by omega)]
 | k + 1, i, L, hk, h0, hL => by
  have hll : L.length = i := by rw [hL]; simp [tms]; omega
  have hh := Jz (l := l) (i := i) (by omega)
  have g := Eg (l := l) (i := i) (by omega)
  rw [← hL] at hh
  have hw := Tf (nl := nl) hn hn1 ho k (i + 1) _ (by omega) (by omega) hh
  generalize l.getD i default = h at *
  generalize tms l = R at *
  refine W.sgA 0 [(0, aT), (2, aE g), (9, Ans.ups [(1, none), (208, some (Row.mk (B3 (i + 1) (L ++ [(↑(Hd.time h) : Int)])) false))]), (11, aV (I6 ↑(i + 1)))] [(208, 1)] (dsTm1 l nl n (L ++ [(h.time : Int)]) (i + 1)) [decide ((i:Int) < (n:Int)) = true, 0 ≤ (i:Int), (i:Int) < (n:Int), _, i < n, ([(1, none), (208, some (Row.mk (B3 (i + 1) (List.take i L ++ [(↑(Hd.time h) : Int)])) false))] : List (Nat × Option Row)) = [(1, none), (208, some (Row.mk (B3 (i + 1) (L ++ [(↑(Hd.time h) : Int)])) false))], 1 ≤ 1, 0 + i = i, (i + 1) * 4 ≤ 140737488355328, i + 1 ≤ 9223372036854775807, I6 (IntKind.wrap .i64 ((i:Int) + 1)) = I6 ↑(i + 1)] (ac (dT (by omega)) (ob2 (by omega) (ac (ex g) (ac (by omega) (ac (by rw [List.take_of_length_le (show List.length L ≤ i by omega)]) (ac (by omega) (ac (by omega) (ob2 (by omega) (ao (wj (by omega))))))))))) ?_
  exact hw
theorem Vl (n : Nat) : mx 0 ((n : Int) - 11) = ((n - 11 : Nat) : Int) := by unfold mx; split <;> omega
theorem XT {nl : Bool} {l : List Hd} (h0 : 0 < l.length) (hn1 : l.length ≤ 30) (ho : ∀ h ∈ l, h.Ok) : Pt 73 [] [lpv nl l] [] (.vec false (.iarr .u32 (Av (tms l)).length (Av (tms l)))) := by
 refine pO Tryz.func73 (by kernel_rfl) ?_
 unfold lpv
 have eL : Av (tms l) = tms (l.drop (l.length - 11)) := by unfold Av tms; rw [List.length_map, List.map_drop]
 have hlen : (tms (l.drop (l.length - 11))).length = l.length - (l.length - 11) := by simp [tms]
 rw [eL, hlen]
 have hdl : (l.drop (l.length - 11)).length = l.length - (l.length - 11) := by simp
 have hh := Jz (l := l.drop (l.length - 11)) (i := 0) (by omega)
 have g := Eg (l := l.drop (l.length - 11)) (i := 0) (by omega)
 rw [List.take_zero, show tms [] = [] from rfl, List.nil_append] at hh
 have hw := Tf (nl := nl) hdl (by omega) (fun h hh => ho h (List.mem_of_mem_drop hh)) (l.length - (l.length - 11) - 1) 1 _ (by omega) (by omega) hh
 have hm := Vl l.length
 have hkk : l.length - 11 ≤ l.length := by omega
 have hd : (l.length : Int) - ((l.length - 11 : Nat) : Int) = ((l.length - (l.length - 11) : Nat) : Int) := by omega
 have e2 : (l.drop (l.length - 11)).map Hd.pv = ((l.map Hd.pv).drop (l.length - 11)) := by rw [List.map_drop]
 refine W.seg [(5, aV (I6 ((↑(List.length l) : Int) - 11))), (6, aV (I6 ↑(List.length l - 11))), (7, aV (PV.vec nl (PV.parr 68 (List.length l - (List.length l - 11)) hsh (List.take (List.length l - (List.length l - 11)) (Cx (List.map Hd.pv l) (List.length l - 11))))))] [] (dsTm (l.drop (l.length - 11)) nl (l.length - (l.length - 11)) (.vec true (.iarr .u32 0 [])) 0) (todo' := Af Tryz.f73 0) [I6 (IntKind.wrap .i64 ((↑(List.length l) : Int) - 11)) = I6 ((↑(List.length l) : Int) - 11), I6 (mx (0 : Int) ((↑(List.length l) : Int) - 11)) = I6 ↑(List.length l - 11), PV.vec nl (PV.parr 68 (Int.toNat ((↑(List.length l) : Int) - (↑(List.length l - 11) : Int))) hsh (List.take (Int.toNat ((↑(List.length l) : Int) - (↑(List.length l - 11) : Int))) (Cx (List.map Hd.pv l) (Int.toNat (↑(List.length l - 11) : Int))))) = PV.vec nl (PV.parr 68 (List.length l - (List.length l - 11)) hsh (List.take (List.length l - (List.length l - 11)) (Cx (List.map Hd.pv l) (List.length l - 11)))), 0 ≤ (↑(List.length l - 11) : Int), (↑(List.length l - 11) : Int) ≤ (↑(List.length l) : Int), (↑(List.length l) : Int) ≤ (↑(List.length l) : Int), rr (PV.vec true (B3 0 [])), PV.vec nl (PV.parr 68 (List.length l - (List.length l - 11)) hsh (List.take (List.length l - (List.length l - 11)) (Cx (List.map Hd.pv l) (List.length l - 11)))) = PV.vec nl (PV.parr 68 (List.length l - (List.length l - 11)) hsh (List.map Hd.pv (List.drop (List.length l - 11) l))), rr (I6 ↑(List.length l - (List.length l - 11))), I6 0 = I6 ↑(0 : Nat)] (by kernel_rfl) (ac (wj (by omega)) (ac (cg (hm)) (ac (by rw [show Int.toNat ((↑(List.length l) : Int) - (↑(List.length l - 11) : Int)) = List.length l - (List.length l - 11) by omega, show Int.toNat (↑(List.length l - 11) : Int) = List.length l - 11 by omega]) (ac (by omega) (ac (by omega) (ac (by omega) (ac rfl (ac ?_ (ac rfl (ao (cg (by omega)))))))))))) ?_
 ·rw [Bj, ← e2, List.take_of_length_le (by simp)]
 generalize l.drop (l.length - 11) = m at *
 generalize l.length - (l.length - 11) = n at *
 generalize m.getD 0 default = h at *
 generalize tms m = R at *
 refine W.sgA 0 [(0, aT), (2, aE g), (11, aV (I6 1))] [(208, 1)] (dsTm1 m nl n [(h.time : Int)] 1) [decide ((↑(0 : Nat) : Int) < (n:Int)) = true, 0 ≤ (↑(0 : Nat) : Int), (↑(0 : Nat) : Int) < (n:Int), _, 0 < n, 1 ≤ 1, 0 < 1, 4 ≤ 140737488355328, 1 ≤ 9223372036854775807, I6 (IntKind.wrap .i64 ((↑(0 : Nat) : Int) + 1)) = I6 1] (ac (dT (by omega)) (ob2 (by omega) (ac (ex g) (ob4 (by omega) (ac (by omega) (ao (wj (by omega)))))))) ?_
 exact hw
end Go.Proofs
namespace Go.Proofs
open Go Go.Pe Go.Pm
set_option maxRecDepth 100000
set_option linter.unusedVariables false
attribute [local irreducible] Ak lv EP
def Hf (p : Prm) (l : List Hd) : Nat × Bool :=
 let a := l.getD (l.length - 1) default
 if l.length % p.per.toNat = 0 then
  if tgt a.bits = 0 then (0, false)
  else (EY (H6 (tgt a.bits) (tgt p.lim) (Ar p.per.toNat p.sp) (Bb (Ar p.per.toNat p.sp) (l.getD (l.length - p.per.toNat) default).time a.time)), true)
 else (a.bits, true)
theorem Sg {l : List Hd} {i : Nat} (h : i < l.length) : (l.map lh).getD i default = lh (l.getD i default) := by
 simp [List.getD_eq_getElem?_getD, h]
theorem Oz {p : Prm} (hp : p.Ok) (hm : p.May) {nl nl2 : Bool} {l : List Hd} (h0 : 0 < l.length) (hn : l.length ≤ 30) (ho : ∀ h ∈ l, h.Ok) :
  Pt 70 [] [p.pv, lpv nl l] [] (.tup [.int .u32 (Hf p l).1, .int .i64 (if (Hf p l).2 = true then 0 else 5)]) ∧
  Pt 64 [] [p.rpv, links nl2 (l.map lh)] [] (.tup [.int .u32 (Hf p l).1, .bool (Hf p l).2]) := by
 obtain ⟨q, hq⟩ : ∃ q : Nat, p.per = (q : Int) := ⟨p.per.toNat, by have := hm.per; omega⟩
 have hq1 : 1 ≤ q := by have := hm.per; omega
 have hqt : p.per.toNat = q := by omega
 have hlim := Gv hm.c1
 have hlen : (l.map lh).length = l.length := by simp
 have e1 := Sg (l := l) (i := l.length - 1) (by omega)
 unfold Hf
 dsimp only
 rw [hqt]
 by_cases hd : l.length % q = 0
 ·rw [if_pos hd]
  have hqn : q ≤ l.length := Nat.le_of_dvd (by omega) (Nat.dvd_of_mod_eq_zero hd)
  have h1 := Mr (i := l.length - 1) ho (by omega)
  have h2 := Mr (i := l.length - q) ho (by omega)
  have e2 := Sg (l := l) (i := l.length - q) (by omega)
  by_cases ht : tgt (l.getD (l.length - 1) default).bits = 0
  ·rw [if_pos ht]
   refine ⟨Js hq hq1 rfl (by omega) (by omega) hd (U5 _ _ h1.bits hp.lim h2.time h1.time ht), KW hq hq1 hlen (by omega) (by omega) hd ?_⟩
   rw [e1, e2]
   exact Qc _ _ h1.bits hp.lim (.inl ht)
  ·rw [if_neg ht]
   refine ⟨Js hq hq1 rfl (by omega) (by omega) hd (UG _ _ h1.bits hp.lim h2.time h1.time ht hlim), KW hq hq1 hlen (by omega) (by omega) hd ?_⟩
   rw [e1, e2]
   exact PM _ _ h1.bits hp.lim h2.time h1.time ht hlim
 ·rw [if_neg hd]
  have := P8 (p := p) (nl := nl2) (l := l.map lh) hq hq1 hlen (by omega) (by omega) hd
  rw [e1] at this
  exact ⟨Pf hq hq1 rfl (by omega) (by omega) hd, this⟩
def jud (p : Prm) (l : List Hd) (h : Hd) (now : Int) : Int :=
 if ¬ h.prev = Ak (l.getD (l.length - 1) default) then 9
 else if (Hf p l).2 = false ∨ ¬ (Hf p l).1 = h.bits then 10
 else if meets h = false then 11
 else if (h.time : Int) ≤ Br (tms l) then 12
 else if held now + p.fu < (h.time : Int) then 13
 else 0
theorem Ps (l : List Int) : Br (Av l) = Br l := by
 unfold Br
 have e : Av (Av l) = Av l := by
  unfold Av
  rw [List.drop_drop, List.length_drop]
  congr 1
  omega
 rw [e]
 by_cases h : l = []
 ·rw [if_pos h, if_pos (Df.2 h)]
 ·rw [if_neg h, if_neg (fun x => h (Df.1 x))]
theorem held_id {n : Int} (h1 : 0 ≤ n) (h2 : n ≤ 4294967296) : held n = n := by
 unfold held mn mx
 split <;> split <;> omega
set_option maxHeartbeats 4000000 in
theorem Q3 {p : Prm} (hp : p.Ok) (hm : p.May) {nl : Bool} {l : List Hd} (h0 : 0 < l.length) (hn : l.length ≤ 30) (ho : ∀ h ∈ l, h.Ok) {h : Hd} (hh : h.Ok) {now : Int} :
  Pt 42 [] [p.pv, lpv nl l, h.pv, .int .i64 now] [] (.int .i64 (jud p l h now)) := by
 refine pO Tryz.func42 (by kernel_rfl) ?_
 have c1 := (Oz hp hm (nl := nl) (nl2 := nl) h0 hn ho).1
 have hok := Mr (i := l.length - 1) ho (by omega)
 have c2 := Da hok
 have c3 := RJ hh
 have c4 := XT (nl := nl) h0 hn ho
 have hne : tms l ≠ [] := by unfold tms; simp; intro e; rw [e] at h0; simp at h0
 have hne2 : Av (tms l) ≠ [] := fun x => hne (Df.1 x)
 have hll : (Av (tms l)).length < 1000 := by simp [Av, tms]; omega
 have c5 := UB (nl := false) (h.time : Int) (l := Av (tms l)) rfl (List.length_pos_iff.2 hne2) hll (by intro x; cases x)
 rw [Ps] at c5
 have t1 := hh.time
 have c6 := pc_near (t := (h.time : Int)) (now := now) (future := p.fu) (by omega) (by omega)
 rw [held_id hm.fu.1 hm.fu.2] at c6
 have g := Eg (l := l) (i := l.length - 1) (by omega)
 have hi : (l.length : Int) - 1 = ((l.length - 1 : Nat) : Int) := by omega
 have hk : l.length - 1 < l.length := by omega
 have hpl := hh.prev
 have hhl := Bq (l.getD (l.length - 1) default)
 unfold jud
 unfold lpv at *
 generalize (Av (tms l)).length = tn at *
 generalize Av (tms l) = ts at *
 generalize Br (tms l) = me at *
 generalize Hf p l = xb at *
 generalize held now = hd at *
 generalize l.getD (l.length - 1) default = a at *
 generalize l.length - 1 = k at *
 generalize l.length = n at *
 generalize Ak a = ha at *
 generalize meets h = mt at *
 obtain ⟨x, b⟩ := xb
 dsimp only at c1 ⊢
 by_cases j1 : h.prev = ha
 ·rw [if_neg (not_not_intro j1)]
  by_cases j2 : b = false
  ·rw [if_pos (.inl j2)]
   subst j2
   rw [if_neg (by decide)] at c1
   refine W.rtA [(5, aF), (8, c9 c1), (19, aV (I6 k)), (21, aE g), (22, c9 c2), (23, aF)] [] [((n:Int) == 0) = false, _, I6 (IntKind.wrap .i64 ((n:Int) - 1)) = I6 k, 0 ≤ (k:Int), (k:Int) < (n:Int), _, k < n, _, (!decide (Hd.prev h = ha)) = false] (ac (dF (by omega)) (ac (c1) (ac (cg (Ac hi (by omega) (by omega))) (ob2 (by omega) (ac (ex g) (ac (by omega) (ac (c2) (ao (by (simp [*]; done))))))))))
  ·have j2 : b = true := by cases b <;> simp_all
   subst j2
   rw [if_pos rfl] at c1
   by_cases j3 : x = h.bits
   ·rw [if_neg (by rintro (h | h); cases h; exact h j3)]
    by_cases j4 : mt = false
    ·rw [if_pos j4]
     subst j4
     refine W.rtA [(5, aF), (8, c9 c1), (19, aV (I6 k)), (21, aE g), (22, c9 c2), (23, aF), (31, aF), (35, c9 c3)] [] [((n:Int) == 0) = false, _, I6 (IntKind.wrap .i64 ((n:Int) - 1)) = I6 k, 0 ≤ (k:Int), (k:Int) < (n:Int), _, k < n, _, (!decide (Hd.prev h = ha)) = false, ((↑(Hd.bits h) : Int) != (x:Int)) = false, _] (ac (dF (by omega)) (ac (c1) (ac (cg (Ac hi (by omega) (by omega))) (ob2 (by omega) (ac (ex g) (ac (by omega) (ac (c2) (ac (by (simp [*]; done)) (ac (bne_eq_false_iff_eq.2 (by omega)) (ao (c3)))))))))))
    ·have j4 : mt = true := by cases mt <;> simp_all
     subst j4
     rw [if_neg (by decide)]
     by_cases j5 : (h.time : Int) ≤ me
     ·rw [if_pos j5]
      rw [decide_eq_false (by omega)] at c5
      refine W.rtA [(5, aF), (8, c9 c1), (19, aV (I6 k)), (21, aE g), (22, c9 c2), (23, aF), (31, aF), (35, c9 c3), (39, c0 c4), (42, c9 c5)] [] [((n:Int) == 0) = false, _, I6 (IntKind.wrap .i64 ((n:Int) - 1)) = I6 k, 0 ≤ (k:Int), (k:Int) < (n:Int), _, k < n, _, (!decide (Hd.prev h = ha)) = false, ((↑(Hd.bits h) : Int) != (x:Int)) = false, _, _, _] (ac (dF (by omega)) (ac (c1) (ac (cg (Ac hi (by omega) (by omega))) (ob2 (by omega) (ac (ex g) (ac (by omega) (ac (c2) (ac (by (simp [*]; done)) (ac (bne_eq_false_iff_eq.2 (by omega)) (ac (c3) (ac (c4) (ao (c5)))))))))))))
     ·rw [if_neg j5]
      rw [decide_eq_true (by omega)] at c5
      by_cases j6 : hd + p.fu < (h.time : Int)
      ·rw [if_pos j6]
       rw [decide_eq_false (by omega)] at c6
       refine W.rtA [(5, aF), (8, c9 c1), (19, aV (I6 k)), (21, aE g), (22, c9 c2), (23, aF), (31, aF), (35, c9 c3), (39, c0 c4), (42, c9 c5), (50, c9 c6)] [] [((n:Int) == 0) = false, _, I6 (IntKind.wrap .i64 ((n:Int) - 1)) = I6 k, 0 ≤ (k:Int), (k:Int) < (n:Int), _, k < n, _, (!decide (Hd.prev h = ha)) = false, ((↑(Hd.bits h) : Int) != (x:Int)) = false, _, _, _, _] (ac (dF (by omega)) (ac (c1) (ac (cg (Ac hi (by omega) (by omega))) (ob2 (by omega) (ac (ex g) (ac (by omega) (ac (c2) (ac (by (simp [*]; done)) (ac (bne_eq_false_iff_eq.2 (by omega)) (ac (c3) (ac (c4) (ac (c5) (ao (c6))))))))))))))
      ·rw [if_neg j6]
       rw [decide_eq_true (by omega)] at c6
       refine W.rtA [(5, aF), (8, c9 c1), (19, aV (I6 k)), (21, aE g), (22, c9 c2), (23, aF), (31, aF), (35, c9 c3), (39, c0 c4), (42, c9 c5), (50, c9 c6)] [] [((n:Int) == 0) = false, _, I6 (IntKind.wrap .i64 ((n:Int) - 1)) = I6 k, 0 ≤ (k:Int), (k:Int) < (n:Int), _, k < n, _, (!decide (Hd.prev h = ha)) = false, ((↑(Hd.bits h) : Int) != (x:Int)) = false, _, _, _, _] (ac (dF (by omega)) (ac (c1) (ac (cg (Ac hi (by omega) (by omega))) (ob2 (by omega) (ac (ex g) (ac (by omega) (ac (c2) (ac (by (simp [*]; done)) (ac (bne_eq_false_iff_eq.2 (by omega)) (ac (c3) (ac (c4) (ac (c5) (ao (c6))))))))))))))
   ·rw [if_pos (.inr j3)]
    refine W.rtA [(5, aF), (8, c9 c1), (19, aV (I6 k)), (21, aE g), (22, c9 c2), (23, aF), (31, aT)] [] [((n:Int) == 0) = false, _, I6 (IntKind.wrap .i64 ((n:Int) - 1)) = I6 k, 0 ≤ (k:Int), (k:Int) < (n:Int), _, k < n, _, (!decide (Hd.prev h = ha)) = false, ((↑(Hd.bits h) : Int) != (x:Int)) = true] (ac (dF (by omega)) (ac (c1) (ac (cg (Ac hi (by omega) (by omega))) (ob2 (by omega) (ac (ex g) (ac (by omega) (ac (c2) (ac (by (simp [*]; done)) (ao (bne_iff_ne.2 (by omega)))))))))))
 ·rw [if_pos j1]
  refine W.rtA [(5, aF), (8, c9 c1), (9, aV (PV.tup [U3 x, I6 (Decidable.rec (fun h => (5 : Int)) (fun h => (0 : Int)) (instDecidableEqBool b true))])), (19, aV (I6 k)), (21, aE g), (22, c9 c2), (23, aT)] [] [((n:Int) == 0) = false, _, PV.tup [U3 x, I6 (Decidable.rec (fun h => (fun x => (5 : Int)) h) (fun h => (fun x => (0 : Int)) h) (instDecidableEqBool (Prod.snd (x, b)) true))] = PV.tup [U3 x, I6 (Decidable.rec (fun h => (5 : Int)) (fun h => (0 : Int)) (instDecidableEqBool b true))], I6 (IntKind.wrap .i64 ((n:Int) - 1)) = I6 k, 0 ≤ (k:Int), (k:Int) < (n:Int), _, k < n, _, (!decide (Hd.prev h = ha)) = true] (ac (dF (by omega)) (ac (c1) (ac (by simp only []) (ac (cg (Ac hi (by omega) (by omega))) (ob2 (by omega) (ac (ex g) (ac (by omega) (ac (c2) (ao (by (simp [*]; done)))))))))))
end Go.Proofs
namespace Go.Proofs
open Go Go.Pe Go.Pm
set_option maxRecDepth 100000
set_option linter.unusedVariables false
attribute [local irreducible] Ak lv EP
def dsJ0 (p : Prm) (h : Hd) (now : Int) (nl : Bool) (K : List PV) (n : Nat) : DS := ⟨[(3, .int .i64 now), (4, .at 4 []), (6, .at 6 []), (11, .vec true (.iarr .u32 0 [])), (41, .vec nl (.parr 100 n H5 K)), (42, .int .i64 n), (43, .int .i64 ((0 : Nat) : Int))], [(4, ⟨p.rpv, false⟩), (6, ⟨h.pv, false⟩)]⟩
def dsJ (p : Prm) (h : Hd) (now : Int) (nl : Bool) (K : List PV) (n : Nat) (L : List Int) (i : Nat) : DS := ⟨[(3, .int .i64 now), (4, .at 4 []), (6, .at 6 []), (11, .ref 1 [] 1 0 i), (41, .vec nl (.parr 100 n H5 K)), (42, .int .i64 n), (43, .int .i64 i)], [(4, ⟨p.rpv, false⟩), (6, ⟨h.pv, false⟩), (1, ⟨.iarr .u32 i L, false⟩)]⟩
theorem Px {l : List Hd} {i : Nat} (h : i < l.length) : ((l.map lh).map lk).getD i .undef = .st 100 [(l.getD i default).pv, .iarr .u8 32 (Ak (l.getD i default))] := by
 rw [O1 (by simpa using h), Sg h]
 rfl
def jud2 (p : Prm) (l : List Hd) (h : Hd) (now : Int) : Int :=
 if (h.time : Int) ≤ Br (tms l) then 12
 else if held now + p.fu < (h.time : Int) then 13
 else 0
set_option maxHeartbeats 4000000 in
theorem W_rj {p : Prm} (hm : p.May) {h : Hd} (hh : h.Ok) {now : Int} {nl : Bool} {l : List Hd} {n : Nat} (hn : l.length = n) (hn1 : n ≤ 30) : ∀ (k i : Nat) (L : List Int), i + k = n → 0 < i → L = tms (l.take i) →
  Wt Tryz.f38 [] [] (.int .i64 (jud2 p l h now)) (Af Tryz.f38 0) (dsJ p h now nl ((l.map lh).map lk) n L i)
 | 0, i, L, hk, h0, hL => by
  have hi : i = n := by omega
  subst hi
  rw [← hn, List.take_length] at hL
  have hll : L.length = i := by rw [hL]; simp [tms, hn]
  have t1 := hh.time
  have f1 := hm.fu
  have c1 := OH (nl := false) (l := L) (n := i) hll.symm (by omega)
  have c2 := pc_held now
  have hb := Pv now
  unfold jud2
  rw [← hL]
  generalize Br L = me at *
  generalize held now = hd at *
  by_cases j5 : (h.time : Int) ≤ me
  ·rw [if_pos j5]
   refine W.rtA [(0, aF), (4, cL true [] c1), (5, aT)] [] [decide ((i:Int) < (i:Int)) = false, 0 + i ≤ i, rr ([] : List (Nat × Row)), ([PV.vec false (B3 i (List.take i L))] : List PV) = [PV.vec false (B3 i L)], _, decide ((↑(Hd.time h) : Int) ≤ me) = true] (ac (dF (by omega)) (ac (by omega) (ac rfl (ac (by rw [List.take_of_length_le (show List.length L ≤ i by omega)]) (ac (c1) (ao (dT (by omega))))))))
  ·rw [if_neg j5]
   by_cases j6 : hd + p.fu < (h.time : Int)
   ·rw [if_pos j6]
    refine W.rtA [(0, aF), (4, cL true [] c1), (5, aF), (8, aV (I6 ↑(Hd.time h))), (10, c9 c2), (13, aV (I6 (hd + Prm.fu p))), (14, aT)] [] [decide ((i:Int) < (i:Int)) = false, 0 + i ≤ i, rr ([] : List (Nat × Row)), ([PV.vec false (B3 i (List.take i L))] : List PV) = [PV.vec false (B3 i L)], _, decide ((↑(Hd.time h) : Int) ≤ me) = false, I6 (IntKind.wrap .i64 (↑(Hd.time h) : Int)) = I6 ↑(Hd.time h), _, I6 (IntKind.wrap .i64 (hd + Prm.fu p)) = I6 (hd + Prm.fu p), decide ((↑(Hd.time h) : Int) > hd + Prm.fu p) = true] (ac (dF (by omega)) (ac (by omega) (ac rfl (ac (by rw [List.take_of_length_le (show List.length L ≤ i by omega)]) (ac (c1) (ac (dF (by omega)) (ac (wj (by omega)) (ac (c2) (ac (wj (by omega)) (ao (dT (by omega))))))))))))
   ·rw [if_neg j6]
    refine W.rtA [(0, aF), (4, cL true [] c1), (5, aF), (8, aV (I6 ↑(Hd.time h))), (10, c9 c2), (13, aV (I6 (hd + Prm.fu p))), (14, aF)] [] [decide ((i:Int) < (i:Int)) = false, 0 + i ≤ i, rr ([] : List (Nat × Row)), ([PV.vec false (B3 i (List.take i L))] : List PV) = [PV.vec false (B3 i L)], _, decide ((↑(Hd.time h) : Int) ≤ me) = false, I6 (IntKind.wrap .i64 (↑(Hd.time h) : Int)) = I6 ↑(Hd.time h), _, I6 (IntKind.wrap .i64 (hd + Prm.fu p)) = I6 (hd + Prm.fu p), decide ((↑(Hd.time h) : Int) > hd + Prm.fu p) = false] (ac (dF (by omega)) (ac (by omega) (ac rfl (ac (by rw [List.take_of_length_le (show List.length L ≤ i by omega)]) (ac (c1) (ac (dF (by omega)) (ac (wj (by omega)) (ac (c2) (ac (wj (by omega)) (ao (dF (by omega))))))))))))
 | k + 1, i, L, hk, h0, hL => by
  have hll : L.length = i := by rw [hL]; simp [tms]; omega
  have hs := Jz (l := l) (i := i) (by omega)
  have g := Px (l := l) (i := i) (by omega)
  have hlen : ((l.map lh).map lk).length = n := by simp [hn]
  rw [← hL] at hs
  have hw := W_rj hm hh (now := now) (nl := nl) hn hn1 k (i + 1) _ (by omega) (by omega) hs
  generalize l.getD i default = a at *
  generalize Ak a = x at *
  generalize jud2 p l h now = R at *
  generalize (l.map lh).map lk = K at *
  refine W.sgA 0 [(0, aT), (2, aE g), (10, Ans.ups [(1, none), (224, some (Row.mk (B3 (i + 1) (L ++ [(↑(Hd.time a) : Int)])) false))]), (12, aV (I6 ↑(i + 1)))] [(4, 4), (6, 6), (224, 1)] (dsJ p h now nl K n (L ++ [(a.time : Int)]) (i + 1)) [decide ((i:Int) < (n:Int)) = true, 0 ≤ (i:Int), (i:Int) < (n:Int), _, i < n, ([(1, none), (224, some (Row.mk (B3 (i + 1) (List.take i L ++ [(↑(Hd.time a) : Int)])) false))] : List (Nat × Option Row)) = [(1, none), (224, some (Row.mk (B3 (i + 1) (L ++ [(↑(Hd.time a) : Int)])) false))], 1 ≤ 1, 0 + i = i, (i + 1) * 4 ≤ 140737488355328, i + 1 ≤ 9223372036854775807, I6 (IntKind.wrap .i64 ((i:Int) + 1)) = I6 ↑(i + 1)] (ac (dT (by omega)) (ob2 (by omega) (ac (ex g) (ac (by omega) (ac (by rw [List.take_of_length_le (show List.length L ≤ i by omega)]) (ac (by omega) (ac (by omega) (ob2 (by omega) (ao (wj (by omega))))))))))) ?_
  exact hw
set_option maxHeartbeats 4000000 in
theorem UE {p : Prm} (hp : p.Ok) (hm : p.May) {nl : Bool} {l : List Hd} (h0 : 0 < l.length) (hn : l.length ≤ 30) (ho : ∀ h ∈ l, h.Ok) {h : Hd} (hh : h.Ok) {now : Int} :
  Pt 38 [] [p.rpv, links nl (l.map lh), h.pv, .int .i64 now] [] (.int .i64 (jud p l h now)) := by
 refine pO Tryz.func38 (by kernel_rfl) ?_
 have c1 := (Oz hp hm (nl := nl) (nl2 := nl) h0 hn ho).2
 have c3 := Rq hh
 have g := Px (l := l) (i := l.length - 1) (by omega)
 have g0 := Px (l := l) (i := 0) h0
 have hi : (l.length : Int) - 1 = ((l.length - 1 : Nat) : Int) := by omega
 have hk : l.length - 1 < l.length := by omega
 have hpl := hh.prev
 have hhl := Bq (l.getD (l.length - 1) default)
 have hs := Jz (l := l) (i := 0) h0
 rw [List.take_zero, show tms [] = [] from rfl, List.nil_append] at hs
 have hw := W_rj hm hh (now := now) (nl := nl) (l := l) rfl hn (l.length - 1) 1 _ (by omega) (by omega) hs
 have ej : jud p l h now = if ¬ h.prev = Ak (l.getD (l.length - 1) default) then 9 else if (Hf p l).2 = false ∨ ¬ (Hf p l).1 = h.bits then 10 else if meets h = false then 11 else jud2 p l h now := rfl
 rw [ej]
 have hlen : ((l.map lh).map lk).length = l.length := by simp
 unfold links at *
 rw [List.length_map] at *
 generalize (l.map lh).map lk = K at *
 generalize jud2 p l h now = R at *
 generalize Hf p l = xb at *
 generalize l.getD 0 default = a0 at *
 generalize Ak a0 = ha0 at *
 generalize l.getD (l.length - 1) default = a at *
 generalize l.length - 1 = k at *
 generalize l.length = n at *
 generalize Ak a = ha at *
 generalize meets h = mt at *
 obtain ⟨x, b⟩ := xb
 dsimp only at c1 ⊢
 by_cases j1 : h.prev = ha
 ·rw [if_neg (not_not_intro j1)]
  by_cases j2 : b = false
  ·rw [if_pos (.inl j2)]
   subst j2
   refine W.rtA [(8, aV (I6 k)), (11, aV (B8 32 ha)), (12, aF), (15, c9 c1)] [] [I6 (IntKind.wrap .i64 ((n:Int) - 1)) = I6 k, 0 ≤ (k:Int), (k:Int) < (n:Int), B8 32 (PV.nums (List.headD (List.tail (PV.fs (List.getD K k PV.undef))) PV.undef)) = B8 32 ha, k < n, (!decide (Hd.prev h = ha)) = false, _] (ac (cg (Ac hi (by omega) (by omega))) (ob2 (by omega) (ac (by (rw [g]; rfl)) (ac (by omega) (ac (by (simp [*]; done)) (ao (c1)))))))
  ·have j2 : b = true := by cases b <;> simp_all
   subst j2
   by_cases j3 : x = h.bits
   ·rw [if_neg (by rintro (h | h); cases h; exact h j3)]
    by_cases j4 : mt = false
    ·rw [if_pos j4]
     subst j4
     refine W.rtA [(8, aV (I6 k)), (11, aV (B8 32 ha)), (12, aF), (15, c9 c1), (27, aF), (30, c9 c3)] [] [I6 (IntKind.wrap .i64 ((n:Int) - 1)) = I6 k, 0 ≤ (k:Int), (k:Int) < (n:Int), B8 32 (PV.nums (List.headD (List.tail (PV.fs (List.getD K k PV.undef))) PV.undef)) = B8 32 ha, k < n, (!decide (Hd.prev h = ha)) = false, _, ((x:Int) != (↑(Hd.bits h) : Int)) = false, _] (ac (cg (Ac hi (by omega) (by omega))) (ob2 (by omega) (ac (by (rw [g]; rfl)) (ac (by omega) (ac (by (simp [*]; done)) (ac (c1) (ac (bne_eq_false_iff_eq.2 (by omega)) (ao (c3)))))))))
    ·have j4 : mt = true := by cases mt <;> simp_all
     subst j4
     rw [if_neg (by decide)]
     refine W.sgA 0 [(8, aV (I6 k)), (11, aV (B8 32 ha)), (12, aF), (15, c9 c1), (27, aF), (30, c9 c3)] [(64, 4), (80, 6)] (dsJ0 p h now nl K n) [I6 (IntKind.wrap .i64 ((n:Int) - 1)) = I6 k, 0 ≤ (k:Int), (k:Int) < (n:Int), B8 32 (PV.nums (List.headD (List.tail (PV.fs (List.getD K k PV.undef))) PV.undef)) = B8 32 ha, k < n, (!decide (Hd.prev h = ha)) = false, _, ((x:Int) != (↑(Hd.bits h) : Int)) = false, _] (ac (cg (Ac hi (by omega) (by omega))) (ob2 (by omega) (ac (by (rw [g]; rfl)) (ac (by omega) (ac (by (simp [*]; done)) (ac (c1) (ac (bne_eq_false_iff_eq.2 (by omega)) (ao (c3))))))))) ?_
     refine W.sgA 0 [(0, aT), (2, aE g0), (12, aV (I6 1))] [(4, 4), (6, 6), (224, 1)] (dsJ p h now nl K n [(a0.time : Int)] 1) [decide ((↑(0 : Nat) : Int) < (n:Int)) = true, 0 ≤ (↑(0 : Nat) : Int), (↑(0 : Nat) : Int) < (n:Int), _, 0 < n, 1 ≤ 1, 0 < 1, 4 ≤ 140737488355328, 1 ≤ 9223372036854775807, I6 (IntKind.wrap .i64 ((↑(0 : Nat) : Int) + 1)) = I6 1] (ac (dT (by omega)) (ob2 (by omega) (ac (ex g0) (ob4 (by omega) (ac (by omega) (ao (wj (by omega)))))))) ?_
     exact hw
   ·rw [if_pos (.inr j3)]
    refine W.rtA [(8, aV (I6 k)), (11, aV (B8 32 ha)), (12, aF), (15, c9 c1), (27, aT)] [] [I6 (IntKind.wrap .i64 ((n:Int) - 1)) = I6 k, 0 ≤ (k:Int), (k:Int) < (n:Int), B8 32 (PV.nums (List.headD (List.tail (PV.fs (List.getD K k PV.undef))) PV.undef)) = B8 32 ha, k < n, (!decide (Hd.prev h = ha)) = false, _, ((x:Int) != (↑(Hd.bits h) : Int)) = true] (ac (cg (Ac hi (by omega) (by omega))) (ob2 (by omega) (ac (by (rw [g]; rfl)) (ac (by omega) (ac (by (simp [*]; done)) (ac (c1) (ao (bne_iff_ne.2 (by omega)))))))))
 ·rw [if_pos j1]
  refine W.rtA [(8, aV (I6 k)), (11, aV (B8 32 ha)), (12, aT)] [] [I6 (IntKind.wrap .i64 ((n:Int) - 1)) = I6 k, 0 ≤ (k:Int), (k:Int) < (n:Int), B8 32 (PV.nums (List.headD (List.tail (PV.fs (List.getD K k PV.undef))) PV.undef)) = B8 32 ha, k < n, (!decide (Hd.prev h = ha)) = true] (ac (cg (Ac hi (by omega) (by omega))) (ob2 (by omega) (ac (by (rw [g]; rfl)) (ac (by omega) (ao (by (simp [*]; done)))))))
end Go.Proofs
namespace Go.Proofs
open Go Go.Pe Go.Pm
set_option linter.unusedVariables false
structure Nd where
 h : Hd
 path : List Nat
 w : Nat
instance : Inhabited Nd := ⟨⟨default, [], 0⟩⟩
def Nd.ht (x : Nd) : Nat := x.path.length - 1
def Nd.par (x : Nd) : Int := if x.path.length ≤ 1 then -1 else ((x.path.getD (x.path.length - 2) 0 : Nat) : Int)
def fnd : List (List Int) → List Int → Nat
 | [], _ => 0
 | k :: l, x => if k = x then 0 else fnd l x + 1
def hsN (N : List Nd) : List (List Int) := N.map fun x => Ak x.h
def Be (N : List Nd) (l : List Nat) : List Hd := l.map fun k => (N.getD k default).h
def Gt (p : Prm) (N : List Nd) (h : Hd) (now : Int) : List Nd × Int :=
 if fnd (hsN N) (Ak h) < N.length then (N, 7)
 else if p.cap ≤ (N.length : Int) then (N, 8)
 else if N.length ≤ fnd (hsN N) h.prev then (N, 9)
 else if ¬ jud p (Be N (N.getD (fnd (hsN N) h.prev) default).path) h now = 0 then (N, jud p (Be N (N.getD (fnd (hsN N) h.prev) default).path) h now)
 else if Aa ≤ (N.getD (fnd (hsN N) h.prev) default).w + work (tgt h.bits) then (N, 14)
 else (N ++ [⟨h, (N.getD (fnd (hsN N) h.prev) default).path ++ [N.length], (N.getD (fnd (hsN N) h.prev) default).w + work (tgt h.bits)⟩], 0)
structure TW (p : Prm) (N : List Nd) : Prop where
 pos : 0 < N.length
 first : N.getD 0 default = ⟨p.gen, [0], p.sum⟩
 ok : ∀ i, i < N.length → (N.getD i default).h.Ok
 w : ∀ i, i < N.length → (N.getD i default).w < Aa
 plen : ∀ i, i < N.length → 0 < (N.getD i default).path.length ∧ (N.getD i default).path.length ≤ i + 1
 plast : ∀ i, i < N.length → (N.getD i default).path.getD ((N.getD i default).path.length - 1) 0 = i
 pcl : ∀ i, i < N.length → ∀ k, k < (N.getD i default).path.length → (N.getD i default).path.getD k 0 < N.length ∧ (N.getD ((N.getD i default).path.getD k 0) default).path = (N.getD i default).path.take (k + 1)
theorem AY {α : Type} (l m : List α) (i : Nat) (d : α) (h : i < l.length) : (l ++ m).getD i d = l.getD i d := by simp [List.getD_eq_getElem?_getD, List.getElem?_append_left h]
theorem BD {α : Type} (l : List α) (x d : α) : (l ++ [x]).getD l.length d = x := by simp [List.getD_eq_getElem?_getD]
theorem TW.new {p : Prm} (hg : p.gen.Ok) (hs : p.sum < Aa) : TW p [⟨p.gen, [0], p.sum⟩] := by
 refine ⟨by simp, rfl, fun i hi => ?_, fun i hi => ?_, fun i hi => ?_, fun i hi => ?_, fun i hi k hk => ?_⟩ <;> (obtain rfl : i = 0 := by simpa using hi)
 ·exact hg
 ·exact hs
 ·exact ⟨by simp, by simp⟩
 ·rfl
 ·obtain rfl : k = 0 := by simpa using hk
  exact ⟨by simp, rfl⟩
theorem TW.snoc {p : Prm} {N : List Nd} (h : TW p N) {o w : Nat} {x : Hd} (ho : o < N.length) (hx : x.Ok) (hw : w < Aa) : TW p (N ++ [⟨x, (N.getD o default).path ++ [N.length], w⟩]) := by
 have hl : (N ++ [(⟨x, (N.getD o default).path ++ [N.length], w⟩ : Nd)]).length = N.length + 1 := by simp
 have hcase : ∀ i, i < N.length + 1 → i < N.length ∨ i = N.length := fun i hi => by omega
 refine ⟨by rw [hl]; omega, by rw [AY _ _ _ _ h.pos]; exact h.first, fun i hi => ?_, fun i hi => ?_, fun i hi => ?_, fun i hi => ?_, fun i hi k hk => ?_⟩ <;> rw [hl] at hi <;> rcases hcase i hi with hlt | rfl
 ·rw [AY _ _ _ _ hlt]; exact h.ok i hlt
 ·rw [BD]; exact hx
 ·rw [AY _ _ _ _ hlt]; exact h.w i hlt
 ·rw [BD]; exact hw
 ·rw [AY _ _ _ _ hlt]; exact h.plen i hlt
 ·rw [BD]
  have := (h.plen o ho).2
  simp only [List.length_append, List.length_singleton]
  omega
 ·rw [AY _ _ _ _ hlt]; exact h.plast i hlt
 ·rw [BD]; simp [List.getD_eq_getElem?_getD]
 ·rw [AY _ _ _ _ hlt] at hk ⊢
  obtain ⟨a, b⟩ := h.pcl i hlt k hk
  rw [hl, AY _ _ _ _ a]
  exact ⟨by omega, b⟩
 ·rw [BD] at hk ⊢
  simp only [List.length_append, List.length_singleton] at hk
  rw [hl]
  rcases Nat.lt_or_ge k (N.getD o default).path.length with hk' | hk'
  ·rw [AY _ _ _ _ hk']
   obtain ⟨a, b⟩ := h.pcl o ho k hk'
   rw [AY _ _ _ _ a, List.take_append_of_le_length (by omega)]
   exact ⟨by omega, b⟩
  ·obtain rfl : k = (N.getD o default).path.length := by omega
   have e : ((N.getD o default).path ++ [N.length]).getD (N.getD o default).path.length 0 = N.length := by simp [List.getD_eq_getElem?_getD]
   rw [e, BD]
   exact ⟨by omega, by rw [List.take_of_length_le (by simp)]⟩
theorem TW.add {p : Prm} {N : List Nd} (h : TW p N) {x : Hd} (hx : x.Ok) (now : Int) : TW p (Gt p N x now).1 := by
 unfold Gt
 split
 ·exact h
 split
 ·exact h
 split
 ·exact h
 split
 ·exact h
 split
 ·exact h
 ·exact h.snoc (by omega) hx (by omega)
theorem KF (p : Prm) (N : List Nd) (x : Hd) (now : Int) : (Gt p N x now).1.length ≤ N.length + 1 := by
 unfold Gt
 split <;> (try split) <;> (try split) <;> (try split) <;> (try split) <;> simp
theorem TW.height {p : Prm} {N : List Nd} (h : TW p N) {i k : Nat} (hi : i < N.length) (hk : k < (N.getD i default).path.length) : (N.getD ((N.getD i default).path.getD k 0) default).ht = k := by
 unfold Nd.ht
 rw [(h.pcl i hi k hk).2, List.length_take]
 omega
theorem TW.parent {p : Prm} {N : List Nd} (h : TW p N) {i k : Nat} (hi : i < N.length) (hk : k < (N.getD i default).path.length) :
  (N.getD ((N.getD i default).path.getD k 0) default).par = if k = 0 then -1 else (((N.getD i default).path.getD (k - 1) 0 : Nat) : Int) := by
 unfold Nd.par
 rw [(h.pcl i hi k hk).2, List.length_take, Nat.min_eq_left (by omega)]
 by_cases h0 : k = 0
 ·rw [if_pos (by omega), if_pos h0]
 ·have e : ((N.getD i default).path.take (k + 1)).getD (k - 1) 0 = (N.getD i default).path.getD (k - 1) 0 := by simp [List.getD_eq_getElem?_getD, show k - 1 < k + 1 by omega]
  rw [if_neg (by omega), if_neg h0, show k + 1 - 2 = k - 1 by omega, e]
theorem Uc : ∀ (l : List (List Int)) (x : List Int), fnd l x < l.length → l.getD (fnd l x) [] = x
 | [], _, h => by simp [fnd] at h
 | k :: l, x, h => by
  unfold fnd at h ⊢
  split
  ·rename_i e; simpa using e
  ·rename_i e
   rw [if_neg e] at h
   simpa using Uc l x (by simpa using h)
theorem Ue (l m : List (List Int)) (x : List Int) : fnd (l ++ m) x = if fnd l x < l.length then fnd l x else l.length + fnd m x := by
 induction l with
 | nil => simp [fnd]
 | cons k l ih =>
  simp only [List.cons_append, fnd]
  by_cases e : k = x
  ·simp [e]
  ·simp only [if_neg e, ih, List.length_cons]
   by_cases hl : fnd l x < l.length
   ·rw [if_pos hl, if_pos (by omega)]
   ·rw [if_neg hl, if_neg (by omega)]; omega
def E9 (N : List Nd) : Nat → Nat
 | 0 => 0
 | i + 1 => if (N.getD (E9 N i) default).w < (N.getD i default).w then i else E9 N i
def FJ (N : List Nd) : Nat := E9 N N.length
theorem I4 (N : List Nd) : ∀ i, 0 < i → E9 N i < i
 | 0, h => by omega
 | i + 1, _ => by
  unfold E9
  split
  ·omega
  ·rcases Nat.eq_zero_or_pos i with rfl | h
   ·simp [E9]
   ·have := I4 N i h; omega
theorem Po {N : List Nd} (h : 0 < N.length) : FJ N < N.length := I4 N _ h
theorem Ny (N M : List Nd) : ∀ i, 0 < N.length → i ≤ N.length → E9 (N ++ M) i = E9 N i
 | 0, _, _ => rfl
 | i + 1, h0, hi => by
  have h1 : E9 N i < N.length := by
   rcases Nat.eq_zero_or_pos i with rfl | h
   ·exact h0
   ·have := I4 N i h; omega
  unfold E9
  rw [Ny N M i h0 (by omega), AY N M i default (by omega), AY N M (E9 N i) default h1]
theorem Uw {N : List Nd} (h : 0 < N.length) (x : Nd) : FJ (N ++ [x]) = if (N.getD (FJ N) default).w < x.w then N.length else FJ N := by
 unfold FJ
 rw [show (N ++ [x]).length = N.length + 1 by simp]
 rw [E9, Ny N [x] _ h (Nat.le_refl _), BD, AY _ _ _ _ (I4 N _ h)]
end Go.Proofs
namespace Go.Proofs
open Go Go.Pe Go.Pm
set_option maxRecDepth 100000
set_option linter.unusedVariables false
attribute [local irreducible] Ak lv EP
def D5 (x : Nd) : PV := ndV x.h (Ak x.h) x.par x.ht (uw x.w)
def ints (l : List Nat) : List Int := l.map fun x : Nat => (x : Int)
theorem Md {N : List Nd} {i : Nat} (h : i < N.length) : (N.map D5).getD i .undef = D5 (N.getD i default) := by simp [List.getD_eq_getElem?_getD, h]
theorem Jp {l : List Nat} {i : Nat} (h : i < l.length) : (ints l).getD i 0 = ((l.getD i 0 : Nat) : Int) := by simp [ints, List.getD_eq_getElem?_getD, h]
theorem EH (l : List Nat) : (ints l).length = l.length := by simp [ints]
theorem set_rep (l : List Int) {j : Nat} (h : j < l.length) : (List.replicate (j + 1) 0 ++ l.drop (j + 1)).set j (l.getD j 0) = List.replicate j 0 ++ l.drop j := by
 have e : l.drop j = l.getD j 0 :: l.drop (j + 1) := by rw [List.drop_eq_getElem_cons h]; simp [List.getD_eq_getElem?_getD, h]
 rw [e, List.replicate_succ', List.append_assoc, List.set_append_right _ _ (by simp)]
 simp
theorem Lu {p : Prm} {N : List Nd} (hT : TW p N) {n : Nat} (hn : N.length = n) {H : List PV} {V : List Int} {m : Nat} {B : List Int} {i k : Nat} (hi : i < n) (hk : (N.getD i default).path.length = k) {y : Nat} : ∀ j, j ≤ k →
  Wh Tryz.f106 [1, 2, 3, 4, 5, 6] (Ey (Ga Tryz.f48 0 (trR p n (N.map D5) H V m B ++ [(5, ⟨.iarr .i64 k (ints (N.getD i default).path), false⟩)]) (.ref 5 [] 1 0 k) [1, 2, 3, 4] FQ 106) y .ready none) (Af Tryz.f106 0)
   ⟨dUp y, rP p n (N.map D5) H V m B k (List.replicate j 0 ++ (ints (N.getD i default).path).drop j) (if j = 0 then -1 else (((N.getD i default).path.getD (j - 1) 0 : Nat) : Int))⟩
 | 0, hj => by
  rw [if_pos rfl]
  exact WQ UY
 | j + 1, hj => by
  have hj' : j < (N.getD i default).path.length := by omega
  obtain ⟨h1, h2⟩ := hT.pcl i (by omega) j hj'
  have g := Md h1
  have e1 := hT.height (i := i) (by omega) hj'
  have e2 := hT.parent (i := i) (by omega) hj'
  have ih := Lu hT hn (H := H) (V := V) (m := m) (B := B) hi hk (y := y) j (by omega)
  unfold D5 ndV Hd.pv at g
  rw [e1, e2] at g
  rw [if_neg (by omega), show j + 1 - 1 = j by omega]
  refine VQ g (by omega) (by omega) (by rw [List.length_append, List.length_replicate, List.length_drop, EH]; omega) ?_ ih
  rw [← Jp hj']
  exact set_rep _ (by rw [EH]; exact hj')
theorem VU {p : Prm} {n : Nat} {L H : Lpz} {V : Liz} {m : Nat} {B : Liz} {hout : Lrz} {res : PV} {i q : Nat} {h : Hd} {x w : Liz} {a : Int}
  (g : L.getD i .undef = .st 106 [.st 68 [.int .u32 h.ver, .iarr .u8 32 h.prev, .iarr .u8 32 h.root, .int .u32 h.time, .int .u32 h.bits, .int .u32 h.nonce], .iarr .u8 32 x, .int .i64 a, .int .i64 q, .iarr .u64 4 w]) (hi : i < n) (hq : q ≤ 1000)
  (hw : ∀ y, Wh Tryz.f106 [1, 2, 3, 4, 5, 6] (Ey (Ga Tryz.f48 0 hout res [1, 2, 3, 4] FQ 106) y .ready none) (Af Tryz.f106 0) ⟨dUp y, rP p n L H V m B (q + 1) (List.replicate (q + 1) 0) i⟩) :
  Wt Tryz.f48 [1, 2, 3, 4] hout res [.code (F8 Tryz.f48)] ⟨[(0, .at 1 []), (1, .int .i64 i)], trR p n L H V m B⟩ := by
 have c1 := pc_up (p := p) (n := n) (L := L) (H := H) (V := V) (m := m) (B := B) (i := i)
 unfold trR at c1
 refine W.st [(7, aV (PV.at 2 [Stp.idx i 106])), (9, aV (I6 q)), (10, aV (I6 ↑(q + 1))), (11, Ans.vu (PV.ref 240 [] 1 0 (q + 1)) [(240, some (Row.mk (BI (q + 1) (List.replicate (q + 1) (0 : Int))) false))]), (16, cC true [(1, 1), (2, 2), (3, 3), (4, 4)] c1)] [(1, 1), (2, 2), (3, 3), (4, 4), (64, 5), (256, 6), (325, 8), (326, 9), (240, 7)] (⟨[(2, .at 5 []), (5, .at 6 []), (19, .fn2 106 8 9)], rP p n L H V m B (q + 1) (List.replicate (q + 1) 0) i⟩ : DS) (Ay Tryz.f48 0) [PV.at 2 [Stp.idx (0 + i) 106] = PV.at 2 [Stp.idx i 106], 0 ≤ (i:Int), (i:Int) < (n:Int), I6 (PV.num (List.headD (List.tail (List.tail (List.tail (PV.fs (List.getD L i PV.undef))))) PV.undef)) = I6 q, i < n, I6 (IntKind.wrap .i64 ((q:Int) + 1)) = I6 ↑(q + 1), ([(240, some (Row.mk (BI (Int.toNat (↑(q + 1) : Int)) (List.replicate (Int.toNat (↑(q + 1) : Int)) (0 : Int))) false))] : List (Nat × Option Row)) = [(240, some (Row.mk (BI (q + 1) (List.replicate (q + 1) (0 : Int))) false))], PV.ref 240 [] 1 0 (Int.toNat (↑(q + 1) : Int)) = PV.ref 240 [] 1 0 (q + 1), 0 ≤ (↑(q + 1) : Int), (↑(q + 1) : Int) ≤ (↑(q + 1) : Int), (↑(q + 1) : Int) ≤ 9223372036854775807, (↑(8 : Nat) : Int) * (↑(q + 1) : Int) ≤ 140737488355328, _] (by kernel_rfl) (ac (by simp only [Nat.zero_add]) (ob2 (by omega) (ac (cg (by (rw [g]; rfl))) (ac (by omega) (ac (wj (by omega)) (ac (by rw [show Int.toNat (↑(q + 1) : Int) = q + 1 by omega]) (ac (by rw [show Int.toNat (↑(q + 1) : Int) = q + 1 by omega]) (ob4 (by omega) (ao (c1)))))))))) ?_
 refine W.RL (g := 19) (fi := 106) (fI := Tryz.f106) (i2 := 8) (j2 := 9) (pinsI := [1, 2, 3, 4, 5, 6]) (by kernel_rfl) FQ rfl Tryz.func106 (by kernel_rfl) (by kernel_rfl) (by kernel_rfl) (by kernel_rfl) (by kernel_rfl) (Dj.ofL ⟨rfl, rfl, trivial⟩) fun y => ?_
 have hw := hw y
 dsimp only
 refine WH.sgA [] [(1, 1), (2, 2), (3, 3), (4, 4), (5, 5), (6, 6), (8, 8), (9, 9), (7, 7)] (⟨dUp y, rP p n L H V m B (q + 1) (List.replicate (q + 1) 0) i⟩ : DS) (Af Tryz.f106 0) [] trivial ?_
 exact hw
theorem TE {p : Prm} {N : List Nd} (hT : TW p N) {n : Nat} (hn : N.length = n) (hn1 : n ≤ 1000) {H : Lpz} {V : Liz} {m : Nat} {B : Liz} {i k : Nat} (hi : i < n) (hk : (N.getD i default).path.length = k) :
  Pt 48 (trR p n (N.map D5) H V m B) [.at 1 [], .int .i64 i] (trR p n (N.map D5) H V m B ++ [(5, ⟨.iarr .i64 k (ints (N.getD i default).path), false⟩)]) (.ref 5 [] 1 0 k) := by
 refine pO Tryz.func48 (by kernel_rfl) ?_
 have hp := hT.plen i (by omega)
 obtain ⟨q, rfl⟩ : ∃ q, k = q + 1 := ⟨k - 1, by omega⟩
 have g := Md (N := N) (i := i) (by omega)
 have e : (N.getD i default).ht = q := by unfold Nd.ht; omega
 unfold D5 ndV Hd.pv at g
 rw [e] at g
 refine VU g hi (by omega) fun y => ?_
 have hw := Lu hT hn (H := H) (V := V) (m := m) (B := B) hi hk (y := y) (q + 1) (by omega)
 rw [if_neg (by omega), List.drop_of_length_le (by rw [EH]; omega), List.append_nil] at hw
 have hl := hT.plast i (by omega)
 rw [hk] at hl
 rw [hl] at hw
 exact hw
def dLn0 (p : Prm) (n : Nat) (L H : List PV) (V : List Int) (m : Nat) (B : List Int) (k : Nat) (O : List Int) : DS := ⟨[(0, .at 1 []), (5, .vec true (.parr 68 0 hsh [])), (10, .ref 6 [] 1 0 k), (11, .int .i64 k), (12, .int .i64 0)], trR p n L H V m B ++ [(6, ⟨.iarr .i64 k O, false⟩)]⟩
def dLn (p : Prm) (n : Nat) (L H : List PV) (V : List Int) (m : Nat) (B : List Int) (k : Nat) (O : List Int) (i : Nat) (M : List PV) : DS := ⟨[(0, .at 1 []), (5, .ref 5 [] 68 0 i), (10, .ref 6 [] 1 0 k), (11, .int .i64 k), (12, .int .i64 i)], trR p n L H V m B ++ [(5, ⟨.parr 68 i hsh M, false⟩), (6, ⟨.iarr .i64 k O, false⟩)]⟩
theorem WS {p : Prm} {n : Nat} {L H : Lpz} {V : Liz} {m : Nat} {B : Liz} {k : Nat} {O : Liz} {hout : Lrz} {res : PV} {i c : Nat} {M : Lpz} {h : Hd} {x w : Liz} {a b : Int} (hi : i < k) (hk : k ≤ 1000) (hM : M.length = i) (gO : O.getD i 0 = (c : Int)) (hc : c < n)
  (g : L.getD c .undef = .st 106 [.st 68 [.int .u32 h.ver, .iarr .u8 32 h.prev, .iarr .u8 32 h.root, .int .u32 h.time, .int .u32 h.bits, .int .u32 h.nonce], .iarr .u8 32 x, .int .i64 a, .int .i64 b, .iarr .u64 4 w])
  (hw : Wt Tryz.f43 [1, 2, 3, 4] hout res (Af Tryz.f43 0) (dLn p n L H V m B k O (i + 1) (M ++ [h.pv]))) :
  Wt Tryz.f43 [1, 2, 3, 4] hout res (Af Tryz.f43 0) (if i = 0 then dLn0 p n L H V m B k O else dLn p n L H V m B k O i M) := by
 by_cases h0 : i = 0
 ·subst h0
  rw [if_pos rfl]
  obtain rfl := List.eq_nil_of_length_eq_zero hM
  refine W.sgA 0 [(0, aT), (2, aV (I6 c)), (10, aV (PV.at 2 [Stp.idx c 106])), (12, aV (Hd.pv h)), (16, aV (I6 1))] [(1, 1), (2, 2), (3, 3), (4, 4), (288, 5), (6, 6)] (dLn p n L H V m B k O 1 [h.pv]) [decide (0 < (k:Int)) = true, (0 : Int) ≤ 0, 0 < (k:Int), I6 (List.getD O 0 (0 : Int)) = I6 c, 0 < k, PV.at 2 [Stp.idx (0 + c) 106] = PV.at 2 [Stp.idx c 106], 0 ≤ (c:Int), (c:Int) < (n:Int), Bo hsh (List.headD (PV.fs (List.getD L c PV.undef)) PV.undef) = Hd.pv h, c < n, 1 ≤ 1, 0 < 1, 1 * 80 ≤ 140737488355328, 1 ≤ 9223372036854775807, I6 (IntKind.wrap .i64 ((0 : Int) + (1 : Int))) = I6 1] (ac (dT (by omega)) (ob2 (by omega) (ac (cg (gO)) (ac (by omega) (ac (by simp only [Nat.zero_add]) (ob2 (by omega) (ac (by (rw [g]; rfl)) (ob4 (by omega) (ac (by omega) (ao (wj (by omega)))))))))))) ?_
  exact hw
 ·rw [if_neg h0]
  refine W.sgA 0 [(0, aT), (1, aV (PV.at 6 [Stp.idx i 1])), (2, aV (I6 c)), (10, aV (PV.at 2 [Stp.idx c 106])), (12, aV (Hd.pv h)), (14, Ans.ups [(5, none), (288, some (Row.mk (PV.parr 68 (i + 1) hsh (M ++ [Hd.pv h])) false))]), (16, aV (I6 ↑(i + 1)))] [(1, 1), (2, 2), (3, 3), (4, 4), (288, 5), (6, 6)] (dLn p n L H V m B k O (i + 1) (M ++ [h.pv])) [decide ((i:Int) < (k:Int)) = true, PV.at 6 [Stp.idx (0 + i) 1] = PV.at 6 [Stp.idx i 1], 0 ≤ (i:Int), (i:Int) < (k:Int), I6 (List.getD O i (0 : Int)) = I6 c, i < k, PV.at 2 [Stp.idx (0 + c) 106] = PV.at 2 [Stp.idx c 106], 0 ≤ (c:Int), (c:Int) < (n:Int), Bo hsh (List.headD (PV.fs (List.getD L c PV.undef)) PV.undef) = Hd.pv h, c < n, ([(5, none), (288, some (Row.mk (PV.parr 68 (i + 1) hsh (List.take i M ++ [Hd.pv h])) false))] : List (Nat × Option Row)) = [(5, none), (288, some (Row.mk (PV.parr 68 (i + 1) hsh (M ++ [Hd.pv h])) false))], 1 ≤ 1, 0 + i = i, (i + 1) * 80 ≤ 140737488355328, i + 1 ≤ 9223372036854775807, I6 (IntKind.wrap .i64 ((i:Int) + 1)) = I6 ↑(i + 1)] (ac (dT (by omega)) (ac (by simp only [Nat.zero_add]) (ob2 (by omega) (ac (cg (gO)) (ac (by omega) (ac (by simp only [Nat.zero_add]) (ob2 (by omega) (ac (by (rw [g]; rfl)) (ac (by omega) (ac (by rw [List.take_of_length_le (show List.length M ≤ i by omega)]) (ac (by omega) (ac (by omega) (ob2 (by omega) (ao (wj (by omega)))))))))))))))) ?_
  exact hw
theorem W_lnEnd {p : Prm} {n : Nat} {L H : Lpz} {V : Liz} {m : Nat} {B : Liz} {k : Nat} {O : Liz} {M : Lpz} :
  Wt Tryz.f43 [1, 2, 3, 4] (trR p n L H V m B ++ [(5, ⟨.parr 68 k hsh M, false⟩)]) (.ref 5 [] 68 0 k) (Af Tryz.f43 0) (dLn p n L H V m B k O k M) := by
 unfold trR
 refine W.rtA [(0, aF)] (rI 5) [decide ((k:Int) < (k:Int)) = false] (ao (dF (by omega)))
theorem Sm (N : List Nd) (l : List Nat) {i : Nat} (h : i < l.length) : ((Be N l).map Hd.pv).take (i + 1) = ((Be N l).map Hd.pv).take i ++ [(N.getD (l.getD i 0) default).h.pv] := by
 rw [List.take_add_one]
 congr 1
 simp [Be, List.getD_eq_getElem?_getD, h]
theorem FV (N : List Nd) (l : List Nat) : (Be N l).length = l.length := by simp [Be]
theorem W_ln {p : Prm} {N : List Nd} {n : Nat} (hn : N.length = n) (hn1 : n ≤ 1000) {H : Lpz} {V : Liz} {m : Nat} {B : Liz} {k : Nat} (hk1 : k ≤ 1000) {l : List Nat} (hl : l.length = k) (hlt : ∀ j, j < k → l.getD j 0 < n) (h0 : 0 < k) : ∀ r i, i + r = k →
  Wt Tryz.f43 [1, 2, 3, 4] (trR p n (N.map D5) H V m B ++ [(5, ⟨.parr 68 k hsh ((Be N l).map Hd.pv), false⟩)]) (.ref 5 [] 68 0 k) (Af Tryz.f43 0) (if i = 0 then dLn0 p n (N.map D5) H V m B k (ints l) else dLn p n (N.map D5) H V m B k (ints l) i (((Be N l).map Hd.pv).take i))
 | 0, i, hk => by
  obtain rfl : i = k := by omega
  rw [if_neg (by omega), List.take_of_length_le (by rw [List.length_map, FV]; omega)]
  exact W_lnEnd
 | r + 1, i, hk => by
  have hi : i < k := by omega
  have ih := W_ln (p := p) hn hn1 (H := H) (V := V) (m := m) (B := B) hk1 hl hlt h0 r (i + 1) (by omega)
  rw [if_neg (by omega), Sm N l (by omega)] at ih
  have g := Md (N := N) (i := l.getD i 0) (by have := hlt i hi; omega)
  unfold D5 ndV Hd.pv at g
  exact WS hi hk1 (by rw [List.length_take, List.length_map, FV]; omega) (Jp (by omega)) (hlt i hi) g ih
theorem PU {p : Prm} {N : List Nd} (hT : TW p N) {n : Nat} (hn : N.length = n) (hn1 : n ≤ 1000) {H : Lpz} {V : Liz} {m : Nat} {B : Liz} {i k : Nat} (hi : i < n) (hk : (N.getD i default).path.length = k) :
  Pt 43 (trR p n (N.map D5) H V m B) [.at 1 [], .int .i64 i] (trR p n (N.map D5) H V m B ++ [(5, ⟨.parr 68 k hsh ((Be N (N.getD i default).path).map Hd.pv), false⟩)]) (.ref 5 [] 68 0 k) := by
 refine pO Tryz.func43 (by kernel_rfl) ?_
 have hp := hT.plen i (by omega)
 have c1 := TE hT hn hn1 (H := H) (V := V) (m := m) (B := B) hi hk
 have hw := W_ln (p := p) hn hn1 (H := H) (V := V) (m := m) (B := B) (k := k) (by omega) hk (fun j hj => by have := (hT.pcl i (by omega) j (by omega)).1; omega) (by omega) k 0 (by omega)
 rw [if_pos rfl] at hw
 generalize ((Be N (N.getD i default).path).map Hd.pv) = M at *
 generalize ints (N.getD i default).path = O at *
 generalize N.map D5 = L at *
 unfold trR at c1
 refine W.sgA 0 [(4, cC true [(1, 1), (2, 2), (3, 3), (4, 4)] c1)] [(1, 1), (2, 2), (3, 3), (4, 4), (133, 6)] (dLn0 p n L H V m B k O) [_] (ao (c1)) ?_
 exact hw
end Go.Proofs
namespace Go.Proofs
open Go Go.Pe Go.Pm
set_option maxRecDepth 100000
set_option linter.unusedVariables false
attribute [local irreducible] Ak lv EP
theorem OT {p : Prm} {n : Nat} {L H : Lpz} {V : Liz} {B : Liz} {q t : Nat} (hq : q ≤ 1000) (gB : B.getD q 0 = (t : Int)) : Pt 47 (trR p n L H V (q + 1) B) [.at 1 []] (trR p n L H V (q + 1) B) (.int .i64 t) := by
 refine pO Tryz.func47 (by kernel_rfl) ?_
 unfold trR
 refine W.rtA [(10, aV (I6 q)), (11, aV (PV.at 4 [Stp.idx q 1])), (12, aV (I6 t))] (rI 4) [I6 (IntKind.wrap .i64 ((↑(q + 1) : Int) - 1)) = I6 q, PV.at 4 [Stp.idx (0 + q) 1] = PV.at 4 [Stp.idx q 1], 0 ≤ (q:Int), (q:Int) < (↑(q + 1) : Int), I6 (List.getD B q (0 : Int)) = I6 t, q < q + 1] (ac (cg (Ac (by omega) (by omega) (by omega))) (ac (by simp only [Nat.zero_add]) (ob2 (by omega) (ac (cg (gB)) (ao (by omega))))))
theorem pc_tLen {p : Prm} {n : Nat} {L H : Lpz} {V : Liz} {m : Nat} {B : Liz} : Pt 18 (trR p n L H V m B) [.at 1 []] (trR p n L H V m B) (.int .i64 n) := by
 refine pO Tryz.func18 (by kernel_rfl) ?_
 unfold trR
 refine W.rtA [] (rI 4) [] trivial
theorem pc_tTip {p : Prm} {n : Nat} {L H : Lpz} {V : Liz} {B : Liz} {q t : Nat} {h : Hd} {x w : Liz} {a b : Int} (hq : q ≤ 1000) (gB : B.getD q 0 = (t : Int)) (ht : t < n)
  (g : L.getD t .undef = .st 106 [.st 68 [.int .u32 h.ver, .iarr .u8 32 h.prev, .iarr .u8 32 h.root, .int .u32 h.time, .int .u32 h.bits, .int .u32 h.nonce], .iarr .u8 32 x, .int .i64 a, .int .i64 b, .iarr .u64 4 w]) :
  Pt 19 (trR p n L H V (q + 1) B) [.at 1 []] (trR p n L H V (q + 1) B) (.iarr .u8 32 x) := by
 refine pO Tryz.func19 (by kernel_rfl) ?_
 have c1 := OT (p := p) (n := n) (L := L) (H := H) (V := V) hq gB
 unfold trR at *
 refine W.rtA [(6, cS [1, 2, 3, 4] true [(1, 1), (2, 2), (3, 3), (4, 4)] c1), (7, aV (PV.at 2 [Stp.idx t 106])), (9, aV (B8 32 x))] (rI 4) [rO c1 1, rO c1 2, rO c1 3, rO c1 4, _, PV.at 2 [Stp.idx (0 + t) 106] = PV.at 2 [Stp.idx t 106], 0 ≤ (t:Int), (t:Int) < (n:Int), B8 32 (PV.nums (List.headD (List.tail (PV.fs (List.getD L t PV.undef))) PV.undef)) = B8 32 x, t < n] (ac rfl (ac rfl (ac rfl (ac rfl (ac (c1) (ac (by simp only [Nat.zero_add]) (ob2 (by omega) (ac (by (rw [g]; rfl)) (ao (by omega))))))))))
theorem pc_getY {p : Prm} {n : Nat} {L H : Lpz} {V : Liz} {m : Nat} {B : Liz} {y : Liz} {c : Nat} {h : Hd} {x w : Liz} {a b : Int} (hm : BC H (.iarr .u8 32 y) = true) (hv : A7 H V (.iarr .u8 32 y) = (c : Int)) (hc : c < n)
  (g : L.getD c .undef = .st 106 [.st 68 [.int .u32 h.ver, .iarr .u8 32 h.prev, .iarr .u8 32 h.root, .int .u32 h.time, .int .u32 h.bits, .int .u32 h.nonce], .iarr .u8 32 x, .int .i64 a, .int .i64 b, .iarr .u64 4 w]) :
  Pt 55 (trR p n L H V m B) [.at 1 [], .iarr .u8 32 y] (trR p n L H V m B) (.tup [ndV h x a b w, .int .i64 ((0 : Nat) : Int)]) := by
 refine pO Tryz.func55 (by kernel_rfl) ?_
 unfold trR ndV
 refine W.rtA [(10, aV (I6 c)), (11, aT), (21, aV (PV.at 2 [Stp.idx c 106])), (22, aE g)] (rI 4) [I6 (A7 H V (B8 32 y)) = I6 c, BC H (B8 32 y) = true, PV.at 2 [Stp.idx (0 + c) 106] = PV.at 2 [Stp.idx c 106], 0 ≤ (c:Int), (c:Int) < (n:Int), _, c < n] (ac (cg (hv)) (ac (by assumption) (ac (by simp only [Nat.zero_add]) (ob2 (by omega) (ac (ex g) (ao (by omega)))))))
theorem RS {p : Prm} {n : Nat} {L H : Lpz} {V : Liz} {m : Nat} {B : Liz} {y : Liz} {h : Hd} {x w : Liz} {a b : Int} {e : Nat} (c1 : Pt 55 (trR p n L H V m B) [.at 1 [], .iarr .u8 32 y] (trR p n L H V m B) (.tup [ndV h x a b w, .int .i64 e])) :
  Pt 31 (trR p n L H V m B) [.at 1 [], .iarr .u8 32 y] (trR p n L H V m B) (.tup [.int .i64 b, .int .i64 e]) := by
 refine pO Tryz.func31 (by kernel_rfl) ?_
 unfold trR ndV at *
 refine W.rtA [(5, cC true [(1, 1), (2, 2), (3, 3), (4, 4)] c1)] (rI 4) [_] (ao (c1))
theorem Uy {p : Prm} {n : Nat} {L H : Lpz} {V : Liz} {m : Nat} {B : Liz} {y : Liz} (hm : BC H (.iarr .u8 32 y) = false) :
  Pt 24 (trR p n L H V m B) [.at 1 [], .iarr .u8 32 y] (trR p n L H V m B) (.vec true (.parr 68 0 hsh [])) := by
 refine pO Tryz.func24 (by kernel_rfl) ?_
 unfold trR
 refine W.rtA [(10, aF)] (rI 4) [BC H (B8 32 y) = false] (ao (by assumption))
theorem UQ {p : Prm} {n : Nat} {L H : Lpz} {V : Liz} {m : Nat} {B : Liz} {y : Liz} {c k : Nat} {M : Lpz} (hm : BC H (.iarr .u8 32 y) = true) (hv : A7 H V (.iarr .u8 32 y) = (c : Int))
  (c1 : Pt 43 (trR p n L H V m B) [.at 1 [], .int .i64 c] (trR p n L H V m B ++ [(5, ⟨.parr 68 k hsh M, false⟩)]) (.ref 5 [] 68 0 k)) :
  Pt 24 (trR p n L H V m B) [.at 1 [], .iarr .u8 32 y] (trR p n L H V m B ++ [(5, ⟨.parr 68 k hsh M, false⟩)]) (.ref 5 [] 68 0 k) := by
 refine pO Tryz.func24 (by kernel_rfl) ?_
 unfold trR at *
 refine W.rtA [(9, aV (I6 c)), (10, aT), (17, cC true [(1, 1), (2, 2), (3, 3), (4, 4)] c1)] [(1, 1), (2, 2), (3, 3), (4, 4), (341, 5)] [I6 (A7 H V (B8 32 y)) = I6 c, BC H (B8 32 y) = true, _] (ac (cg (hv)) (ac (by assumption) (ao (c1))))
def EA : List Int → Int → Nat
 | [], _ => 0
 | a :: l, v => if v = a then 0 else EA l v + 1
def dIx (m : Nat) (B : List Int) (v : Int) (i : Nat) : DS := ⟨[(0, .vec false (.iarr .i64 m B)), (1, .int .i64 v), (7, .int .i64 m), (8, .int .i64 i)], []⟩
theorem Td {m : Nat} {B : Liz} {v : Int} (hB : B.length = m) (hm : m ≤ 1000) : ∀ k i, i + k = m →
  Wt Tryz.f92 [] [] (.int .i64 (if EA (B.drop i) v < k then ((i + EA (B.drop i) v : Nat) : Int) else -1)) (Af Tryz.f92 0) (dIx m B v i)
 | 0, i, hk => by
  obtain rfl : i = m := by omega
  rw [if_neg (by omega)]
  refine W.rtA [(0, aF)] [] [decide ((i:Int) < (i:Int)) = false] (ao (dF (by omega)))
 | k + 1, i, hk => by
  have hi : i < B.length := by omega
  have e : B.drop i = B.getD i 0 :: B.drop (i + 1) := by rw [List.drop_eq_getElem_cons hi]; simp [List.getD_eq_getElem?_getD, hi]
  have ih := Td (v := v) hB hm k (i + 1) (by omega)
  have him : i < m := by omega
  rw [e, EA]
  by_cases hv : v = B.getD i 0
  ·rw [if_pos hv, if_pos (by omega), Nat.add_zero]
   clear ih e
   refine W.rtA [(0, aT), (3, aV (I6 (List.getD B i (0 : Int)))), (8, aT)] [] [decide ((i:Int) < (m:Int)) = true, I6 v = I6 (List.getD B i (0 : Int)), 0 ≤ (i:Int), (i:Int) < (m:Int), i < m, (List.getD B i (0 : Int) == List.getD B i (0 : Int)) = true] (ac (dT (by omega)) (ac (cg (hv)) (ob3 (by omega) (ao (dT (by omega))))))
  ·rw [if_neg hv]
   have e2 : (if EA (B.drop (i + 1)) v + 1 < k + 1 then ((i + (EA (B.drop (i + 1)) v + 1) : Nat) : Int) else -1) = if EA (B.drop (i + 1)) v < k then ((i + 1 + EA (B.drop (i + 1)) v : Nat) : Int) else -1 := by
    by_cases h : EA (B.drop (i + 1)) v < k
    ·rw [if_pos h, if_pos (by omega)]; congr 1; omega
    ·rw [if_neg h, if_neg (by omega)]
   rw [e2]
   clear e e2
   generalize (if EA (B.drop (i + 1)) v < k then ((i + 1 + EA (B.drop (i + 1)) v : Nat) : Int) else -1) = r at *
   refine W.sgA 0 [(0, aT), (8, aF), (9, aV (I6 ↑(i + 1)))] [] (dIx m B v (i + 1)) [decide ((i:Int) < (m:Int)) = true, 0 ≤ (i:Int), (i:Int) < (m:Int), i < m, (v == List.getD B i (0 : Int)) = false, I6 (IntKind.wrap .i64 ((i:Int) + 1)) = I6 ↑(i + 1)] (ac (dT (by omega)) (ob3 (by omega) (ac (dF (by omega)) (ao (wj (by omega)))))) ?_
   exact ih
theorem PX {m : Nat} {B : Liz} {v : Int} (hB : B.length = m) (hm : m ≤ 1000) : Pt 59 [] [.vec false (.iarr .i64 m B), .int .i64 v] [] (.bool (decide (EA B v < m))) := by
 refine pO Tryz.func59 (by kernel_rfl) ?_
 have c1 : Pt 92 [] [.vec false (.iarr .i64 m B), .int .i64 v] [] (.int .i64 (if EA B v < m then ((EA B v : Nat) : Int) else -1)) := by
  refine pO Tryz.func92 (by kernel_rfl) ?_
  have hw := Td (v := v) hB hm m 0 (by omega)
  rw [List.drop_zero, Nat.zero_add] at hw
  generalize (if EA B v < m then ((EA B v : Nat) : Int) else -1) = r at *
  refine W.sgA 0 [] [] (dIx m B v 0) [] trivial ?_
  exact hw
 by_cases h : EA B v < m
 ·rw [if_pos h] at c1
  rw [decide_eq_true h]
  generalize EA B v = r at *
  refine W.rtA [(3, c9 c1)] [] [_] (ao (c1))
 ·rw [if_neg h] at c1
  rw [decide_eq_false h]
  generalize EA B v = r at *
  refine W.rtA [(3, c9 c1)] [] [_] (ao (c1))
theorem pc_onY {p : Prm} {n : Nat} {L H : Lpz} {V : Liz} {m : Nat} {B : Liz} {y : Liz} {c : Nat} (hm : BC H (.iarr .u8 32 y) = true) (hv : A7 H V (.iarr .u8 32 y) = (c : Int)) (hB : B.length = m) (hm1 : m ≤ 1000) :
  Pt 33 (trR p n L H V m B) [.at 1 [], .iarr .u8 32 y] (trR p n L H V m B) (.bool (decide (EA B (c : Int) < m))) := by
 refine pO Tryz.func33 (by kernel_rfl) ?_
 have c1 := PX (v := (c : Int)) hB hm1
 have ht : B.take m = B := List.take_of_length_le (by omega)
 generalize decide (EA B (c : Int) < m) = r at *
 unfold trR
 refine W.rtA [(9, aV (I6 c)), (10, aT), (20, cL true [] c1)] (rI 4) [I6 (A7 H V (B8 32 y)) = I6 c, BC H (B8 32 y) = true, 0 + m ≤ m, rr ([] : List (Nat × Row)), ([PV.vec false (BI m (List.take m B)), I6 c] : List PV) = [PV.vec false (BI m B), I6 c], _] (ac (cg (hv)) (ac (by assumption) (ac (by omega) (ac rfl (ac (by rw [List.take_of_length_le (show List.length B ≤ m by omega)]) (ao (c1)))))))
def dBe0 (p : Prm) (n : Nat) (L H : List PV) (V : List Int) (m : Nat) (B : List Int) : DS := ⟨[(0, .at 1 []), (3, .vec true (.parr 32 0 hsT [])), (9, .ref 4 [] 1 0 m), (10, .int .i64 m), (11, .int .i64 0)], trR p n L H V m B⟩
def dBe (p : Prm) (n : Nat) (L H : List PV) (V : List Int) (m : Nat) (B : List Int) (i : Nat) (M : List PV) : DS := ⟨[(0, .at 1 []), (3, .ref 5 [] 32 0 i), (9, .ref 4 [] 1 0 m), (10, .int .i64 m), (11, .int .i64 i)], trR p n L H V m B ++ [(5, ⟨.parr 32 i hsT M, false⟩)]⟩
theorem Xj {p : Prm} {n : Nat} {L H : Lpz} {V : Liz} {m : Nat} {B : Liz} {hout : Lrz} {res : PV} {i c : Nat} {M : Lpz} {h : Hd} {x w : Liz} {a b : Int} (hi : i < m) (hk : m ≤ 1000) (hM : M.length = i) (gB : B.getD i 0 = (c : Int)) (hc : c < n)
  (g : L.getD c .undef = .st 106 [.st 68 [.int .u32 h.ver, .iarr .u8 32 h.prev, .iarr .u8 32 h.root, .int .u32 h.time, .int .u32 h.bits, .int .u32 h.nonce], .iarr .u8 32 x, .int .i64 a, .int .i64 b, .iarr .u64 4 w])
  (hw : Wt Tryz.f32 [1, 2, 3, 4] hout res (Af Tryz.f32 0) (dBe p n L H V m B (i + 1) (M ++ [.iarr .u8 32 x]))) :
  Wt Tryz.f32 [1, 2, 3, 4] hout res (Af Tryz.f32 0) (if i = 0 then dBe0 p n L H V m B else dBe p n L H V m B i M) := by
 by_cases h0 : i = 0
 ·subst h0
  rw [if_pos rfl]
  obtain rfl := List.eq_nil_of_length_eq_zero hM
  refine W.sgA 0 [(0, aT), (2, aV (I6 c)), (10, aV (PV.at 2 [Stp.idx c 106])), (12, aV (B8 32 x)), (16, aV (I6 1))] [(1, 1), (2, 2), (3, 3), (4, 4), (288, 5)] (dBe p n L H V m B 1 [.iarr .u8 32 x]) [decide (0 < (m:Int)) = true, (0 : Int) ≤ 0, 0 < (m:Int), I6 (List.getD B 0 (0 : Int)) = I6 c, 0 < m, PV.at 2 [Stp.idx (0 + c) 106] = PV.at 2 [Stp.idx c 106], 0 ≤ (c:Int), (c:Int) < (n:Int), B8 32 (PV.nums (List.headD (List.tail (PV.fs (List.getD L c PV.undef))) PV.undef)) = B8 32 x, c < n, 1 ≤ 1, 0 < 1, 1 * 32 ≤ 140737488355328, 1 ≤ 9223372036854775807, I6 (IntKind.wrap .i64 ((0 : Int) + (1 : Int))) = I6 1] (ac (dT (by omega)) (ob2 (by omega) (ac (cg (gB)) (ac (by omega) (ac (by simp only [Nat.zero_add]) (ob2 (by omega) (ac (by (rw [g]; rfl)) (ob4 (by omega) (ac (by omega) (ao (wj (by omega)))))))))))) ?_
  exact hw
 ·rw [if_neg h0]
  refine W.sgA 0 [(0, aT), (1, aV (PV.at 4 [Stp.idx i 1])), (2, aV (I6 c)), (10, aV (PV.at 2 [Stp.idx c 106])), (12, aV (B8 32 x)), (14, Ans.ups [(5, none), (288, some (Row.mk (PV.parr 32 (i + 1) (Sh.iarr .u8 32) (M ++ [B8 32 x])) false))]), (16, aV (I6 ↑(i + 1)))] [(1, 1), (2, 2), (3, 3), (4, 4), (288, 5)] (dBe p n L H V m B (i + 1) (M ++ [.iarr .u8 32 x])) [decide ((i:Int) < (m:Int)) = true, PV.at 4 [Stp.idx (0 + i) 1] = PV.at 4 [Stp.idx i 1], 0 ≤ (i:Int), (i:Int) < (m:Int), I6 (List.getD B i (0 : Int)) = I6 c, i < m, PV.at 2 [Stp.idx (0 + c) 106] = PV.at 2 [Stp.idx c 106], 0 ≤ (c:Int), (c:Int) < (n:Int), B8 32 (PV.nums (List.headD (List.tail (PV.fs (List.getD L c PV.undef))) PV.undef)) = B8 32 x, c < n, ([(5, none), (288, some (Row.mk (PV.parr 32 (i + 1) (Sh.iarr .u8 32) (List.take i M ++ [B8 32 x])) false))] : List (Nat × Option Row)) = [(5, none), (288, some (Row.mk (PV.parr 32 (i + 1) (Sh.iarr .u8 32) (M ++ [B8 32 x])) false))], 1 ≤ 1, 0 + i = i, (i + 1) * 32 ≤ 140737488355328, i + 1 ≤ 9223372036854775807, I6 (IntKind.wrap .i64 ((i:Int) + 1)) = I6 ↑(i + 1)] (ac (dT (by omega)) (ac (by simp only [Nat.zero_add]) (ob2 (by omega) (ac (cg (gB)) (ac (by omega) (ac (by simp only [Nat.zero_add]) (ob2 (by omega) (ac (by (rw [g]; rfl)) (ac (by omega) (ac (by rw [List.take_of_length_le (show List.length M ≤ i by omega)]) (ac (by omega) (ac (by omega) (ob2 (by omega) (ao (wj (by omega)))))))))))))))) ?_
  exact hw
theorem W_beEnd {p : Prm} {n : Nat} {L H : Lpz} {V : Liz} {m : Nat} {B : Liz} {M : Lpz} :
  Wt Tryz.f32 [1, 2, 3, 4] (trR p n L H V m B ++ [(5, ⟨.parr 32 m hsT M, false⟩)]) (.ref 5 [] 32 0 m) (Af Tryz.f32 0) (dBe p n L H V m B m M) := by
 unfold trR
 refine W.rtA [(0, aF)] (rI 5) [decide ((m:Int) < (m:Int)) = false] (ao (dF (by omega)))
end Go.Proofs
namespace Go.Proofs
open Go Go.Pe Go.Pm
set_option maxRecDepth 100000
set_option linter.unusedVariables false
attribute [local irreducible] Ak lv EP
def trX (a b : Nat) (p : Prm) (n : Nat) (L H : List PV) (V : List Int) (m : Nat) (B : List Int) : List (Nat × Row) := [(1, ⟨.st 80 [p.pv, .ref a [] 106 0 n, .fn 1000000 3, .ref b [] 1 0 m], false⟩), (a, ⟨.parr 106 n ndsh L, false⟩), (3, ⟨.tup [.tup [.parr 32 n hsT H, .iarr .i64 n V]], false⟩), (b, ⟨.iarr .i64 m B, false⟩)]
theorem QS {p : Prm} (c1 : Pt 34 [] [p.pv] [] (.int .i64 1)) : Pt 11 [] [p.pv] [] (.tup [.nilp, .int .i64 1]) := by
 refine pO Tryz.func11 (by kernel_rfl) ?_
 refine W.rtA [(4, c9 c1)] [] [_] (ao (c1))
theorem Kv {p : Prm} {x : Liz} (c1 : Pt 34 [] [p.pv] [] (.int .i64 0)) (c2 : Pt 21 [] [p.gen.pv] [] (.iarr .u8 32 x)) :
  Pt 11 [] [p.pv] (trR p 1 [ndV p.gen x (-1) 0 (uw p.sum)] [.iarr .u8 32 x] [0] 1 [0]) (.tup [.at 1 [], .int .i64 ((0 : Nat) : Int)]) := by
 refine pO Tryz.func11 (by kernel_rfl) ?_
 unfold trR ndV
 refine W.rtA [(4, c9 c1), (12, c9 c2)] [(512, 1), (384, 2), (400, 3), (480, 4)] [_, _, rr (false)] (ac (c1) (ac (c2) (ao rfl)))
theorem pc_add7 {p : Prm} {n : Nat} {L H : Lpz} {V : Liz} {m : Nat} {B : Liz} {h : Hd} {y : Liz} {now : Int} (c1 : Pt 21 [] [h.pv] [] (.iarr .u8 32 y)) (hm : BC H (.iarr .u8 32 y) = true) :
  Pt 16 (trR p n L H V m B) [.at 1 [], h.pv, .int .i64 now] (trR p n L H V m B) (.int .i64 ((7 : Nat) : Int)) := by
 refine pO Tryz.func16 (by kernel_rfl) ?_
 unfold trR
 refine W.rtA [(3, c9 c1), (14, aT)] (rI 4) [_, BC H (B8 32 y) = true] (ac (c1) (ao (by assumption)))
theorem pc_add8 {p : Prm} {n : Nat} {L H : Lpz} {V : Liz} {m : Nat} {B : Liz} {h : Hd} {y : Liz} {now : Int} (c1 : Pt 21 [] [h.pv] [] (.iarr .u8 32 y)) (hm : BC H (.iarr .u8 32 y) = false) (hc : p.cap ≤ (n : Int)) :
  Pt 16 (trR p n L H V m B) [.at 1 [], h.pv, .int .i64 now] (trR p n L H V m B) (.int .i64 ((8 : Nat) : Int)) := by
 refine pO Tryz.func16 (by kernel_rfl) ?_
 unfold trR
 refine W.rtA [(3, c9 c1), (14, aF), (28, aT)] (rI 4) [_, BC H (B8 32 y) = false, decide ((n:Int) ≥ Prm.cap p) = true] (ac (c1) (ac (by assumption) (ao (dT (by omega)))))
theorem pc_add9 {p : Prm} {n : Nat} {L H : Lpz} {V : Liz} {m : Nat} {B : Liz} {h : Hd} {y : Liz} {now : Int} (c1 : Pt 21 [] [h.pv] [] (.iarr .u8 32 y)) (hm : BC H (.iarr .u8 32 y) = false) (hc : ¬ p.cap ≤ (n : Int)) (hp : BC H (.iarr .u8 32 h.prev) = false) :
  Pt 16 (trR p n L H V m B) [.at 1 [], h.pv, .int .i64 now] (trR p n L H V m B) (.int .i64 ((9 : Nat) : Int)) := by
 refine pO Tryz.func16 (by kernel_rfl) ?_
 unfold trR
 refine W.rtA [(3, c9 c1), (14, aF), (28, aF), (38, aF)] (rI 4) [_, BC H (B8 32 y) = false, decide ((n:Int) ≥ Prm.cap p) = false, BC H (B8 32 (Hd.prev h)) = false] (ac (c1) (ac (by assumption) (ac (dF (by omega)) (ao (by assumption)))))
theorem pc_addJ {p : Prm} {n : Nat} {L H : Lpz} {V : Liz} {m : Nat} {B : Liz} {h : Hd} {y : Liz} {now : Int} (c1 : Pt 21 [] [h.pv] [] (.iarr .u8 32 y)) (hm : BC H (.iarr .u8 32 y) = false) (hc : ¬ p.cap ≤ (n : Int)) (hp : BC H (.iarr .u8 32 h.prev) = true)
  {o k : Nat} {M : Lpz} {e : Int} (ho : A7 H V (.iarr .u8 32 h.prev) = (o : Int)) (c2 : Pt 43 (trR p n L H V m B) [.at 1 [], .int .i64 o] (trR p n L H V m B ++ [(5, ⟨.parr 68 k hsh M, false⟩)]) (.ref 5 [] 68 0 k)) (hM : M.length = k)
  (c3 : Pt 42 [] [p.pv, .vec false (.parr 68 k hsh M), h.pv, .int .i64 now] [] (.int .i64 e)) (he : ¬ e = 0) :
  Pt 16 (trR p n L H V m B) [.at 1 [], h.pv, .int .i64 now] (trR p n L H V m B) (.int .i64 e) := by
 refine pO Tryz.func16 (by kernel_rfl) ?_
 unfold trR at *
 refine W.rtA [(3, c9 c1), (14, aF), (28, aF), (37, aV (I6 o)), (38, aT), (49, cS [1, 2, 3, 4] true [(1, 1), (2, 2), (3, 3), (4, 4)] c2), (52, cL true [] c3), (55, aT)] (rI 4) [_, BC H (B8 32 y) = false, decide ((n:Int) ≥ Prm.cap p) = false, I6 (A7 H V (B8 32 (Hd.prev h))) = I6 o, BC H (B8 32 (Hd.prev h)) = true, rO c2 1, rO c2 2, rO c2 3, rO c2 4, _, 0 + k ≤ k, rr ([] : List (Nat × Row)), ([Prm.pv p, PV.vec false (PV.parr 68 k hsh (List.take k M)), Hd.pv h, I6 now] : List PV) = [Prm.pv p, PV.vec false (PV.parr 68 k hsh M), Hd.pv h, I6 now], _, (e != (0 : Int)) = true] (ac (c1) (ac (by assumption) (ac (dF (by omega)) (ac (cg (ho)) (ac (by assumption) (ac rfl (ac rfl (ac rfl (ac rfl (ac (c2) (ac (by omega) (ac rfl (ac (by rw [List.take_of_length_le (show List.length M ≤ k by omega)]) (ac (c3) (ao (bne_iff_ne.2 (by omega)))))))))))))))))
theorem WO {p : Prm} {n : Nat} {L H : Lpz} {V : Liz} {m : Nat} {B : Liz} {h : Hd} {y : Liz} {now : Int} (c1 : Pt 21 [] [h.pv] [] (.iarr .u8 32 y)) (hm : BC H (.iarr .u8 32 y) = false) (hc : ¬ p.cap ≤ (n : Int)) (hp : BC H (.iarr .u8 32 h.prev) = true)
  {o k : Nat} {M : Lpz} (ho : A7 H V (.iarr .u8 32 h.prev) = (o : Int)) (hon : o < n) (c2 : Pt 43 (trR p n L H V m B) [.at 1 [], .int .i64 o] (trR p n L H V m B ++ [(5, ⟨.parr 68 k hsh M, false⟩)]) (.ref 5 [] 68 0 k)) (hM : M.length = k)
  (c3 : Pt 42 [] [p.pv, .vec false (.parr 68 k hsh M), h.pv, .int .i64 now] [] (.int .i64 0))
  {h0 : Hd} {x0 w0 t u s : Liz} {a0 b0 te : Int} (g : L.getD o .undef = .st 106 [.st 68 [.int .u32 h0.ver, .iarr .u8 32 h0.prev, .iarr .u8 32 h0.root, .int .u32 h0.time, .int .u32 h0.bits, .int .u32 h0.nonce], .iarr .u8 32 x0, .int .i64 a0, .int .i64 b0, .iarr .u64 4 w0])
  (c4 : Pt 44 [] [.int .u32 h.bits] [] (.tup [.iarr .u64 4 t, .int .i64 te])) (c5 : Pt 46 [] [.iarr .u64 4 t] [] (.iarr .u64 4 u)) (c6 : Pt 45 [] [.iarr .u64 4 w0, .iarr .u64 4 u] [] (.tup [.iarr .u64 4 s, .bool true])) :
  Pt 16 (trR p n L H V m B) [.at 1 [], h.pv, .int .i64 now] (trR p n L H V m B) (.int .i64 ((14 : Nat) : Int)) := by
 refine pO Tryz.func16 (by kernel_rfl) ?_
 unfold trR at *
 refine W.rtA [(3, c9 c1), (14, aF), (28, aF), (37, aV (I6 o)), (38, aT), (49, cS [1, 2, 3, 4] true [(1, 1), (2, 2), (3, 3), (4, 4)] c2), (52, cL true [] c3), (58, c9 c4), (70, aV (PV.at 2 [Stp.idx o 106])), (72, aV (B6 4 w0)), (74, c9 c5), (75, c9 c6)] (rI 4) [_, BC H (B8 32 y) = false, decide ((n:Int) ≥ Prm.cap p) = false, I6 (A7 H V (B8 32 (Hd.prev h))) = I6 o, BC H (B8 32 (Hd.prev h)) = true, rO c2 1, rO c2 2, rO c2 3, rO c2 4, _, 0 + k ≤ k, rr ([] : List (Nat × Row)), ([Prm.pv p, PV.vec false (PV.parr 68 k hsh (List.take k M)), Hd.pv h, I6 now] : List PV) = [Prm.pv p, PV.vec false (PV.parr 68 k hsh M), Hd.pv h, I6 now], _, _, PV.at 2 [Stp.idx (0 + o) 106] = PV.at 2 [Stp.idx o 106], 0 ≤ (o:Int), (o:Int) < (n:Int), B6 4 (PV.nums (List.headD (List.tail (List.tail (List.tail (List.tail (PV.fs (List.getD L o PV.undef)))))) PV.undef)) = B6 4 w0, o < n, _, _] (ac (c1) (ac (by assumption) (ac (dF (by omega)) (ac (cg (ho)) (ac (by assumption) (ac rfl (ac rfl (ac rfl (ac rfl (ac (c2) (ac (by omega) (ac rfl (ac (by rw [List.take_of_length_le (show List.length M ≤ k by omega)]) (ac (c3) (ac (c4) (ac (by simp only [Nat.zero_add]) (ob2 (by omega) (ac (by (rw [g]; rfl)) (ac (by omega) (ac (c5) (ao (c6))))))))))))))))))))))
set_option maxHeartbeats 4000000 in
theorem pc_add0 {p : Prm} {n : Nat} {L H : Lpz} {V : Liz} {q : Nat} {B : Liz} {h : Hd} {y : Liz} {now : Int} (c1 : Pt 21 [] [h.pv] [] (.iarr .u8 32 y)) (hm : BC H (.iarr .u8 32 y) = false) (hc : ¬ p.cap ≤ (n : Int)) (hp : BC H (.iarr .u8 32 h.prev) = true)
  {o k : Nat} {M : Lpz} (ho : A7 H V (.iarr .u8 32 h.prev) = (o : Int)) (hon : o < n) (c2 : Pt 43 (trR p n L H V (q + 1) B) [.at 1 [], .int .i64 o] (trR p n L H V (q + 1) B ++ [(5, ⟨.parr 68 k hsh M, false⟩)]) (.ref 5 [] 68 0 k)) (hM : M.length = k)
  (c3 : Pt 42 [] [p.pv, .vec false (.parr 68 k hsh M), h.pv, .int .i64 now] [] (.int .i64 0))
  {h0 ht : Hd} {x0 w0 t u s xt wt : Liz} {a0 te at' bt cm : Int} {b0 tp : Nat} (g : L.getD o .undef = .st 106 [.st 68 [.int .u32 h0.ver, .iarr .u8 32 h0.prev, .iarr .u8 32 h0.root, .int .u32 h0.time, .int .u32 h0.bits, .int .u32 h0.nonce], .iarr .u8 32 x0, .int .i64 a0, .int .i64 b0, .iarr .u64 4 w0])
  (c4 : Pt 44 [] [.int .u32 h.bits] [] (.tup [.iarr .u64 4 t, .int .i64 te])) (c5 : Pt 46 [] [.iarr .u64 4 t] [] (.iarr .u64 4 u)) (c6 : Pt 45 [] [.iarr .u64 4 w0, .iarr .u64 4 u] [] (.tup [.iarr .u64 4 s, .bool false]))
  (hLn : L.length = n) (hHn : H.length = n) (hVn : V.length = n) (hn : n ≤ 1000) (hq : q ≤ 1000) (hb : b0 ≤ 1000) (gB : B.getD q 0 = (tp : Int)) (htp : tp < n)
  (gt : (L ++ [PV.st 106 [.st 68 [.int .u32 h.ver, .iarr .u8 32 h.prev, .iarr .u8 32 h.root, .int .u32 h.time, .int .u32 h.bits, .int .u32 h.nonce], .iarr .u8 32 y, .int .i64 o, .int .i64 ((b0 + 1 : Nat) : Int), .iarr .u64 4 s]]).getD tp .undef = .st 106 [.st 68 [.int .u32 ht.ver, .iarr .u8 32 ht.prev, .iarr .u8 32 ht.root, .int .u32 ht.time, .int .u32 ht.bits, .int .u32 ht.nonce], .iarr .u8 32 xt, .int .i64 at', .int .i64 bt, .iarr .u64 4 wt])
  (c7 : Pt 28 [] [.iarr .u64 4 s, .iarr .u64 4 wt] [] (.int .i64 cm)) (hcm : ¬ cm > 0) :
  Pt 16 (trR p n L H V (q + 1) B) [.at 1 [], h.pv, .int .i64 now] (trX 6 4 p (n + 1) (L ++ [ndV h y o ((b0 + 1 : Nat) : Int) s]) (H ++ [.iarr .u8 32 y]) (V ++ [(n : Int)]) (q + 1) B) (.int .i64 ((0 : Nat) : Int)) := by
 refine pO Tryz.func16 (by kernel_rfl) ?_
 have c8 := OT (p := p) (n := n + 1) (L := L ++ [ndV h y o ((b0 + 1 : Nat) : Int) s]) (H := H ++ [.iarr .u8 32 y]) (V := V ++ [(n : Int)]) hq gB
 unfold trR trX ndV Hd.pv at *
 refine W.rtA [(3, c9 c1), (14, aF), (28, aF), (37, aV (I6 o)), (38, aT), (49, cS [1, 2, 3, 4] true [(1, 1), (2, 2), (3, 3), (4, 4)] c2), (52, cL true [] c3), (58, c9 c4), (70, aV (PV.at 2 [Stp.idx o 106])), (72, aV (B6 4 w0)), (74, c9 c5), (75, c9 c6), (102, aV (PV.at 2 [Stp.idx o 106])), (104, aV (I6 b0)), (105, aV (I6 ↑(b0 + 1))), (109, Ans.ups [(2, none), (1808, some (Row.mk (PV.parr 106 (n + 1) (Sh.st 106 [hsh, Sh.iarr .u8 32, Sh.int .i64, Sh.int .i64, Sh.iarr .u64 4]) (L ++ [PV.st 106 [PV.st 68 [U3 ↑(Hd.ver h), B8 32 (Hd.prev h), B8 32 (Hd.root h), U3 ↑(Hd.time h), U3 ↑(Hd.bits h), U3 ↑(Hd.nonce h)], B8 32 y, I6 o, I6 ↑(b0 + 1), B6 4 s]])) false))]), (126, cS [1, 1808, 3, 4] true [(1, 1), (1808, 2), (3, 3), (4, 4)] c8), (127, aV (PV.at 1808 [Stp.idx tp 106])), (129, aV (B6 4 wt)), (130, c9 c7), (131, aF)] [(1, 1), (2, 2), (3, 3), (4, 4), (1808, 6)] [_, BC H (B8 32 y) = false, decide ((n:Int) ≥ Prm.cap p) = false, I6 (A7 H V (B8 32 (Hd.prev h))) = I6 o, BC H (B8 32 (Hd.prev h)) = true, rO c2 1, rO c2 2, rO c2 3, rO c2 4, _, 0 + k ≤ k, rr ([] : List (Nat × Row)), ([PV.st 77 [U3 ↑(Prm.lim p), I6 (Prm.per p), I6 (Prm.sp p), I6 (Prm.fu p), I6 (Prm.cap p), PV.st 68 [U3 ↑(Hd.ver (Prm.gen p)), B8 32 (Hd.prev (Prm.gen p)), B8 32 (Hd.root (Prm.gen p)), U3 ↑(Hd.time (Prm.gen p)), U3 ↑(Hd.bits (Prm.gen p)), U3 ↑(Hd.nonce (Prm.gen p))], B6 4 (uw (Prm.sum p))], PV.vec false (PV.parr 68 k hsh (List.take k M)), PV.st 68 [U3 ↑(Hd.ver h), B8 32 (Hd.prev h), B8 32 (Hd.root h), U3 ↑(Hd.time h), U3 ↑(Hd.bits h), U3 ↑(Hd.nonce h)], I6 now] : List PV) = [PV.st 77 [U3 ↑(Prm.lim p), I6 (Prm.per p), I6 (Prm.sp p), I6 (Prm.fu p), I6 (Prm.cap p), PV.st 68 [U3 ↑(Hd.ver (Prm.gen p)), B8 32 (Hd.prev (Prm.gen p)), B8 32 (Hd.root (Prm.gen p)), U3 ↑(Hd.time (Prm.gen p)), U3 ↑(Hd.bits (Prm.gen p)), U3 ↑(Hd.nonce (Prm.gen p))], B6 4 (uw (Prm.sum p))], PV.vec false (PV.parr 68 k hsh M), PV.st 68 [U3 ↑(Hd.ver h), B8 32 (Hd.prev h), B8 32 (Hd.root h), U3 ↑(Hd.time h), U3 ↑(Hd.bits h), U3 ↑(Hd.nonce h)], I6 now], _, _, PV.at 2 [Stp.idx (0 + o) 106] = PV.at 2 [Stp.idx o 106], 0 ≤ (o:Int), (o:Int) < (n:Int), B6 4 (PV.nums (List.headD (List.tail (List.tail (List.tail (List.tail (PV.fs (List.getD L o PV.undef)))))) PV.undef)) = B6 4 w0, o < n, _, _, PV.at 2 [Stp.idx (0 + o) 106] = PV.at 2 [Stp.idx o 106], 0 ≤ (o:Int), (o:Int) < (n:Int), I6 (PV.num (List.headD (List.tail (List.tail (List.tail (PV.fs (List.getD L o PV.undef))))) PV.undef)) = I6 b0, o < n, I6 (IntKind.wrap .i64 ((b0:Int) + 1)) = I6 ↑(b0 + 1), ([(2, none), (1808, some (Row.mk (PV.parr 106 (n + 1) (Sh.st 106 [hsh, Sh.iarr .u8 32, Sh.int .i64, Sh.int .i64, Sh.iarr .u64 4]) (List.take n L ++ [PV.st 106 [PV.st 68 [U3 ↑(Hd.ver h), B8 32 (Hd.prev h), B8 32 (Hd.root h), U3 ↑(Hd.time h), U3 ↑(Hd.bits h), U3 ↑(Hd.nonce h)], B8 32 y, I6 o, I6 ↑(b0 + 1), B6 4 s]])) false))] : List (Nat × Option Row)) = [(2, none), (1808, some (Row.mk (PV.parr 106 (n + 1) (Sh.st 106 [hsh, Sh.iarr .u8 32, Sh.int .i64, Sh.int .i64, Sh.iarr .u64 4]) (L ++ [PV.st 106 [PV.st 68 [U3 ↑(Hd.ver h), B8 32 (Hd.prev h), B8 32 (Hd.root h), U3 ↑(Hd.time h), U3 ↑(Hd.bits h), U3 ↑(Hd.nonce h)], B8 32 y, I6 o, I6 ↑(b0 + 1), B6 4 s]])) false))], 1 ≤ 1, 0 + n = n, (n + 1) * 160 ≤ 140737488355328, n + 1 ≤ 9223372036854775807, BC H (B8 32 y) = false, rX [(1, 1), (1808, 2), (3, 3), (4, 4)] c8 1, rX [(1, 1), (1808, 2), (3, 3), (4, 4)] c8 2, rX [(1, 1), (1808, 2), (3, 3), (4, 4)] c8 3, rO c2 4, _, PV.at 1808 [Stp.idx (0 + tp) 106] = PV.at 1808 [Stp.idx tp 106], 0 ≤ (tp:Int), (tp:Int) < (↑(n + 1) : Int), B6 4 (PV.nums (List.headD (List.tail (List.tail (List.tail (List.tail (PV.fs (List.getD (L ++ [PV.st 106 [PV.st 68 [U3 ↑(Hd.ver h), B8 32 (Hd.prev h), B8 32 (Hd.root h), U3 ↑(Hd.time h), U3 ↑(Hd.bits h), U3 ↑(Hd.nonce h)], B8 32 y, I6 o, I6 ↑(b0 + 1), B6 4 s]]) tp PV.undef)))))) PV.undef)) = B6 4 wt, tp < n + 1, _, decide (cm > (0 : Int)) = false] (ac (c1) (ac (by assumption) (ac (dF (by omega)) (ac (cg (ho)) (ac (by assumption) (ac rfl (ac rfl (ac rfl (ac rfl (ac (c2) (ac (by omega) (ac rfl (ac (by rw [List.take_of_length_le (show List.length M ≤ k by omega)]) (ac (c3) (ac (c4) (ac (by simp only [Nat.zero_add]) (ob2 (by omega) (ac (by (rw [g]; rfl)) (ac (by omega) (ac (c5) (ac (c6) (ac (by simp only [Nat.zero_add]) (ob2 (by omega) (ac (cg (by (rw [g]; rfl))) (ac (by omega) (ac (wj (by omega)) (ac (by rw [List.take_of_length_le (show List.length L ≤ n by omega)]) (ac (by omega) (ac (by omega) (ob2 (by omega) (ac (by assumption) (ac rfl (ac rfl (ac rfl (ac rfl (ac (c8) (ac (by simp only [Nat.zero_add]) (ob2 (by omega) (ac (by (rw [gt]; rfl)) (ac (by omega) (ac (c7) (ao (dF (by omega))))))))))))))))))))))))))))))))))))))))))))
set_option maxHeartbeats 4000000 in
theorem pc_add1 {p : Prm} {n : Nat} {L H : Lpz} {V : Liz} {q : Nat} {B : Liz} {h : Hd} {y : Liz} {now : Int} (c1 : Pt 21 [] [h.pv] [] (.iarr .u8 32 y)) (hm : BC H (.iarr .u8 32 y) = false) (hc : ¬ p.cap ≤ (n : Int)) (hp : BC H (.iarr .u8 32 h.prev) = true)
  {o k : Nat} {M : Lpz} (ho : A7 H V (.iarr .u8 32 h.prev) = (o : Int)) (hon : o < n) (c2 : Pt 43 (trR p n L H V (q + 1) B) [.at 1 [], .int .i64 o] (trR p n L H V (q + 1) B ++ [(5, ⟨.parr 68 k hsh M, false⟩)]) (.ref 5 [] 68 0 k)) (hM : M.length = k)
  (c3 : Pt 42 [] [p.pv, .vec false (.parr 68 k hsh M), h.pv, .int .i64 now] [] (.int .i64 0))
  {h0 ht : Hd} {x0 w0 t u s xt wt : Liz} {a0 te at' bt cm : Int} {b0 tp : Nat} (g : L.getD o .undef = .st 106 [.st 68 [.int .u32 h0.ver, .iarr .u8 32 h0.prev, .iarr .u8 32 h0.root, .int .u32 h0.time, .int .u32 h0.bits, .int .u32 h0.nonce], .iarr .u8 32 x0, .int .i64 a0, .int .i64 b0, .iarr .u64 4 w0])
  (c4 : Pt 44 [] [.int .u32 h.bits] [] (.tup [.iarr .u64 4 t, .int .i64 te])) (c5 : Pt 46 [] [.iarr .u64 4 t] [] (.iarr .u64 4 u)) (c6 : Pt 45 [] [.iarr .u64 4 w0, .iarr .u64 4 u] [] (.tup [.iarr .u64 4 s, .bool false]))
  (hLn : L.length = n) (hHn : H.length = n) (hVn : V.length = n) (hn : n ≤ 1000) (hq : q ≤ 1000) (hb : b0 ≤ 1000) (gB : B.getD q 0 = (tp : Int)) (htp : tp < n)
  (gt : (L ++ [PV.st 106 [.st 68 [.int .u32 h.ver, .iarr .u8 32 h.prev, .iarr .u8 32 h.root, .int .u32 h.time, .int .u32 h.bits, .int .u32 h.nonce], .iarr .u8 32 y, .int .i64 o, .int .i64 ((b0 + 1 : Nat) : Int), .iarr .u64 4 s]]).getD tp .undef = .st 106 [.st 68 [.int .u32 ht.ver, .iarr .u8 32 ht.prev, .iarr .u8 32 ht.root, .int .u32 ht.time, .int .u32 ht.bits, .int .u32 ht.nonce], .iarr .u8 32 xt, .int .i64 at', .int .i64 bt, .iarr .u64 4 wt])
  (c7 : Pt 28 [] [.iarr .u64 4 s, .iarr .u64 4 wt] [] (.int .i64 cm)) (hcm : cm > 0) {k' : Nat} {O : Liz}
  (c9 : Pt 48 (trR p (n + 1) (L ++ [ndV h y o ((b0 + 1 : Nat) : Int) s]) (H ++ [.iarr .u8 32 y]) (V ++ [(n : Int)]) (q + 1) B) [.at 1 [], .int .i64 n] (trR p (n + 1) (L ++ [ndV h y o ((b0 + 1 : Nat) : Int) s]) (H ++ [.iarr .u8 32 y]) (V ++ [(n : Int)]) (q + 1) B ++ [(5, ⟨.iarr .i64 k' O, false⟩)]) (.ref 5 [] 1 0 k')) :
  Pt 16 (trR p n L H V (q + 1) B) [.at 1 [], h.pv, .int .i64 now] (trX 6 5 p (n + 1) (L ++ [ndV h y o ((b0 + 1 : Nat) : Int) s]) (H ++ [.iarr .u8 32 y]) (V ++ [(n : Int)]) k' O) (.int .i64 ((0 : Nat) : Int)) := by
 refine pO Tryz.func16 (by kernel_rfl) ?_
 have c8 := OT (p := p) (n := n + 1) (L := L ++ [ndV h y o ((b0 + 1 : Nat) : Int) s]) (H := H ++ [.iarr .u8 32 y]) (V := V ++ [(n : Int)]) hq gB
 unfold trR trX ndV Hd.pv at *
 refine W.rtA [(3, aK (B8 32 y)), (14, aF), (28, aF), (37, aV (I6 o)), (38, aT), (49, Ans.same [1, 2, 3, 4] [] true [(1, 1), (2, 2), (3, 3), (4, 4)] [(1, Row.mk (PV.st 80 [PV.st 77 [U3 ↑(Prm.lim p), I6 (Prm.per p), I6 (Prm.sp p), I6 (Prm.fu p), I6 (Prm.cap p), PV.st 68 [U3 ↑(Hd.ver (Prm.gen p)), B8 32 (Hd.prev (Prm.gen p)), B8 32 (Hd.root (Prm.gen p)), U3 ↑(Hd.time (Prm.gen p)), U3 ↑(Hd.bits (Prm.gen p)), U3 ↑(Hd.nonce (Prm.gen p))], B6 4 (uw (Prm.sum p))], PV.ref 2 [] 106 0 n, PV.fn 1000000 3, PV.ref 4 [] 1 0 (q + 1)]) false), (2, Row.mk (PV.parr 106 n (Sh.st 106 [hsh, Sh.iarr .u8 32, Sh.int .i64, Sh.int .i64, Sh.iarr .u64 4]) L) false), (3, Row.mk (PV.tup [PV.tup [PV.parr 32 n (Sh.iarr .u8 32) H, BI n V]]) false), (4, Row.mk (BI (q + 1) B) false), (5, Row.mk (PV.parr 68 k hsh M) false)] (PV.ref 5 [] 68 0 k) none), (52, Ans.calla true [] [] [Prm.pv p, PV.vec false (PV.parr 68 k hsh M), PV.st 68 [U3 ↑(Hd.ver h), B8 32 (Hd.prev h), B8 32 (Hd.root h), U3 ↑(Hd.time h), U3 ↑(Hd.bits h), U3 ↑(Hd.nonce h)], I6 now] [] (I6 0)), (58, aK (PV.tup [B6 4 t, I6 te])), (70, aV (PV.at 2 [Stp.idx o 106])), (72, aV (B6 4 w0)), (74, aK (B6 4 u)), (75, aK (PV.tup [B6 4 s, PV.bool false])), (102, aV (PV.at 2 [Stp.idx o 106])), (104, aV (I6 b0)), (105, aV (I6 ↑(b0 + 1))), (109, Ans.ups [(2, none), (1808, some (Row.mk (PV.parr 106 (n + 1) (Sh.st 106 [hsh, Sh.iarr .u8 32, Sh.int .i64, Sh.int .i64, Sh.iarr .u64 4]) (L ++ [PV.st 106 [PV.st 68 [U3 ↑(Hd.ver h), B8 32 (Hd.prev h), B8 32 (Hd.root h), U3 ↑(Hd.time h), U3 ↑(Hd.bits h), U3 ↑(Hd.nonce h)], B8 32 y, I6 o, I6 ↑(b0 + 1), B6 4 s]])) false))]), (126, Ans.same [1, 1808, 3, 4] [] true [(1, 1), (1808, 2), (3, 3), (4, 4)] [(1, Row.mk (PV.st 80 [PV.st 77 [U3 ↑(Prm.lim p), I6 (Prm.per p), I6 (Prm.sp p), I6 (Prm.fu p), I6 (Prm.cap p), PV.st 68 [U3 ↑(Hd.ver (Prm.gen p)), B8 32 (Hd.prev (Prm.gen p)), B8 32 (Hd.root (Prm.gen p)), U3 ↑(Hd.time (Prm.gen p)), U3 ↑(Hd.bits (Prm.gen p)), U3 ↑(Hd.nonce (Prm.gen p))], B6 4 (uw (Prm.sum p))], PV.ref 2 [] 106 0 (n + 1), PV.fn 1000000 3, PV.ref 4 [] 1 0 (q + 1)]) false), (2, Row.mk (PV.parr 106 (n + 1) (Sh.st 106 [hsh, Sh.iarr .u8 32, Sh.int .i64, Sh.int .i64, Sh.iarr .u64 4]) (L ++ [PV.st 106 [PV.st 68 [U3 ↑(Hd.ver h), B8 32 (Hd.prev h), B8 32 (Hd.root h), U3 ↑(Hd.time h), U3 ↑(Hd.bits h), U3 ↑(Hd.nonce h)], B8 32 y, I6 o, I6 ↑(b0 + 1), B6 4 s]])) false), (3, Row.mk (PV.tup [PV.tup [PV.parr 32 (n + 1) (Sh.iarr .u8 32) (H ++ [B8 32 y]), BI (n + 1) (V ++ [(n:Int)])]]) false), (4, Row.mk (BI (q + 1) B) false)] (I6 tp) none), (127, aV (PV.at 1808 [Stp.idx tp 106])), (129, aV (B6 4 wt)), (130, aK (I6 cm)), (131, aT), (135, Ans.call true [(1, 1), (1808, 2), (3, 3), (4, 4)] [(1, Row.mk (PV.st 80 [PV.st 77 [U3 ↑(Prm.lim p), I6 (Prm.per p), I6 (Prm.sp p), I6 (Prm.fu p), I6 (Prm.cap p), PV.st 68 [U3 ↑(Hd.ver (Prm.gen p)), B8 32 (Hd.prev (Prm.gen p)), B8 32 (Hd.root (Prm.gen p)), U3 ↑(Hd.time (Prm.gen p)), U3 ↑(Hd.bits (Prm.gen p)), U3 ↑(Hd.nonce (Prm.gen p))], B6 4 (uw (Prm.sum p))], PV.ref 2 [] 106 0 (n + 1), PV.fn 1000000 3, PV.ref 4 [] 1 0 (q + 1)]) false), (2, Row.mk (PV.parr 106 (n + 1) (Sh.st 106 [hsh, Sh.iarr .u8 32, Sh.int .i64, Sh.int .i64, Sh.iarr .u64 4]) (L ++ [PV.st 106 [PV.st 68 [U3 ↑(Hd.ver h), B8 32 (Hd.prev h), B8 32 (Hd.root h), U3 ↑(Hd.time h), U3 ↑(Hd.bits h), U3 ↑(Hd.nonce h)], B8 32 y, I6 o, I6 ↑(b0 + 1), B6 4 s]])) false), (3, Row.mk (PV.tup [PV.tup [PV.parr 32 (n + 1) (Sh.iarr .u8 32) (H ++ [B8 32 y]), BI (n + 1) (V ++ [(n:Int)])]]) false), (4, Row.mk (BI (q + 1) B) false), (5, Row.mk (BI k' O) false)] (PV.ref 5 [] 1 0 k'))] [(1, 1), (2, 2), (3, 3), (4, 4), (1808, 6), (2229, 5)] [Pt 21 [] [PV.st 68 [U3 ↑(Hd.ver h), B8 32 (Hd.prev h), B8 32 (Hd.root h), U3 ↑(Hd.time h), U3 ↑(Hd.bits h), U3 ↑(Hd.nonce h)]] [] (B8 32 y), BC H (B8 32 y) = false, decide ((n:Int) ≥ Prm.cap p) = false, I6 (A7 H V (B8 32 (Hd.prev h))) = I6 o, BC H (B8 32 (Hd.prev h)) = true, rr (some (Row.mk (PV.st 80 [PV.st 77 [U3 ↑(Prm.lim p), I6 (Prm.per p), I6 (Prm.sp p), I6 (Prm.fu p), I6 (Prm.cap p), PV.st 68 [U3 ↑(Hd.ver (Prm.gen p)), B8 32 (Hd.prev (Prm.gen p)), B8 32 (Hd.root (Prm.gen p)), U3 ↑(Hd.time (Prm.gen p)), U3 ↑(Hd.bits (Prm.gen p)), U3 ↑(Hd.nonce (Prm.gen p))], B6 4 (uw (Prm.sum p))], PV.ref 2 [] 106 0 n, PV.fn 1000000 3, PV.ref 4 [] 1 0 (q + 1)]) false)), rr (some (Row.mk (PV.parr 106 n (Sh.st 106 [hsh, Sh.iarr .u8 32, Sh.int .i64, Sh.int .i64, Sh.iarr .u64 4]) L) false)), rr (some (Row.mk (PV.tup [PV.tup [PV.parr 32 n (Sh.iarr .u8 32) H, BI n V]]) false)), rr (some (Row.mk (BI (q + 1) B) false)), Pt 43 [(1, Row.mk (PV.st 80 [PV.st 77 [U3 ↑(Prm.lim p), I6 (Prm.per p), I6 (Prm.sp p), I6 (Prm.fu p), I6 (Prm.cap p), PV.st 68 [U3 ↑(Hd.ver (Prm.gen p)), B8 32 (Hd.prev (Prm.gen p)), B8 32 (Hd.root (Prm.gen p)), U3 ↑(Hd.time (Prm.gen p)), U3 ↑(Hd.bits (Prm.gen p)), U3 ↑(Hd.nonce (Prm.gen p))], B6 4 (uw (Prm.sum p))], PV.ref 2 [] 106 0 n, PV.fn 1000000 3, PV.ref 4 [] 1 0 (q + 1)]) false), (2, Row.mk (PV.parr 106 n (Sh.st 106 [hsh, Sh.iarr .u8 32, Sh.int .i64, Sh.int .i64, Sh.iarr .u64 4]) L) false), (3, Row.mk (PV.tup [PV.tup [PV.parr 32 n (Sh.iarr .u8 32) H, BI n V]]) false), (4, Row.mk (BI (q + 1) B) false)] [PV.at 1 [], I6 o] [(1, Row.mk (PV.st 80 [PV.st 77 [U3 ↑(Prm.lim p), I6 (Prm.per p), I6 (Prm.sp p), I6 (Prm.fu p), I6 (Prm.cap p), PV.st 68 [U3 ↑(Hd.ver (Prm.gen p)), B8 32 (Hd.prev (Prm.gen p)), B8 32 (Hd.root (Prm.gen p)), U3 ↑(Hd.time (Prm.gen p)), U3 ↑(Hd.bits (Prm.gen p)), U3 ↑(Hd.nonce (Prm.gen p))], B6 4 (uw (Prm.sum p))], PV.ref 2 [] 106 0 n, PV.fn 1000000 3, PV.ref 4 [] 1 0 (q + 1)]) false), (2, Row.mk (PV.parr 106 n (Sh.st 106 [hsh, Sh.iarr .u8 32, Sh.int .i64, Sh.int .i64, Sh.iarr .u64 4]) L) false), (3, Row.mk (PV.tup [PV.tup [PV.parr 32 n (Sh.iarr .u8 32) H, BI n V]]) false), (4, Row.mk (BI (q + 1) B) false), (5, Row.mk (PV.parr 68 k hsh M) false)] (PV.ref 5 [] 68 0 k), 0 + k ≤ k, rr ([] : List (Nat × Row)), ([PV.st 77 [U3 ↑(Prm.lim p), I6 (Prm.per p), I6 (Prm.sp p), I6 (Prm.fu p), I6 (Prm.cap p), PV.st 68 [U3 ↑(Hd.ver (Prm.gen p)), B8 32 (Hd.prev (Prm.gen p)), B8 32 (Hd.root (Prm.gen p)), U3 ↑(Hd.time (Prm.gen p)), U3 ↑(Hd.bits (Prm.gen p)), U3 ↑(Hd.nonce (Prm.gen p))], B6 4 (uw (Prm.sum p))], PV.vec false (PV.parr 68 k hsh (List.take k M)), PV.st 68 [U3 ↑(Hd.ver h), B8 32 (Hd.prev h), B8 32 (Hd.root h), U3 ↑(Hd.time h), U3 ↑(Hd.bits h), U3 ↑(Hd.nonce h)], I6 now] : List PV) = [PV.st 77 [U3 ↑(Prm.lim p), I6 (Prm.per p), I6 (Prm.sp p), I6 (Prm.fu p), I6 (Prm.cap p), PV.st 68 [U3 ↑(Hd.ver (Prm.gen p)), B8 32 (Hd.prev (Prm.gen p)), B8 32 (Hd.root (Prm.gen p)), U3 ↑(Hd.time (Prm.gen p)), U3 ↑(Hd.bits (Prm.gen p)), U3 ↑(Hd.nonce (Prm.gen p))], B6 4 (uw (Prm.sum p))], PV.vec false (PV.parr 68 k hsh M), PV.st 68 [U3 ↑(Hd.ver h), B8 32 (Hd.prev h), B8 32 (Hd.root h), U3 ↑(Hd.time h), U3 ↑(Hd.bits h), U3 ↑(Hd.nonce h)], I6 now], Pt 42 [] [PV.st 77 [U3 ↑(Prm.lim p), I6 (Prm.per p), I6 (Prm.sp p), I6 (Prm.fu p), I6 (Prm.cap p), PV.st 68 [U3 ↑(Hd.ver (Prm.gen p)), B8 32 (Hd.prev (Prm.gen p)), B8 32 (Hd.root (Prm.gen p)), U3 ↑(Hd.time (Prm.gen p)), U3 ↑(Hd.bits (Prm.gen p)), U3 ↑(Hd.nonce (Prm.gen p))], B6 4 (uw (Prm.sum p))], PV.vec false (PV.parr 68 k hsh M), PV.st 68 [U3 ↑(Hd.ver h), B8 32 (Hd.prev h), B8 32 (Hd.root h), U3 ↑(Hd.time h), U3 ↑(Hd.bits h), U3 ↑(Hd.nonce h)], I6 now] [] (I6 0), Pt 44 [] [U3 ↑(Hd.bits h)] [] (PV.tup [B6 4 t, I6 te]), PV.at 2 [Stp.idx (0 + o) 106] = PV.at 2 [Stp.idx o 106], 0 ≤ (o:Int), (o:Int) < (n:Int), B6 4 (PV.nums (List.headD (List.tail (List.tail (List.tail (List.tail (PV.fs (List.getD L o PV.undef)))))) PV.undef)) = B6 4 w0, o < n, Pt 46 [] [B6 4 t] [] (B6 4 u), Pt 45 [] [B6 4 w0, B6 4 u] [] (PV.tup [B6 4 s, PV.bool false]), PV.at 2 [Stp.idx (0 + o) 106] = PV.at 2 [Stp.idx o 106], 0 ≤ (o:Int), (o:Int) < (n:Int), I6 (PV.num (List.headD (List.tail (List.tail (List.tail (PV.fs (List.getD L o PV.undef))))) PV.undef)) = I6 b0, o < n, I6 (IntKind.wrap .i64 ((b0:Int) + 1)) = I6 ↑(b0 + 1), ([(2, none), (1808, some (Row.mk (PV.parr 106 (n + 1) (Sh.st 106 [hsh, Sh.iarr .u8 32, Sh.int .i64, Sh.int .i64, Sh.iarr .u64 4]) (List.take n L ++ [PV.st 106 [PV.st 68 [U3 ↑(Hd.ver h), B8 32 (Hd.prev h), B8 32 (Hd.root h), U3 ↑(Hd.time h), U3 ↑(Hd.bits h), U3 ↑(Hd.nonce h)], B8 32 y, I6 o, I6 ↑(b0 + 1), B6 4 s]])) false))] : List (Nat × Option Row)) = [(2, none), (1808, some (Row.mk (PV.parr 106 (n + 1) (Sh.st 106 [hsh, Sh.iarr .u8 32, Sh.int .i64, Sh.int .i64, Sh.iarr .u64 4]) (L ++ [PV.st 106 [PV.st 68 [U3 ↑(Hd.ver h), B8 32 (Hd.prev h), B8 32 (Hd.root h), U3 ↑(Hd.time h), U3 ↑(Hd.bits h), U3 ↑(Hd.nonce h)], B8 32 y, I6 o, I6 ↑(b0 + 1), B6 4 s]])) false))], 1 ≤ 1, 0 + n = n, (n + 1) * 160 ≤ 140737488355328, n + 1 ≤ 9223372036854775807, BC H (B8 32 y) = false, rr (some (Row.mk (PV.st 80 [PV.st 77 [U3 ↑(Prm.lim p), I6 (Prm.per p), I6 (Prm.sp p), I6 (Prm.fu p), I6 (Prm.cap p), PV.st 68 [U3 ↑(Hd.ver (Prm.gen p)), B8 32 (Hd.prev (Prm.gen p)), B8 32 (Hd.root (Prm.gen p)), U3 ↑(Hd.time (Prm.gen p)), U3 ↑(Hd.bits (Prm.gen p)), U3 ↑(Hd.nonce (Prm.gen p))], B6 4 (uw (Prm.sum p))], PV.ref 1808 [] 106 0 (n + 1), PV.fn 1000000 3, PV.ref 4 [] 1 0 (q + 1)]) false)), rr (some (Row.mk (PV.parr 106 (n + 1) (Sh.st 106 [hsh, Sh.iarr .u8 32, Sh.int .i64, Sh.int .i64, Sh.iarr .u64 4]) (L ++ [PV.st 106 [PV.st 68 [U3 ↑(Hd.ver h), B8 32 (Hd.prev h), B8 32 (Hd.root h), U3 ↑(Hd.time h), U3 ↑(Hd.bits h), U3 ↑(Hd.nonce h)], B8 32 y, I6 o, I6 ↑(b0 + 1), B6 4 s]])) false)), rr (some (Row.mk (PV.tup [PV.tup [PV.parr 32 (n + 1) (Sh.iarr .u8 32) (H ++ [B8 32 y]), BI (n + 1) (V ++ [(n:Int)])]]) false)), rr (some (Row.mk (BI (q + 1) B) false)), Pt 47 [(1, Row.mk (PV.st 80 [PV.st 77 [U3 ↑(Prm.lim p), I6 (Prm.per p), I6 (Prm.sp p), I6 (Prm.fu p), I6 (Prm.cap p), PV.st 68 [U3 ↑(Hd.ver (Prm.gen p)), B8 32 (Hd.prev (Prm.gen p)), B8 32 (Hd.root (Prm.gen p)), U3 ↑(Hd.time (Prm.gen p)), U3 ↑(Hd.bits (Prm.gen p)), U3 ↑(Hd.nonce (Prm.gen p))], B6 4 (uw (Prm.sum p))], PV.ref 2 [] 106 0 (n + 1), PV.fn 1000000 3, PV.ref 4 [] 1 0 (q + 1)]) false), (2, Row.mk (PV.parr 106 (n + 1) (Sh.st 106 [hsh, Sh.iarr .u8 32, Sh.int .i64, Sh.int .i64, Sh.iarr .u64 4]) (L ++ [PV.st 106 [PV.st 68 [U3 ↑(Hd.ver h), B8 32 (Hd.prev h), B8 32 (Hd.root h), U3 ↑(Hd.time h), U3 ↑(Hd.bits h), U3 ↑(Hd.nonce h)], B8 32 y, I6 o, I6 ↑(b0 + 1), B6 4 s]])) false), (3, Row.mk (PV.tup [PV.tup [PV.parr 32 (n + 1) (Sh.iarr .u8 32) (H ++ [B8 32 y]), BI (n + 1) (V ++ [(n:Int)])]]) false), (4, Row.mk (BI (q + 1) B) false)] [PV.at 1 []] [(1, Row.mk (PV.st 80 [PV.st 77 [U3 ↑(Prm.lim p), I6 (Prm.per p), I6 (Prm.sp p), I6 (Prm.fu p), I6 (Prm.cap p), PV.st 68 [U3 ↑(Hd.ver (Prm.gen p)), B8 32 (Hd.prev (Prm.gen p)), B8 32 (Hd.root (Prm.gen p)), U3 ↑(Hd.time (Prm.gen p)), U3 ↑(Hd.bits (Prm.gen p)), U3 ↑(Hd.nonce (Prm.gen p))], B6 4 (uw (Prm.sum p))], PV.ref 2 [] 106 0 (n + 1), PV.fn 1000000 3, PV.ref 4 [] 1 0 (q + 1)]) false), (2, Row.mk (PV.parr 106 (n + 1) (Sh.st 106 [hsh, Sh.iarr .u8 32, Sh.int .i64, Sh.int .i64, Sh.iarr .u64 4]) (L ++ [PV.st 106 [PV.st 68 [U3 ↑(Hd.ver h), B8 32 (Hd.prev h), B8 32 (Hd.root h), U3 ↑(Hd.time h), U3 ↑(Hd.bits h), U3 ↑(Hd.nonce h)], B8 32 y, I6 o, I6 ↑(b0 + 1), B6 4 s]])) false), (3, Row.mk (PV.tup [PV.tup [PV.parr 32 (n + 1) (Sh.iarr .u8 32) (H ++ [B8 32 y]), BI (n + 1) (V ++ [(n:Int)])]]) false), (4, Row.mk (BI (q + 1) B) false)] (I6 tp), PV.at 1808 [Stp.idx (0 + tp) 106] = PV.at 1808 [Stp.idx tp 106], 0 ≤ (tp:Int), (tp:Int) < (↑(n + 1) : Int), B6 4 (PV.nums (List.headD (List.tail (List.tail (List.tail (List.tail (PV.fs (List.getD (L ++ [PV.st 106 [PV.st 68 [U3 ↑(Hd.ver h), B8 32 (Hd.prev h), B8 32 (Hd.root h), U3 ↑(Hd.time h), U3 ↑(Hd.bits h), U3 ↑(Hd.nonce h)], B8 32 y, I6 o, I6 ↑(b0 + 1), B6 4 s]]) tp PV.undef)))))) PV.undef)) = B6 4 wt, tp < n + 1, Pt 28 [] [B6 4 s, B6 4 wt] [] (I6 cm), decide (cm > (0 : Int)) = true, Pt 48 [(1, Row.mk (PV.st 80 [PV.st 77 [U3 ↑(Prm.lim p), I6 (Prm.per p), I6 (Prm.sp p), I6 (Prm.fu p), I6 (Prm.cap p), PV.st 68 [U3 ↑(Hd.ver (Prm.gen p)), B8 32 (Hd.prev (Prm.gen p)), B8 32 (Hd.root (Prm.gen p)), U3 ↑(Hd.time (Prm.gen p)), U3 ↑(Hd.bits (Prm.gen p)), U3 ↑(Hd.nonce (Prm.gen p))], B6 4 (uw (Prm.sum p))], PV.ref 2 [] 106 0 (n + 1), PV.fn 1000000 3, PV.ref 4 [] 1 0 (q + 1)]) false), (2, Row.mk (PV.parr 106 (n + 1) (Sh.st 106 [hsh, Sh.iarr .u8 32, Sh.int .i64, Sh.int .i64, Sh.iarr .u64 4]) (L ++ [PV.st 106 [PV.st 68 [U3 ↑(Hd.ver h), B8 32 (Hd.prev h), B8 32 (Hd.root h), U3 ↑(Hd.time h), U3 ↑(Hd.bits h), U3 ↑(Hd.nonce h)], B8 32 y, I6 o, I6 ↑(b0 + 1), B6 4 s]])) false), (3, Row.mk (PV.tup [PV.tup [PV.parr 32 (n + 1) (Sh.iarr .u8 32) (H ++ [B8 32 y]), BI (n + 1) (V ++ [(n:Int)])]]) false), (4, Row.mk (BI (q + 1) B) false)] [PV.at 1 [], I6 n] [(1, Row.mk (PV.st 80 [PV.st 77 [U3 ↑(Prm.lim p), I6 (Prm.per p), I6 (Prm.sp p), I6 (Prm.fu p), I6 (Prm.cap p), PV.st 68 [U3 ↑(Hd.ver (Prm.gen p)), B8 32 (Hd.prev (Prm.gen p)), B8 32 (Hd.root (Prm.gen p)), U3 ↑(Hd.time (Prm.gen p)), U3 ↑(Hd.bits (Prm.gen p)), U3 ↑(Hd.nonce (Prm.gen p))], B6 4 (uw (Prm.sum p))], PV.ref 2 [] 106 0 (n + 1), PV.fn 1000000 3, PV.ref 4 [] 1 0 (q + 1)]) false), (2, Row.mk (PV.parr 106 (n + 1) (Sh.st 106 [hsh, Sh.iarr .u8 32, Sh.int .i64, Sh.int .i64, Sh.iarr .u64 4]) (L ++ [PV.st 106 [PV.st 68 [U3 ↑(Hd.ver h), B8 32 (Hd.prev h), B8 32 (Hd.root h), U3 ↑(Hd.time h), U3 ↑(Hd.bits h), U3 ↑(Hd.nonce h)], B8 32 y, I6 o, I6 ↑(b0 + 1), B6 4 s]])) false), (3, Row.mk (PV.tup [PV.tup [PV.parr 32 (n + 1) (Sh.iarr .u8 32) (H ++ [B8 32 y]), BI (n + 1) (V ++ [(n:Int)])]]) false), (4, Row.mk (BI (q + 1) B) false), (5, Row.mk (BI k' O) false)] (PV.ref 5 [] 1 0 k')] (ac (c1) (ac (by assumption) (ac (dF (by omega)) (ac (cg (ho)) (ac (by assumption) (ac rfl (ac rfl (ac rfl (ac rfl (ac (c2) (ac (by omega) (ac rfl (ac (by rw [List.take_of_length_le (show List.length M ≤ k by omega)]) (ac (c3) (ac (c4) (ac (by simp only [Nat.zero_add]) (ob2 (by omega) (ac (by (rw [g]; rfl)) (ac (by omega) (ac (c5) (ac (c6) (ac (by simp only [Nat.zero_add]) (ob2 (by omega) (ac (cg (by (rw [g]; rfl))) (ac (by omega) (ac (wj (by omega)) (ac (by rw [List.take_of_length_le (show List.length L ≤ n by omega)]) (ac (by omega) (ac (by omega) (ob2 (by omega) (ac (by assumption) (ac rfl (ac rfl (ac rfl (ac rfl (ac (c8) (ac (by simp only [Nat.zero_add]) (ob2 (by omega) (ac (by (rw [gt]; rfl)) (ac (by omega) (ac (c7) (ac (dT (by omega)) (ao (c9))))))))))))))))))))))))))))))))))))))))))))
end Go.Proofs
namespace Go.Proofs
open Go Go.Pe Go.Pm
set_option maxRecDepth 100000
set_option linter.unusedVariables false
attribute [local irreducible] Ak lv EP
def rnsh : Sh := .st 102 [H5, .int .i64, .vec 1 (.int .i64)]
def rnV (h : Hd) (x : List Int) (on : Int) (d : Nat) (D : List Int) : PV := .st 102 [.st 100 [h.pv, .iarr .u8 32 x], .int .i64 on, .vec false (.iarr .i64 d D)]
def Fs (x : Nd) : PV := rnV x.h (Ak x.h) x.par (nd x.w) (dg x.w)
def rT (p : Prm) (n : Nat) (R : List PV) : PV := .st 75 [p.rpv, .vec false (.parr 102 n rnsh R)]
theorem LZ {N : List Nd} {i : Nat} (h : i < N.length) : (N.map Fs).getD i .undef = Fs (N.getD i default) := by simp [List.getD_eq_getElem?_getD, h]
theorem Rc {p : Prm} {x : Liz} (c1 : Pt 35 [] [p.gen.pv] [] (.st 100 [p.gen.pv, .iarr .u8 32 x])) : Pt 12 [] [p.rpv] [] (rT p 1 [rnV p.gen x (-1) (nd p.sum) (dg p.sum)]) := by
 refine pO Tryz.func12 (by kernel_rfl) ?_
 unfold rT rnV Prm.rpv bv at *
 generalize nd p.sum = d at *
 generalize dg p.sum = D at *
 generalize p.gen = gg at *
 refine W.rtA [(5, c9 c1)] [] [_, 1 ≤ 1] (ac (c1) (ao (by omega)))
def dFd (p : Prm) (n : Nat) (R : List PV) (y : List Int) (i : Nat) : DS := ⟨[(2, .at 1 []), (3, .at 2 []), (5, .int .i64 i)], [(1, ⟨.st 75 [p.rpv, .vec false (.parr 102 n rnsh R)], false⟩), (2, ⟨.iarr .u8 32 y, false⟩)]⟩
theorem W_fd {p : Prm} {n : Nat} {R : Lpz} {y : Liz} {r : Int} {i : Nat} {h : Hd} {x D : Liz} {on : Int} {d : Nat} (hi : i < n) (hn : n ≤ 1000) (g : R.getD i .undef = .st 102 [.st 100 [.st 68 [.int .u32 h.ver, .iarr .u8 32 h.prev, .iarr .u8 32 h.root, .int .u32 h.time, .int .u32 h.bits, .int .u32 h.nonce], .iarr .u8 32 x], .int .i64 on, .vec false (.iarr .i64 d D)]) (hx : x.length = 32) (hy : y.length = 32)
  (h1 : x = y → r = i) (hw : ¬ x = y → Wt Tryz.f37 [] [] (.int .i64 r) (Af Tryz.f37 0) (dFd p n R y (i + 1))) : Wt Tryz.f37 [] [] (.int .i64 r) (Af Tryz.f37 0) (dFd p n R y i) := by
 by_cases he : x = y
 ·obtain rfl := h1 he
  clear h1 hw
  refine W.rtA [(4, aT), (11, aV (B8 32 x)), (13, aT)] [] [decide ((i:Int) < (n:Int)) = true, 0 ≤ (i:Int), (i:Int) < (n:Int), B8 32 (PV.nums (List.headD (List.tail (PV.fs (List.headD (PV.fs (List.getD R i PV.undef)) PV.undef))) PV.undef)) = B8 32 x, i < n, decide (x = y) = true] (ac (dT (by omega)) (ob2 (by omega) (ac (by (rw [g]; rfl)) (ac (by omega) (ao (dT (by omega)))))))
 ·have hw := hw he
  clear h1
  refine W.sgA 0 [(4, aT), (11, aV (B8 32 x)), (13, aF), (15, aV (I6 ↑(i + 1)))] (rI 2) (dFd p n R y (i + 1)) [decide ((i:Int) < (n:Int)) = true, 0 ≤ (i:Int), (i:Int) < (n:Int), B8 32 (PV.nums (List.headD (List.tail (PV.fs (List.headD (PV.fs (List.getD R i PV.undef)) PV.undef))) PV.undef)) = B8 32 x, i < n, decide (x = y) = false, I6 (IntKind.wrap .i64 ((i:Int) + 1)) = I6 ↑(i + 1)] (ac (dT (by omega)) (ob2 (by omega) (ac (by (rw [g]; rfl)) (ac (by omega) (ac (dF (by omega)) (ao (wj (by omega)))))))) ?_
  exact hw
theorem Xl {p : Prm} {N : List Nd} {n : Nat} (hn : N.length = n) (hn1 : n ≤ 1000) {y : Liz} (hy : y.length = 32) : ∀ k i, i + k = n →
  Wt Tryz.f37 [] [] (.int .i64 (if fnd ((hsN N).drop i) y < k then ((i + fnd ((hsN N).drop i) y : Nat) : Int) else -1)) (Af Tryz.f37 0) (dFd p n (N.map Fs) y i)
 | 0, i, hk => by
  obtain rfl : i = n := by omega
  rw [if_neg (by omega)]
  generalize N.map Fs = R at *
  refine W.rtA [(4, aF)] [] [decide ((i:Int) < (i:Int)) = false] (ao (dF (by omega)))
 | k + 1, i, hk => by
  have hi : i < N.length := by omega
  have e : (hsN N).drop i = Ak (N.getD i default).h :: (hsN N).drop (i + 1) := by
   rw [List.drop_eq_getElem_cons (by simp [hsN]; omega)]
   simp [hsN, List.getD_eq_getElem?_getD, hi]
  have ih := Xl (p := p) hn hn1 hy k (i + 1) (by omega)
  have g := LZ hi
  unfold Fs rnV Hd.pv at g
  rw [e, fnd]
  refine W_fd (by omega) hn1 g (Bq _) hy (fun he => ?_) (fun he => ?_)
  ·rw [if_pos he, if_pos (by omega), Nat.add_zero]
  ·rw [if_neg he]
   have e2 : (if fnd ((hsN N).drop (i + 1)) y + 1 < k + 1 then ((i + (fnd ((hsN N).drop (i + 1)) y + 1) : Nat) : Int) else -1) = if fnd ((hsN N).drop (i + 1)) y < k then ((i + 1 + fnd ((hsN N).drop (i + 1)) y : Nat) : Int) else -1 := by
    by_cases h : fnd ((hsN N).drop (i + 1)) y < k
    ·rw [if_pos h, if_pos (by omega)]; congr 1; omega
    ·rw [if_neg h, if_neg (by omega)]
   rw [e2]
   exact ih
def fndI (N : List Nd) (y : List Int) : Int := if fnd (hsN N) y < N.length then ((fnd (hsN N) y : Nat) : Int) else -1
theorem Q6 {p : Prm} {N : List Nd} {n : Nat} (hn : N.length = n) (hn1 : n ≤ 1000) {y : Liz} (hy : y.length = 32) : Pt 37 [] [rT p n (N.map Fs), .iarr .u8 32 y] [] (.int .i64 (fndI N y)) := by
 refine pO Tryz.func37 (by kernel_rfl) ?_
 have hw := Xl (p := p) hn hn1 hy n 0 (by omega)
 rw [List.drop_zero, Nat.zero_add] at hw
 unfold fndI
 rw [hn]
 generalize (if fnd (hsN N) y < n then ((fnd (hsN N) y : Nat) : Int) else -1) = r at *
 generalize N.map Fs = R at *
 unfold rT
 refine W.sgA 0 [] [(64, 1), (80, 2)] (dFd p n R y 0) [] trivial ?_
 exact hw
theorem Vq {p : Prm} {n : Nat} {R : Lpz} : Pt 50 [] [rT p n R, .int .i64 (-1)] [] (.vec true (.iarr .i64 0 [])) := by
 refine pO Tryz.func50 (by kernel_rfl) ?_
 unfold rT
 refine W.rtA [] [] [] trivial
theorem Vn {p : Prm} {n : Nat} {R : Lpz} {i : Nat} {h : Hd} {x D : Liz} {d : Nat} (hi : i < n) (g : R.getD i .undef = .st 102 [.st 100 [.st 68 [.int .u32 h.ver, .iarr .u8 32 h.prev, .iarr .u8 32 h.root, .int .u32 h.time, .int .u32 h.bits, .int .u32 h.nonce], .iarr .u8 32 x], .int .i64 (-1), .vec false (.iarr .i64 d D)]) :
  Pt 50 [] [rT p n R, .int .i64 i] [(1, ⟨.iarr .i64 1 [(i : Int)], false⟩)] (.ref 1 [] 1 0 1) := by
 refine pO Tryz.func50 (by kernel_rfl) ?_
 have c1 := Vq (p := p) (n := n) (R := R)
 unfold rT at *
 refine W.rtA [(10, aV (I6 (-1))), (11, c9 c1)] [(288, 1)] [0 ≤ (i:Int), (i:Int) < (n:Int), I6 (PV.num (List.headD (List.tail (PV.fs (List.getD R i PV.undef))) PV.undef)) = I6 (-1), i < n, _, 1 ≤ 1, 0 < 1, 8 ≤ 140737488355328, 1 ≤ 9223372036854775807] (ob2 (by omega) (ac (cg (by (rw [g]; rfl))) (ac (by omega) (ac (c1) (ob3 (by omega) (ao (by omega)))))))
theorem UM {p : Prm} {n : Nat} {R : Lpz} {i j k : Nat} {O : Liz} {h : Hd} {x D : Liz} {d : Nat} (hi : i < n) (hk : k ≤ 1000) (hO : O.length = k) (g : R.getD i .undef = .st 102 [.st 100 [.st 68 [.int .u32 h.ver, .iarr .u8 32 h.prev, .iarr .u8 32 h.root, .int .u32 h.time, .int .u32 h.bits, .int .u32 h.nonce], .iarr .u8 32 x], .int .i64 j, .vec false (.iarr .i64 d D)])
  (c1 : Pt 50 [] [rT p n R, .int .i64 j] [(1, ⟨.iarr .i64 k O, false⟩)] (.ref 1 [] 1 0 k)) :
  Pt 50 [] [rT p n R, .int .i64 i] [(1, ⟨.iarr .i64 (k + 1) (O ++ [(i : Int)]), false⟩)] (.ref 1 [] 1 0 (k + 1)) := by
 refine pO Tryz.func50 (by kernel_rfl) ?_
 unfold rT at *
 refine W.rtA [(10, aV (I6 j)), (11, c9 c1), (14, Ans.ups [(241, none), (288, some (Row.mk (BI (k + 1) (O ++ [(i:Int)])) false))])] [(288, 1)] [0 ≤ (i:Int), (i:Int) < (n:Int), I6 (PV.num (List.headD (List.tail (PV.fs (List.getD R i PV.undef))) PV.undef)) = I6 j, i < n, _, ([(241, none), (288, some (Row.mk (BI (k + 1) (List.take k O ++ [(i:Int)])) false))] : List (Nat × Option Row)) = [(241, none), (288, some (Row.mk (BI (k + 1) (O ++ [(i:Int)])) false))], 1 ≤ 1, 0 + k = k, (k + 1) * 8 ≤ 140737488355328, k + 1 ≤ 9223372036854775807] (ob2 (by omega) (ac (cg (by (rw [g]; rfl))) (ac (by omega) (ac (c1) (ac (by rw [List.take_of_length_le (show List.length O ≤ k by omega)]) (ac (by omega) (ac (by omega) (ac (by omega) (ao (by omega))))))))))
theorem QU {p : Prm} {N : List Nd} (hT : TW p N) {n : Nat} (hn : N.length = n) (hn1 : n ≤ 1000) : ∀ k i, i < n → (N.getD i default).path.length = k + 1 →
  Pt 50 [] [rT p n (N.map Fs), .int .i64 i] [(1, ⟨.iarr .i64 (k + 1) (ints (N.getD i default).path), false⟩)] (.ref 1 [] 1 0 (k + 1))
 | 0, i, hi, hk => by
  have g := LZ (N := N) (i := i) (by omega)
  have e : (N.getD i default).par = -1 := by unfold Nd.par; rw [if_pos (by omega)]
  have hl := hT.plast i (by omega)
  rw [hk] at hl
  have e2 : ints (N.getD i default).path = [(i : Int)] := by
   obtain ⟨a, ha⟩ := List.length_eq_one_iff.1 hk
   rw [ha] at hl ⊢
   simp at hl
   rw [hl]
   rfl
  unfold Fs rnV Hd.pv at g
  rw [e] at g
  rw [e2]
  exact Vn hi g
 | k + 1, i, hi, hk => by
  have g := LZ (N := N) (i := i) (by omega)
  have e : (N.getD i default).par = (((N.getD i default).path.getD k 0 : Nat) : Int) := by
   unfold Nd.par
   rw [if_neg (by omega), hk]
   rfl
  obtain ⟨a, b⟩ := hT.pcl i (by omega) k (by omega)
  have hl := hT.plast i (by omega)
  rw [hk] at hl
  have ih := QU hT hn hn1 k ((N.getD i default).path.getD k 0) (by omega) (by rw [b, List.length_take]; omega)
  rw [b] at ih
  have e2 : ints (N.getD i default).path = ints ((N.getD i default).path.take (k + 1)) ++ [(i : Int)] := by
   have h1 : (N.getD i default).path = (N.getD i default).path.take (k + 1) ++ [i] := by
    conv => lhs; rw [← List.take_append_drop (k + 1) (N.getD i default).path]
    congr 1
    rw [List.drop_eq_getElem_cons (by omega), List.drop_of_length_le (by omega)]
    congr 1
    have hl' : (N.getD i default).path.getD (k + 1) 0 = i := hl
    rw [List.getD_eq_getElem?_getD, List.getElem?_eq_getElem (by omega)] at hl'
    simpa using hl'
   conv => lhs; rw [h1]
   simp [ints]
  unfold Fs rnV Hd.pv at g
  rw [e] at g
  rw [e2]
  have hp := (hT.plen i (by omega)).2
  exact UM hi (by omega) (by rw [EH, List.length_take]; omega) g ih
def dRl0 (p : Prm) (n : Nat) (R : List PV) (k : Nat) (O : List Int) : DS := ⟨[(2, .at 1 []), (5, .vec true (.parr 100 0 H5 [])), (10, .ref 3 [] 1 0 k), (11, .int .i64 k), (12, .int .i64 0)], [(1, ⟨.st 75 [p.rpv, .vec false (.parr 102 n rnsh R)], false⟩), (3, ⟨.iarr .i64 k O, false⟩)]⟩
def dRl (p : Prm) (n : Nat) (R : List PV) (k : Nat) (O : List Int) (i : Nat) (M : List PV) : DS := ⟨[(2, .at 1 []), (5, .ref 2 [] 100 0 i), (10, .ref 3 [] 1 0 k), (11, .int .i64 k), (12, .int .i64 i)], [(1, ⟨.st 75 [p.rpv, .vec false (.parr 102 n rnsh R)], false⟩), (2, ⟨.parr 100 i H5 M, false⟩), (3, ⟨.iarr .i64 k O, false⟩)]⟩
theorem WT {p : Prm} {n : Nat} {R : Lpz} {k : Nat} {O : Liz} {hout : Lrz} {res : PV} {i c : Nat} {M : Lpz} {h : Hd} {x D : Liz} {on : Int} {d : Nat} (hi : i < k) (hk : k ≤ 1000) (hM : M.length = i) (gO : O.getD i 0 = (c : Int)) (hc : c < n)
  (g : R.getD c .undef = .st 102 [.st 100 [.st 68 [.int .u32 h.ver, .iarr .u8 32 h.prev, .iarr .u8 32 h.root, .int .u32 h.time, .int .u32 h.bits, .int .u32 h.nonce], .iarr .u8 32 x], .int .i64 on, .vec false (.iarr .i64 d D)])
  (hw : Wt Tryz.f39 [] hout res (Af Tryz.f39 0) (dRl p n R k O (i + 1) (M ++ [.st 100 [h.pv, .iarr .u8 32 x]]))) :
  Wt Tryz.f39 [] hout res (Af Tryz.f39 0) (if i = 0 then dRl0 p n R k O else dRl p n R k O i M) := by
 by_cases h0 : i = 0
 ·subst h0
  rw [if_pos rfl]
  obtain rfl := List.eq_nil_of_length_eq_zero hM
  refine W.sgA 0 [(0, aT), (2, aV (I6 c)), (10, aV (PV.st 100 [Hd.pv h, B8 32 x])), (14, aV (I6 1))] [(1, 1), (256, 2), (3, 3)] (dRl p n R k O 1 [.st 100 [h.pv, .iarr .u8 32 x]]) [decide (0 < (k:Int)) = true, (0 : Int) ≤ 0, 0 < (k:Int), I6 (List.getD O 0 (0 : Int)) = I6 c, 0 < k, 0 ≤ (c:Int), (c:Int) < (n:Int), PV.st 100 [Bo hsh (List.headD (PV.fs (List.headD (PV.fs (List.getD R c PV.undef)) PV.undef)) PV.undef), B8 32 (PV.nums (List.headD (List.tail (PV.fs (List.headD (PV.fs (List.getD R c PV.undef)) PV.undef))) PV.undef))] = PV.st 100 [Hd.pv h, B8 32 x], c < n, 1 ≤ 1, 0 < 1, 112 ≤ 140737488355328, 1 ≤ 9223372036854775807, I6 (IntKind.wrap .i64 ((0 : Int) + (1 : Int))) = I6 1] (ac (dT (by omega)) (ob2 (by omega) (ac (cg (gO)) (ob3 (by omega) (ac (by (rw [g]; rfl)) (ob4 (by omega) (ac (by omega) (ao (wj (by omega)))))))))) ?_
  exact hw
 ·rw [if_neg h0]
  refine W.sgA 0 [(0, aT), (1, aV (PV.at 3 [Stp.idx i 1])), (2, aV (I6 c)), (10, aV (PV.st 100 [Hd.pv h, B8 32 x])), (12, Ans.ups [(2, none), (256, some (Row.mk (PV.parr 100 (i + 1) (Sh.st 100 [hsh, Sh.iarr .u8 32]) (M ++ [PV.st 100 [Hd.pv h, B8 32 x]])) false))]), (14, aV (I6 ↑(i + 1)))] [(1, 1), (256, 2), (3, 3)] (dRl p n R k O (i + 1) (M ++ [.st 100 [h.pv, .iarr .u8 32 x]])) [decide ((i:Int) < (k:Int)) = true, PV.at 3 [Stp.idx (0 + i) 1] = PV.at 3 [Stp.idx i 1], 0 ≤ (i:Int), (i:Int) < (k:Int), I6 (List.getD O i (0 : Int)) = I6 c, i < k, 0 ≤ (c:Int), (c:Int) < (n:Int), PV.st 100 [Bo hsh (List.headD (PV.fs (List.headD (PV.fs (List.getD R c PV.undef)) PV.undef)) PV.undef), B8 32 (PV.nums (List.headD (List.tail (PV.fs (List.headD (PV.fs (List.getD R c PV.undef)) PV.undef))) PV.undef))] = PV.st 100 [Hd.pv h, B8 32 x], c < n, ([(2, none), (256, some (Row.mk (PV.parr 100 (i + 1) (Sh.st 100 [hsh, Sh.iarr .u8 32]) (List.take i M ++ [PV.st 100 [Hd.pv h, B8 32 x]])) false))] : List (Nat × Option Row)) = [(2, none), (256, some (Row.mk (PV.parr 100 (i + 1) (Sh.st 100 [hsh, Sh.iarr .u8 32]) (M ++ [PV.st 100 [Hd.pv h, B8 32 x]])) false))], 1 ≤ 1, 0 + i = i, (i + 1) * 112 ≤ 140737488355328, i + 1 ≤ 9223372036854775807, I6 (IntKind.wrap .i64 ((i:Int) + 1)) = I6 ↑(i + 1)] (ac (dT (by omega)) (ac (by simp only [Nat.zero_add]) (ob2 (by omega) (ac (cg (gO)) (ob3 (by omega) (ac (by (rw [g]; rfl)) (ac (by omega) (ac (by rw [List.take_of_length_le (show List.length M ≤ i by omega)]) (ac (by omega) (ac (by omega) (ob2 (by omega) (ao (wj (by omega)))))))))))))) ?_
  exact hw
theorem W_rlEnd {p : Prm} {n : Nat} {R : Lpz} {k : Nat} {O : Liz} {M : Lpz} (ht : M.take k = M) :
  Wt Tryz.f39 [] [] (.vec false (.parr 100 k H5 M)) (Af Tryz.f39 0) (dRl p n R k O k M) := by
 refine W.ret [(0, aF)] [] [decide ((k:Int) < (k:Int)) = false, 0 + k ≤ k, PV.vec false (PV.parr 100 k (Sh.st 100 [hsh, Sh.iarr .u8 32]) (List.take k M)) = PV.vec false (PV.parr 100 k (Sh.st 100 [hsh, Sh.iarr .u8 32]) M)] (by kernel_rfl) (ac (dF (by omega)) (ac (by omega) (ao (by (simp; omega)))))
def lkN (N : List Nd) (l : List Nat) : List PV := ((Be N l).map lh).map lk
theorem VJ (N : List Nd) (l : List Nat) {i : Nat} (h : i < l.length) : (lkN N l).take (i + 1) = (lkN N l).take i ++ [.st 100 [(N.getD (l.getD i 0) default).h.pv, .iarr .u8 32 (Ak (N.getD (l.getD i 0) default).h)]] := by
 rw [List.take_add_one]
 congr 1
 simp [lkN, Be, List.getD_eq_getElem?_getD, h, lk, lh]
theorem II (N : List Nd) (l : List Nat) : (lkN N l).length = l.length := by simp [lkN, Be]
theorem W_rl {p : Prm} {N : List Nd} {n : Nat} (hn : N.length = n) {k : Nat} (hk1 : k ≤ 1000) {l : List Nat} (hl : l.length = k) (hlt : ∀ j, j < k → l.getD j 0 < n) (h0 : 0 < k) : ∀ r i, i + r = k →
  Wt Tryz.f39 [] [] (.vec false (.parr 100 k H5 (lkN N l))) (Af Tryz.f39 0) (if i = 0 then dRl0 p n (N.map Fs) k (ints l) else dRl p n (N.map Fs) k (ints l) i ((lkN N l).take i))
 | 0, i, hk => by
  obtain rfl : i = k := by omega
  rw [if_neg (by omega), List.take_of_length_le (l := lkN N l) (by rw [II]; omega)]
  exact W_rlEnd (List.take_of_length_le (by rw [II]; omega))
 | r + 1, i, hk => by
  have hi : i < k := by omega
  have ih := W_rl (p := p) hn hk1 hl hlt h0 r (i + 1) (by omega)
  rw [if_neg (by omega), VJ N l (by omega)] at ih
  have g := LZ (N := N) (i := l.getD i 0) (by have := hlt i hi; omega)
  unfold Fs rnV Hd.pv at g
  exact WT hi hk1 (by rw [List.length_take, II]; omega) (Jp (by omega)) (hlt i hi) g ih
theorem UL {p : Prm} {N : List Nd} (hT : TW p N) {n : Nat} (hn : N.length = n) (hn1 : n ≤ 1000) {i k : Nat} (hi : i < n) (hk : (N.getD i default).path.length = k) :
  Pt 39 [] [rT p n (N.map Fs), .int .i64 i] [] (.vec false (.parr 100 k H5 (lkN N (N.getD i default).path))) := by
 refine pO Tryz.func39 (by kernel_rfl) ?_
 have hp := hT.plen i (by omega)
 obtain ⟨q, rfl⟩ : ∃ q, k = q + 1 := ⟨k - 1, by omega⟩
 have c1 := QU hT hn hn1 q i hi hk
 have hw := W_rl (p := p) hn (k := q + 1) (by omega) hk (fun j hj => by have := (hT.pcl i (by omega) j (by omega)).1; omega) (by omega) (q + 1) 0 (by omega)
 rw [if_pos rfl] at hw
 generalize lkN N (N.getD i default).path = M at *
 generalize ints (N.getD i default).path = O at *
 generalize N.map Fs = R at *
 unfold rT at *
 refine W.sgA 0 [(5, c9 c1)] [(64, 1), (145, 3)] (dRl0 p n R (q + 1) O) [_] (ao (c1)) ?_
 exact hw
theorem NP {v : Nat} (h : v < Aa) : nd v ≤ 100000 := by
 have := Db (v := v) (n := 16) |>.2 (by rw [show (65536 : Nat) ^ 16 = Aa by decide]; exact h)
 omega
end Go.Proofs
namespace Go.Proofs
open Go Go.Pe Go.Pm
set_option maxRecDepth 100000
set_option linter.unusedVariables false
attribute [local irreducible] Ak lv EP
theorem XP {p : Prm} {n : Nat} {R : Lpz} {h : Hd} {now : Int} {x : Liz} {f : Nat} (c1 : Pt 35 [] [h.pv] [] (.st 100 [h.pv, .iarr .u8 32 x])) (c2 : Pt 37 [] [rT p n R, .iarr .u8 32 x] [] (.int .i64 f)) :
  Pt 14 [] [rT p n R, h.pv, .int .i64 now] [] (.tup [rT p n R, .int .i64 ((7 : Nat) : Int)]) := by
 refine pO Tryz.func14 (by kernel_rfl) ?_
 have hf : (f : Int) ≥ 0 := by omega
 unfold rT at *
 refine W.rtA [(5, c9 c1), (11, c9 c2)] [] [_, _] (ac (c1) (ao (c2)))
theorem XD {p : Prm} {n : Nat} {R : Lpz} {h : Hd} {now : Int} {x : Liz} (c1 : Pt 35 [] [h.pv] [] (.st 100 [h.pv, .iarr .u8 32 x])) (c2 : Pt 37 [] [rT p n R, .iarr .u8 32 x] [] (.int .i64 (-1))) (hc : p.cap ≤ (n : Int)) :
  Pt 14 [] [rT p n R, h.pv, .int .i64 now] [] (.tup [rT p n R, .int .i64 ((8 : Nat) : Int)]) := by
 refine pO Tryz.func14 (by kernel_rfl) ?_
 unfold rT at *
 refine W.rtA [(5, c9 c1), (11, c9 c2), (19, aT)] [] [_, _, decide ((n:Int) ≥ Prm.cap p) = true] (ac (c1) (ac (c2) (ao (dT (by omega)))))
theorem X0 {p : Prm} {n : Nat} {R : Lpz} {h : Hd} {now : Int} {x : Liz} (c1 : Pt 35 [] [h.pv] [] (.st 100 [h.pv, .iarr .u8 32 x])) (c2 : Pt 37 [] [rT p n R, .iarr .u8 32 x] [] (.int .i64 (-1))) (hc : ¬ p.cap ≤ (n : Int))
  (c3 : Pt 37 [] [rT p n R, .iarr .u8 32 h.prev] [] (.int .i64 (-1))) :
  Pt 14 [] [rT p n R, h.pv, .int .i64 now] [] (.tup [rT p n R, .int .i64 ((9 : Nat) : Int)]) := by
 refine pO Tryz.func14 (by kernel_rfl) ?_
 unfold rT at *
 refine W.rtA [(5, c9 c1), (11, c9 c2), (19, aF), (23, c9 c3)] [] [_, _, decide ((n:Int) ≥ Prm.cap p) = false, _] (ac (c1) (ac (c2) (ac (dF (by omega)) (ao (c3)))))
theorem Xu {p : Prm} {n : Nat} {R : Lpz} {h : Hd} {now : Int} {x : Liz} {o k : Nat} {M : Lpz} {e : Int} (c1 : Pt 35 [] [h.pv] [] (.st 100 [h.pv, .iarr .u8 32 x])) (c2 : Pt 37 [] [rT p n R, .iarr .u8 32 x] [] (.int .i64 (-1))) (hc : ¬ p.cap ≤ (n : Int))
  (c3 : Pt 37 [] [rT p n R, .iarr .u8 32 h.prev] [] (.int .i64 o)) (c4 : Pt 39 [] [rT p n R, .int .i64 o] [] (.vec false (.parr 100 k H5 M)))
  (c5 : Pt 38 [] [p.rpv, .vec false (.parr 100 k H5 M), h.pv, .int .i64 now] [] (.int .i64 e)) (he : ¬ e = 0) :
  Pt 14 [] [rT p n R, h.pv, .int .i64 now] [] (.tup [rT p n R, .int .i64 e]) := by
 refine pO Tryz.func14 (by kernel_rfl) ?_
 unfold rT at *
 refine W.rtA [(5, c9 c1), (11, c9 c2), (19, aF), (23, c9 c3), (31, c0 c4), (34, c9 c5), (37, aT)] [] [_, _, decide ((n:Int) ≥ Prm.cap p) = false, _, _, _, (e != (0 : Int)) = true] (ac (c1) (ac (c2) (ac (dF (by omega)) (ac (c3) (ac (c4) (ac (c5) (ao (bne_iff_ne.2 (by omega)))))))))
theorem Vm {p : Prm} {n : Nat} {R : Lpz} {h : Hd} {now : Int} {x : Liz} {o k : Nat} {M : Lpz} (c1 : Pt 35 [] [h.pv] [] (.st 100 [h.pv, .iarr .u8 32 x])) (c2 : Pt 37 [] [rT p n R, .iarr .u8 32 x] [] (.int .i64 (-1))) (hc : ¬ p.cap ≤ (n : Int))
  (c3 : Pt 37 [] [rT p n R, .iarr .u8 32 h.prev] [] (.int .i64 o)) (c4 : Pt 39 [] [rT p n R, .int .i64 o] [] (.vec false (.parr 100 k H5 M)))
  (c5 : Pt 38 [] [p.rpv, .vec false (.parr 100 k H5 M), h.pv, .int .i64 now] [] (.int .i64 0)) {h0 : Hd} {x0 D0 Dw Ds : Liz} {on0 : Int} {d0 dw ds : Nat} (hon : o < n)
  (g : R.getD o .undef = .st 102 [.st 100 [.st 68 [.int .u32 h0.ver, .iarr .u8 32 h0.prev, .iarr .u8 32 h0.root, .int .u32 h0.time, .int .u32 h0.bits, .int .u32 h0.nonce], .iarr .u8 32 x0], .int .i64 on0, .vec false (.iarr .i64 d0 D0)])
  (c6 : Pt 40 [] [h.pv] [] (.tup [.vec false (.iarr .i64 dw Dw), .bool true])) (c7 : Pt 41 [] [.vec false (.iarr .i64 d0 D0), .vec false (.iarr .i64 dw Dw)] [] (.vec false (.iarr .i64 ds Ds))) (hds : (ds : Int) > 16) :
  Pt 14 [] [rT p n R, h.pv, .int .i64 now] [] (.tup [rT p n R, .int .i64 ((14 : Nat) : Int)]) := by
 refine pO Tryz.func14 (by kernel_rfl) ?_
 unfold rT at *
 refine W.rtA [(5, c9 c1), (11, c9 c2), (19, aF), (23, c9 c3), (31, c0 c4), (34, c9 c5), (39, c0 c6), (50, aV (PV.vec false (BI d0 D0))), (52, c0 c7), (56, aT)] [] [_, _, decide ((n:Int) ≥ Prm.cap p) = false, _, _, _, _, 0 ≤ (o:Int), (o:Int) < (n:Int), PV.vec (PV.nil? (List.headD (List.tail (List.tail (PV.fs (List.getD R o PV.undef)))) PV.undef)) (BI (PV.len (PV.els (List.headD (List.tail (List.tail (PV.fs (List.getD R o PV.undef)))) PV.undef))) (PV.nums (PV.els (List.headD (List.tail (List.tail (PV.fs (List.getD R o PV.undef)))) PV.undef)))) = PV.vec false (BI d0 D0), o < n, _, decide ((ds:Int) > 16) = true] (ac (c1) (ac (c2) (ac (dF (by omega)) (ac (c3) (ac (c4) (ac (c5) (ac (c6) (ob2 (by omega) (ac (by (rw [g]; rfl)) (ac (by omega) (ac (c7) (ao (dT (by omega))))))))))))))
theorem VE {p : Prm} {n : Nat} {R : Lpz} {h : Hd} {now : Int} {x : Liz} {o k : Nat} {M : Lpz} (c1 : Pt 35 [] [h.pv] [] (.st 100 [h.pv, .iarr .u8 32 x])) (c2 : Pt 37 [] [rT p n R, .iarr .u8 32 x] [] (.int .i64 (-1))) (hc : ¬ p.cap ≤ (n : Int))
  (c3 : Pt 37 [] [rT p n R, .iarr .u8 32 h.prev] [] (.int .i64 o)) (c4 : Pt 39 [] [rT p n R, .int .i64 o] [] (.vec false (.parr 100 k H5 M)))
  (c5 : Pt 38 [] [p.rpv, .vec false (.parr 100 k H5 M), h.pv, .int .i64 now] [] (.int .i64 0)) {h0 : Hd} {x0 D0 Dw Ds : Liz} {on0 : Int} {d0 dw ds : Nat} (hon : o < n) (hn : n ≤ 1000) (hR : R.length = n)
  (g : R.getD o .undef = .st 102 [.st 100 [.st 68 [.int .u32 h0.ver, .iarr .u8 32 h0.prev, .iarr .u8 32 h0.root, .int .u32 h0.time, .int .u32 h0.bits, .int .u32 h0.nonce], .iarr .u8 32 x0], .int .i64 on0, .vec false (.iarr .i64 d0 D0)])
  (c6 : Pt 40 [] [h.pv] [] (.tup [.vec false (.iarr .i64 dw Dw), .bool true])) (c7 : Pt 41 [] [.vec false (.iarr .i64 d0 D0), .vec false (.iarr .i64 dw Dw)] [] (.vec false (.iarr .i64 ds Ds))) (hds : ¬ (ds : Int) > 16) :
  Pt 14 [] [rT p n R, h.pv, .int .i64 now] [] (.tup [rT p (n + 1) (R ++ [rnV h x o ds Ds]), .int .i64 ((0 : Nat) : Int)]) := by
 refine pO Tryz.func14 (by kernel_rfl) ?_
 have ht : R.take n = R := List.take_of_length_le (by omega)
 have ht2 : (R ++ [PV.st 102 [.st 100 [.st 68 [.int .u32 h.ver, .iarr .u8 32 h.prev, .iarr .u8 32 h.root, .int .u32 h.time, .int .u32 h.bits, .int .u32 h.nonce], .iarr .u8 32 x], .int .i64 o, .vec false (.iarr .i64 ds Ds)]]).take (n + 1) = R ++ [PV.st 102 [.st 100 [.st 68 [.int .u32 h.ver, .iarr .u8 32 h.prev, .iarr .u8 32 h.root, .int .u32 h.time, .int .u32 h.bits, .int .u32 h.nonce], .iarr .u8 32 x], .int .i64 o, .vec false (.iarr .i64 ds Ds)]] := List.take_of_length_le (by simp; omega)
 unfold rT rnV Hd.pv at *
 refine W.ret [((5 : Nat), Ans.call true [] [] (PV.st (100 : Nat) [PV.st (68 : Nat) [PV.int .u32 (↑(Hd.ver h) : Int), PV.iarr .u8 (32 : Nat) (Hd.prev h), PV.iarr .u8 (32 : Nat) (Hd.root h), PV.int .u32 (↑(Hd.time h) : Int), PV.int .u32 (↑(Hd.bits h) : Int), PV.int .u32 (↑(Hd.nonce h) : Int)], PV.iarr .u8 (32 : Nat) x])), ((11 : Nat), Ans.call true [] [] (PV.int .i64 (-1 : Int))), ((19 : Nat), Ans.dec false), ((23 : Nat), Ans.call true [] [] (PV.int .i64 (↑o : Int))), ((31 : Nat), Ans.call false [] [] (PV.vec false (PV.parr (100 : Nat) k (Sh.st (100 : Nat) [Sh.st (68 : Nat) [Sh.int .u32, Sh.iarr .u8 (32 : Nat), Sh.iarr .u8 (32 : Nat), Sh.int .u32, Sh.int .u32, Sh.int .u32], Sh.iarr .u8 (32 : Nat)]) M))), ((34 : Nat), Ans.call true [] [] (PV.int .i64 (0 : Int))), ((39 : Nat), Ans.call false [] [] (PV.tup [PV.vec false (PV.iarr .i64 dw Dw), PV.bool true])), ((50 : Nat), Ans.val (PV.vec false (PV.iarr .i64 d0 D0))), ((52 : Nat), Ans.call false [] [] (PV.vec false (PV.iarr .i64 ds Ds))), ((56 : Nat), Ans.dec false), ((71 : Nat), Ans.ups [((1040 : Nat), none), ((1200 : Nat), some (Row.mk (PV.parr (102 : Nat) (n + (1 : Nat)) (Sh.st (102 : Nat) [Sh.st (100 : Nat) [Sh.st (68 : Nat) [Sh.int .u32, Sh.iarr .u8 (32 : Nat), Sh.iarr .u8 (32 : Nat), Sh.int .u32, Sh.int .u32, Sh.int .u32], Sh.iarr .u8 (32 : Nat)], Sh.int .i64, Sh.vec (1 : Nat) (Sh.int .i64)]) (R ++ [PV.st (102 : Nat) [PV.st (100 : Nat) [PV.st (68 : Nat) [PV.int .u32 (↑(Hd.ver h) : Int), PV.iarr .u8 (32 : Nat) (Hd.prev h), PV.iarr .u8 (32 : Nat) (Hd.root h), PV.int .u32 (↑(Hd.time h) : Int), PV.int .u32 (↑(Hd.bits h) : Int), PV.int .u32 (↑(Hd.nonce h) : Int)], PV.iarr .u8 (32 : Nat) x], PV.int .i64 (↑o : Int), PV.vec false (PV.iarr .i64 ds Ds)]])) false))])] [] [Pt (35 : Nat) [] [PV.st (68 : Nat) [PV.int .u32 (↑(Hd.ver h) : Int), PV.iarr .u8 (32 : Nat) (Hd.prev h), PV.iarr .u8 (32 : Nat) (Hd.root h), PV.int .u32 (↑(Hd.time h) : Int), PV.int .u32 (↑(Hd.bits h) : Int), PV.int .u32 (↑(Hd.nonce h) : Int)]] [] (PV.st (100 : Nat) [PV.st (68 : Nat) [PV.int .u32 (↑(Hd.ver h) : Int), PV.iarr .u8 (32 : Nat) (Hd.prev h), PV.iarr .u8 (32 : Nat) (Hd.root h), PV.int .u32 (↑(Hd.time h) : Int), PV.int .u32 (↑(Hd.bits h) : Int), PV.int .u32 (↑(Hd.nonce h) : Int)], PV.iarr .u8 (32 : Nat) x]), Pt (37 : Nat) [] [PV.st (75 : Nat) [PV.st (74 : Nat) [PV.int .u32 (↑(Prm.lim p) : Int), PV.int .i64 (Prm.per p), PV.int .i64 (Prm.sp p), PV.int .i64 (Prm.fu p), PV.int .i64 (Prm.cap p), PV.st (68 : Nat) [PV.int .u32 (↑(Hd.ver (Prm.gen p)) : Int), PV.iarr .u8 (32 : Nat) (Hd.prev (Prm.gen p)), PV.iarr .u8 (32 : Nat) (Hd.root (Prm.gen p)), PV.int .u32 (↑(Hd.time (Prm.gen p)) : Int), PV.int .u32 (↑(Hd.bits (Prm.gen p)) : Int), PV.int .u32 (↑(Hd.nonce (Prm.gen p)) : Int)], PV.vec false (PV.iarr .i64 (nd (Prm.sum p)) (dg (Prm.sum p)))], PV.vec false (PV.parr (102 : Nat) n (Sh.st (102 : Nat) [Sh.st (100 : Nat) [Sh.st (68 : Nat) [Sh.int .u32, Sh.iarr .u8 (32 : Nat), Sh.iarr .u8 (32 : Nat), Sh.int .u32, Sh.int .u32, Sh.int .u32], Sh.iarr .u8 (32 : Nat)], Sh.int .i64, Sh.vec (1 : Nat) (Sh.int .i64)]) R)], PV.iarr .u8 (32 : Nat) x] [] (PV.int .i64 (-1 : Int)), decide ((↑n : Int) ≥ Prm.cap p) = false, Pt (37 : Nat) [] [PV.st (75 : Nat) [PV.st (74 : Nat) [PV.int .u32 (↑(Prm.lim p) : Int), PV.int .i64 (Prm.per p), PV.int .i64 (Prm.sp p), PV.int .i64 (Prm.fu p), PV.int .i64 (Prm.cap p), PV.st (68 : Nat) [PV.int .u32 (↑(Hd.ver (Prm.gen p)) : Int), PV.iarr .u8 (32 : Nat) (Hd.prev (Prm.gen p)), PV.iarr .u8 (32 : Nat) (Hd.root (Prm.gen p)), PV.int .u32 (↑(Hd.time (Prm.gen p)) : Int), PV.int .u32 (↑(Hd.bits (Prm.gen p)) : Int), PV.int .u32 (↑(Hd.nonce (Prm.gen p)) : Int)], PV.vec false (PV.iarr .i64 (nd (Prm.sum p)) (dg (Prm.sum p)))], PV.vec false (PV.parr (102 : Nat) n (Sh.st (102 : Nat) [Sh.st (100 : Nat) [Sh.st (68 : Nat) [Sh.int .u32, Sh.iarr .u8 (32 : Nat), Sh.iarr .u8 (32 : Nat), Sh.int .u32, Sh.int .u32, Sh.int .u32], Sh.iarr .u8 (32 : Nat)], Sh.int .i64, Sh.vec (1 : Nat) (Sh.int .i64)]) R)], PV.iarr .u8 (32 : Nat) (Hd.prev h)] [] (PV.int .i64 (↑o : Int)), Pt (39 : Nat) [] [PV.st (75 : Nat) [PV.st (74 : Nat) [PV.int .u32 (↑(Prm.lim p) : Int), PV.int .i64 (Prm.per p), PV.int .i64 (Prm.sp p), PV.int .i64 (Prm.fu p), PV.int .i64 (Prm.cap p), PV.st (68 : Nat) [PV.int .u32 (↑(Hd.ver (Prm.gen p)) : Int), PV.iarr .u8 (32 : Nat) (Hd.prev (Prm.gen p)), PV.iarr .u8 (32 : Nat) (Hd.root (Prm.gen p)), PV.int .u32 (↑(Hd.time (Prm.gen p)) : Int), PV.int .u32 (↑(Hd.bits (Prm.gen p)) : Int), PV.int .u32 (↑(Hd.nonce (Prm.gen p)) : Int)], PV.vec false (PV.iarr .i64 (nd (Prm.sum p)) (dg (Prm.sum p)))], PV.vec false (PV.parr (102 : Nat) n (Sh.st (102 : Nat) [Sh.st (100 : Nat) [Sh.st (68 : Nat) [Sh.int .u32, Sh.iarr .u8 (32 : Nat), Sh.iarr .u8 (32 : Nat), Sh.int .u32, Sh.int .u32, Sh.int .u32], Sh.iarr .u8 (32 : Nat)], Sh.int .i64, Sh.vec (1 : Nat) (Sh.int .i64)]) R)], PV.int .i64 (↑o : Int)] [] (PV.vec false (PV.parr (100 : Nat) k (Sh.st (100 : Nat) [Sh.st (68 : Nat) [Sh.int .u32, Sh.iarr .u8 (32 : Nat), Sh.iarr .u8 (32 : Nat), Sh.int .u32, Sh.int .u32, Sh.int .u32], Sh.iarr .u8 (32 : Nat)]) M)), Pt (38 : Nat) [] [PV.st (74 : Nat) [PV.int .u32 (↑(Prm.lim p) : Int), PV.int .i64 (Prm.per p), PV.int .i64 (Prm.sp p), PV.int .i64 (Prm.fu p), PV.int .i64 (Prm.cap p), PV.st (68 : Nat) [PV.int .u32 (↑(Hd.ver (Prm.gen p)) : Int), PV.iarr .u8 (32 : Nat) (Hd.prev (Prm.gen p)), PV.iarr .u8 (32 : Nat) (Hd.root (Prm.gen p)), PV.int .u32 (↑(Hd.time (Prm.gen p)) : Int), PV.int .u32 (↑(Hd.bits (Prm.gen p)) : Int), PV.int .u32 (↑(Hd.nonce (Prm.gen p)) : Int)], PV.vec false (PV.iarr .i64 (nd (Prm.sum p)) (dg (Prm.sum p)))], PV.vec false (PV.parr (100 : Nat) k (Sh.st (100 : Nat) [Sh.st (68 : Nat) [Sh.int .u32, Sh.iarr .u8 (32 : Nat), Sh.iarr .u8 (32 : Nat), Sh.int .u32, Sh.int .u32, Sh.int .u32], Sh.iarr .u8 (32 : Nat)]) M), PV.st (68 : Nat) [PV.int .u32 (↑(Hd.ver h) : Int), PV.iarr .u8 (32 : Nat) (Hd.prev h), PV.iarr .u8 (32 : Nat) (Hd.root h), PV.int .u32 (↑(Hd.time h) : Int), PV.int .u32 (↑(Hd.bits h) : Int), PV.int .u32 (↑(Hd.nonce h) : Int)], PV.int .i64 now] [] (PV.int .i64 (0 : Int)), Pt (40 : Nat) [] [PV.st (68 : Nat) [PV.int .u32 (↑(Hd.ver h) : Int), PV.iarr .u8 (32 : Nat) (Hd.prev h), PV.iarr .u8 (32 : Nat) (Hd.root h), PV.int .u32 (↑(Hd.time h) : Int), PV.int .u32 (↑(Hd.bits h) : Int), PV.int .u32 (↑(Hd.nonce h) : Int)]] [] (PV.tup [PV.vec false (PV.iarr .i64 dw Dw), PV.bool true]), (0 : Int) ≤ (↑o : Int), (↑o : Int) < (↑n : Int), PV.vec (PV.nil? (List.headD (List.tail (List.tail (PV.fs (List.getD R o PV.undef)))) PV.undef)) (PV.iarr .i64 (PV.len (PV.els (List.headD (List.tail (List.tail (PV.fs (List.getD R o PV.undef)))) PV.undef))) (PV.nums (PV.els (List.headD (List.tail (List.tail (PV.fs (List.getD R o PV.undef)))) PV.undef)))) = PV.vec false (PV.iarr .i64 d0 D0), o < n, Pt (41 : Nat) [] [PV.vec false (PV.iarr .i64 d0 D0), PV.vec false (PV.iarr .i64 dw Dw)] [] (PV.vec false (PV.iarr .i64 ds Ds)), decide ((↑ds : Int) > (16 : Int)) = false, (0 : Nat) < n, n * (144 : Nat) ≤ (140737488355328 : Nat), n ≤ (9223372036854775807 : Nat), ([((1040 : Nat), none), ((1200 : Nat), some (Row.mk (PV.parr (102 : Nat) (n + (1 : Nat)) (Sh.st (102 : Nat) [Sh.st (100 : Nat) [Sh.st (68 : Nat) [Sh.int .u32, Sh.iarr .u8 (32 : Nat), Sh.iarr .u8 (32 : Nat), Sh.int .u32, Sh.int .u32, Sh.int .u32], Sh.iarr .u8 (32 : Nat)], Sh.int .i64, Sh.vec (1 : Nat) (Sh.int .i64)]) (List.take n R ++ [PV.st (102 : Nat) [PV.st (100 : Nat) [PV.st (68 : Nat) [PV.int .u32 (↑(Hd.ver h) : Int), PV.iarr .u8 (32 : Nat) (Hd.prev h), PV.iarr .u8 (32 : Nat) (Hd.root h), PV.int .u32 (↑(Hd.time h) : Int), PV.int .u32 (↑(Hd.bits h) : Int), PV.int .u32 (↑(Hd.nonce h) : Int)], PV.iarr .u8 (32 : Nat) x], PV.int .i64 (↑o : Int), PV.vec false (PV.iarr .i64 ds Ds)]])) false))] : List (Nat × Option Row)) = [((1040 : Nat), none), ((1200 : Nat), some (Row.mk (PV.parr (102 : Nat) (n + (1 : Nat)) (Sh.st (102 : Nat) [Sh.st (100 : Nat) [Sh.st (68 : Nat) [Sh.int .u32, Sh.iarr .u8 (32 : Nat), Sh.iarr .u8 (32 : Nat), Sh.int .u32, Sh.int .u32, Sh.int .u32], Sh.iarr .u8 (32 : Nat)], Sh.int .i64, Sh.vec (1 : Nat) (Sh.int .i64)]) (R ++ [PV.st (102 : Nat) [PV.st (100 : Nat) [PV.st (68 : Nat) [PV.int .u32 (↑(Hd.ver h) : Int), PV.iarr .u8 (32 : Nat) (Hd.prev h), PV.iarr .u8 (32 : Nat) (Hd.root h), PV.int .u32 (↑(Hd.time h) : Int), PV.int .u32 (↑(Hd.bits h) : Int), PV.int .u32 (↑(Hd.nonce h) : Int)], PV.iarr .u8 (32 : Nat) x], PV.int .i64 (↑o : Int), PV.vec false (PV.iarr .i64 ds Ds)]])) false))], (1 : Nat) ≤ (1 : Nat), (0 : Nat) + n = n, (n + (1 : Nat)) * (144 : Nat) ≤ (140737488355328 : Nat), n + (1 : Nat) ≤ (9223372036854775807 : Nat), (0 : Nat) + (n + (1 : Nat)) ≤ n + (1 : Nat), PV.tup [PV.st (75 : Nat) [PV.st (74 : Nat) [PV.int .u32 (↑(Prm.lim p) : Int), PV.int .i64 (Prm.per p), PV.int .i64 (Prm.sp p), PV.int .i64 (Prm.fu p), PV.int .i64 (Prm.cap p), PV.st (68 : Nat) [PV.int .u32 (↑(Hd.ver (Prm.gen p)) : Int), PV.iarr .u8 (32 : Nat) (Hd.prev (Prm.gen p)), PV.iarr .u8 (32 : Nat) (Hd.root (Prm.gen p)), PV.int .u32 (↑(Hd.time (Prm.gen p)) : Int), PV.int .u32 (↑(Hd.bits (Prm.gen p)) : Int), PV.int .u32 (↑(Hd.nonce (Prm.gen p)) : Int)], PV.vec false (PV.iarr .i64 (nd (Prm.sum p)) (dg (Prm.sum p)))], PV.vec false (PV.parr (102 : Nat) (n + (1 : Nat)) (Sh.st (102 : Nat) [Sh.st (100 : Nat) [Sh.st (68 : Nat) [Sh.int .u32, Sh.iarr .u8 (32 : Nat), Sh.iarr .u8 (32 : Nat), Sh.int .u32, Sh.int .u32, Sh.int .u32], Sh.iarr .u8 (32 : Nat)], Sh.int .i64, Sh.vec (1 : Nat) (Sh.int .i64)]) (List.take (n + (1 : Nat)) (R ++ [PV.st (102 : Nat) [PV.st (100 : Nat) [PV.st (68 : Nat) [PV.int .u32 (↑(Hd.ver h) : Int), PV.iarr .u8 (32 : Nat) (Hd.prev h), PV.iarr .u8 (32 : Nat) (Hd.root h), PV.int .u32 (↑(Hd.time h) : Int), PV.int .u32 (↑(Hd.bits h) : Int), PV.int .u32 (↑(Hd.nonce h) : Int)], PV.iarr .u8 (32 : Nat) x], PV.int .i64 (↑o : Int), PV.vec false (PV.iarr .i64 ds Ds)]])))], PV.int .i64 0] = PV.tup [PV.st (75 : Nat) [PV.st (74 : Nat) [PV.int .u32 (↑(Prm.lim p) : Int), PV.int .i64 (Prm.per p), PV.int .i64 (Prm.sp p), PV.int .i64 (Prm.fu p), PV.int .i64 (Prm.cap p), PV.st (68 : Nat) [PV.int .u32 (↑(Hd.ver (Prm.gen p)) : Int), PV.iarr .u8 (32 : Nat) (Hd.prev (Prm.gen p)), PV.iarr .u8 (32 : Nat) (Hd.root (Prm.gen p)), PV.int .u32 (↑(Hd.time (Prm.gen p)) : Int), PV.int .u32 (↑(Hd.bits (Prm.gen p)) : Int), PV.int .u32 (↑(Hd.nonce (Prm.gen p)) : Int)], PV.vec false (PV.iarr .i64 (nd (Prm.sum p)) (dg (Prm.sum p)))], PV.vec false (PV.parr (102 : Nat) (n + (1 : Nat)) (Sh.st (102 : Nat) [Sh.st (100 : Nat) [Sh.st (68 : Nat) [Sh.int .u32, Sh.iarr .u8 (32 : Nat), Sh.iarr .u8 (32 : Nat), Sh.int .u32, Sh.int .u32, Sh.int .u32], Sh.iarr .u8 (32 : Nat)], Sh.int .i64, Sh.vec (1 : Nat) (Sh.int .i64)]) (R ++ [PV.st (102 : Nat) [PV.st (100 : Nat) [PV.st (68 : Nat) [PV.int .u32 (↑(Hd.ver h) : Int), PV.iarr .u8 (32 : Nat) (Hd.prev h), PV.iarr .u8 (32 : Nat) (Hd.root h), PV.int .u32 (↑(Hd.time h) : Int), PV.int .u32 (↑(Hd.bits h) : Int), PV.int .u32 (↑(Hd.nonce h) : Int)], PV.iarr .u8 (32 : Nat) x], PV.int .i64 (↑o : Int), PV.vec false (PV.iarr .i64 ds Ds)]]))], PV.int .i64 (↑(0 : Nat) : Int)]] (by kernel_rfl) (ac (by exact c1) (ac (by exact c2) (ac (by exact decide_eq_false (by omega)) (ac (by exact c3) (ac (by exact c4) (ac (by exact c5) (ac (by exact c6) (ob2 (by omega) (ac (by (rw [g]; rfl)) (ac (by omega) (ac (by exact c7) (ac (by exact decide_eq_false (by omega)) (ob3 (by omega) (ac (by rw [List.take_of_length_le (show List.length R ≤ n by omega)]) (ac (by omega) (ac (by omega) (ob3 (by omega) (ao (by (simp; omega))))))))))))))))))))
end Go.Proofs
namespace Go.Proofs
open Go Go.Pe Go.Pm
set_option maxRecDepth 100000
set_option linter.unusedVariables false
attribute [local irreducible] Ak lv EP
def JC (N : List Nd) : List PV := (hsN N).map fun x => PV.iarr .u8 32 x
def JO (n : Nat) : List Int := ints (List.range n)
def BV (N : List Nd) : List Nat := (N.getD (FJ N) default).path
def QT (a b : Nat) (p : Prm) (N : List Nd) : List (Nat × Row) := trX a b p N.length (N.map D5) (JC N) (JO N.length) (BV N).length (ints (BV N))
def Ox (p : Prm) (N : List Nd) : List (Nat × Row) := trR p N.length (N.map D5) (JC N) (JO N.length) (BV N).length (ints (BV N))
def QY (p : Prm) (N : List Nd) : PV := rT p N.length (N.map Fs)
theorem Xi : ∀ (l : List (List Int)) (y : List Int), BC (l.map fun x => PV.iarr .u8 32 x) (.iarr .u8 32 y) = decide (fnd l y < l.length)
 | [], y => rfl
 | k :: l, y => by
  have ih := Xi l y
  unfold BC at ih ⊢
  rw [List.map_cons, List.any_cons, ih, show fnd (k :: l) y = if k = y then 0 else fnd l y + 1 from rfl]
  by_cases h : k = y
  ·rw [if_pos h]; simp [Du, h]
  ·rw [if_neg h]
   have : Du (.iarr .u8 32 y) (.iarr .u8 32 k) = false := by simp [Du]; exact fun e => h e.symm
   rw [this, Bool.false_or]
   simp
theorem XJ : ∀ (l : List (List Int)) (y : List Int) (s : Nat), fnd l y < l.length → A7 (l.map fun x => PV.iarr .u8 32 x) (ints (List.range' s l.length)) (.iarr .u8 32 y) = ((s + fnd l y : Nat) : Int)
 | [], y, s, h => by simp [fnd] at h
 | k :: l, y, s, h => by
  rw [List.length_cons, List.range'_succ]
  unfold fnd at h ⊢
  by_cases hk : k = y
  ·rw [if_pos hk]
   have : Du (.iarr .u8 32 y) (.iarr .u8 32 k) = true := by simp [Du, hk]
   simp [A7, ints, this]
  ·rw [if_neg hk] at h ⊢
   have hf : Du (.iarr .u8 32 y) (.iarr .u8 32 k) = false := by simp [Du]; exact fun e => hk e.symm
   have ih := XJ l y (s + 1) (by simpa using h)
   have e : A7 (List.map (fun x => PV.iarr .u8 32 x) (k :: l)) (ints (s :: List.range' (s + 1) l.length)) (.iarr .u8 32 y) = A7 (l.map fun x => PV.iarr .u8 32 x) (ints (List.range' (s + 1) l.length)) (.iarr .u8 32 y) := by
    simp [A7, ints, hf]
   rw [e, ih]
   congr 1
   omega
theorem FT (N : List Nd) : (hsN N).length = N.length := by simp [hsN]
theorem O9 (N : List Nd) (y : List Int) : BC (JC N) (.iarr .u8 32 y) = decide (fnd (hsN N) y < N.length) := by
 have := Xi (hsN N) y
 rwa [FT] at this
theorem TJ {N : List Nd} {y : List Int} (h : fnd (hsN N) y < N.length) : A7 (JC N) (JO N.length) (.iarr .u8 32 y) = ((fnd (hsN N) y : Nat) : Int) := by
 have := XJ (hsN N) y 0 (by rw [FT]; exact h)
 rw [FT, Nat.zero_add] at this
 unfold JO JC
 rw [List.range_eq_range']
 exact this
theorem JV (n : Nat) : JO (n + 1) = JO n ++ [(n : Int)] := by simp [JO, ints, List.range_succ]
theorem NM {p : Prm} {l : List Hd} {h : Hd} {now : Int} (hj : jud p l h now = 0) : tgt h.bits ≠ 0 := by
 unfold jud at hj
 split at hj
 ·cases hj
 split at hj
 ·cases hj
 split at hj
 ·cases hj
 ·rename_i hm
  have : meets h = true := by simpa using hm
  unfold meets at this
  exact (of_decide_eq_true this).1
theorem TW.Pw {p : Prm} {N : List Nd} (hT : TW p N) {i : Nat} (hi : i < N.length) : ∀ h ∈ Be N (N.getD i default).path, h.Ok := by
 intro h hh
 unfold Be at hh
 obtain ⟨k, hk, rfl⟩ := List.mem_map.1 hh
 obtain ⟨j, hj, rfl⟩ := List.getElem_of_mem hk
 have := (hT.pcl i hi j hj).1
 have e : (N.getD i default).path.getD j 0 = (N.getD i default).path[j] := by rw [List.getD_eq_getElem?_getD, List.getElem?_eq_getElem hj]; rfl
 rw [e] at this
 exact hT.ok _ this
theorem XZ {p : Prm} (hp : p.Ok) (hm : p.May) {N : List Nd} (hT : TW p N) (hN : N.length ≤ 29) {h : Hd} (hh : h.Ok) {now : Int} :
  (((Gt p N h now).1 = N ∧ Pt 16 (Ox p N) [.at 1 [], h.pv, .int .i64 now] (QT 2 4 p N) (.int .i64 (Gt p N h now).2)) ∨
   ((Gt p N h now).2 = 0 ∧ Pt 16 (Ox p N) [.at 1 [], h.pv, .int .i64 now] (QT 6 4 p (Gt p N h now).1) (.int .i64 ((0 : Nat) : Int))) ∨
   ((Gt p N h now).2 = 0 ∧ Pt 16 (Ox p N) [.at 1 [], h.pv, .int .i64 now] (QT 6 5 p (Gt p N h now).1) (.int .i64 ((0 : Nat) : Int)))) ∧
  Pt 14 [] [QY p N, h.pv, .int .i64 now] [] (.tup [QY p (Gt p N h now).1, .int .i64 (Gt p N h now).2]) := by
 have c1 := Da hh
 have r1 : Pt 35 [] [h.pv] [] (.st 100 [h.pv, .iarr .u8 32 (Ak h)]) := TC hh
 have r2 := Q6 (p := p) (N := N) rfl (by omega) (y := Ak h) (Bq h)
 have r3 := Q6 (p := p) (N := N) rfl (by omega) (y := h.prev) hh.prev
 have m1 := O9 N (Ak h)
 have m2 := O9 N h.prev
 have hbp := hT.plen (FJ N) (Po hT.pos)
 have hlast := hT.plast (FJ N) (Po hT.pos)
 have htp := Po hT.pos
 unfold QY Ox
 unfold fndI at r2 r3
 obtain ⟨q, hq⟩ : ∃ q, (BV N).length = q + 1 := ⟨(BV N).length - 1, by unfold BV; omega⟩
 have gB : (ints (BV N)).getD q 0 = ((FJ N : Nat) : Int) := by
  rw [Jp (by omega)]
  congr 1
  unfold BV at hq ⊢
  rw [hq] at hlast
  exact hlast
 unfold Gt
 by_cases h7 : fnd (hsN N) (Ak h) < N.length
 ·rw [if_pos h7]
  rw [decide_eq_true h7] at m1
  rw [if_pos h7] at r2
  exact ⟨.inl ⟨rfl, pc_add7 c1 m1⟩, XP r1 r2⟩
 rw [if_neg h7]
 rw [decide_eq_false h7] at m1
 rw [if_neg h7] at r2
 by_cases h8 : p.cap ≤ (N.length : Int)
 ·rw [if_pos h8]
  exact ⟨.inl ⟨rfl, pc_add8 c1 m1 h8⟩, XD r1 r2 h8⟩
 rw [if_neg h8]
 by_cases h9 : N.length ≤ fnd (hsN N) h.prev
 ·rw [if_pos h9]
  rw [decide_eq_false (by omega)] at m2
  rw [if_neg (by omega)] at r3
  exact ⟨.inl ⟨rfl, pc_add9 c1 m1 h8 m2⟩, X0 r1 r2 h8 r3⟩
 rw [if_neg h9]
 have ho : fnd (hsN N) h.prev < N.length := by omega
 rw [decide_eq_true ho] at m2
 rw [if_pos ho] at r3
 have g2 := TJ ho
 have hpl := hT.plen _ ho
 have c2 := PU (p := p) hT rfl (by omega) (H := JC N) (V := JO N.length) (m := (BV N).length) (B := ints (BV N)) ho rfl
 have r4 := UL (p := p) hT rfl (by omega) ho rfl
 have hll := FV N (N.getD (fnd (hsN N) h.prev) default).path
 have c3 := Q3 hp hm (nl := false) (l := Be N (N.getD (fnd (hsN N) h.prev) default).path) (by omega) (by omega) (hT.Pw ho) hh (now := now)
 have r5 := UE hp hm (nl := false) (l := Be N (N.getD (fnd (hsN N) h.prev) default).path) (by omega) (by omega) (hT.Pw ho) hh (now := now)
 unfold lpv at c3
 rw [hll] at c3
 unfold links at r5
 rw [List.length_map, hll] at r5
 have r5 : Pt 38 [] [p.rpv, .vec false (.parr 100 (N.getD (fnd (hsN N) h.prev) default).path.length H5 (lkN N (N.getD (fnd (hsN N) h.prev) default).path)), h.pv, .int .i64 now] [] _ := r5
 have gN := Md ho
 have gR := LZ ho
 have hwo := hT.w _ ho
 unfold D5 ndV Hd.pv at gN
 unfold Fs rnV Hd.pv at gR
 have hML : ((Be N (N.getD (fnd (hsN N) h.prev) default).path).map Hd.pv).length = (N.getD (fnd (hsN N) h.prev) default).path.length := by rw [List.length_map, hll]
 by_cases hj : ¬ jud p (Be N (N.getD (fnd (hsN N) h.prev) default).path) h now = 0
 ·rw [if_pos hj]
  exact ⟨.inl ⟨rfl, pc_addJ c1 m1 h8 m2 g2 c2 hML c3 hj⟩, Xu r1 r2 h8 r3 r4 r5 hj⟩
 rw [if_neg hj]
 have hj0 := Classical.not_not.1 hj
 have htg := NM hj0
 rw [hj0] at c3 r5
 have c4 := DC hh.bits htg
 have c5 := pc_work (BP h.bits)
 have c6 := Jy hwo (PI (t := tgt h.bits))
 have hwp := Rf (Nat.pos_of_ne_zero htg) (BP h.bits)
 have r6 := Vb hh htg
 have r7 := Ll (na := false) (nb := false) (a := (N.getD (fnd (hsN N) h.prev) default).w) (b := work (tgt h.bits)) (NP hwo) (NP PI)
 rw [decide_eq_false (by omega)] at r7
 unfold bv at r6 r7
 by_cases h14 : Aa ≤ (N.getD (fnd (hsN N) h.prev) default).w + work (tgt h.bits)
 ·rw [if_pos h14]
  rw [decide_eq_true h14] at c6
  have hd : ¬ nd ((N.getD (fnd (hsN N) h.prev) default).w + work (tgt h.bits)) ≤ 16 := fun e => by have := CO.1 e; omega
  exact ⟨.inl ⟨rfl, WO c1 m1 h8 m2 g2 ho c2 hML c3 gN c4 c5 c6⟩, Vm r1 r2 h8 r3 r4 r5 ho gR r6 r7 (by omega)⟩
 rw [if_neg h14]
 rw [decide_eq_false h14, Nat.mod_eq_of_lt (by omega)] at c6
 have hd := CO.2 (Nat.lt_of_not_le h14)
 have hT2 := hT.snoc ho hh (w := (N.getD (fnd (hsN N) h.prev) default).w + work (tgt h.bits)) (by omega)
 have hbs := Uw hT.pos ⟨h, (N.getD (fnd (hsN N) h.prev) default).path ++ [N.length], (N.getD (fnd (hsN N) h.prev) default).w + work (tgt h.bits)⟩
 have r := VE r1 r2 h8 r3 r4 r5 ho (by omega) (by simp) gR r6 r7 (by omega)
 have hwt := hT.w _ htp
 have hlq : (N.getD (fnd (hsN N) h.prev) default).path.length = (N.getD (fnd (hsN N) h.prev) default).ht + 1 := by unfold Nd.ht; omega
 have eht : ((N.getD (fnd (hsN N) h.prev) default).ht + 1) = (⟨h, (N.getD (fnd (hsN N) h.prev) default).path ++ [N.length], (N.getD (fnd (hsN N) h.prev) default).w + work (tgt h.bits)⟩ : Nd).ht := by
  show _ = ((N.getD (fnd (hsN N) h.prev) default).path ++ [N.length]).length - 1
  rw [List.length_append, List.length_singleton]
  omega
 have hol := hT.plast _ ho
 have epar : ((fnd (hsN N) h.prev : Nat) : Int) = (⟨h, (N.getD (fnd (hsN N) h.prev) default).path ++ [N.length], (N.getD (fnd (hsN N) h.prev) default).w + work (tgt h.bits)⟩ : Nd).par := by
  unfold Nd.par
  dsimp only
  rw [List.length_append, List.length_singleton, if_neg (by omega), show (N.getD (fnd (hsN N) h.prev) default).path.length + 1 - 2 = (N.getD (fnd (hsN N) h.prev) default).path.length - 1 by omega, AY _ _ _ _ (by omega), hol]
 have eL : N.map D5 ++ [ndV h (Ak h) ((fnd (hsN N) h.prev : Nat) : Int) (((N.getD (fnd (hsN N) h.prev) default).ht + 1 : Nat) : Int) (uw ((N.getD (fnd (hsN N) h.prev) default).w + work (tgt h.bits)))] = (N ++ [(⟨h, (N.getD (fnd (hsN N) h.prev) default).path ++ [N.length], (N.getD (fnd (hsN N) h.prev) default).w + work (tgt h.bits)⟩ : Nd)]).map D5 := by
  rw [eht, epar, List.map_append]
  rfl
 have eR : N.map Fs ++ [rnV h (Ak h) ((fnd (hsN N) h.prev : Nat) : Int) (nd ((N.getD (fnd (hsN N) h.prev) default).w + work (tgt h.bits))) (dg ((N.getD (fnd (hsN N) h.prev) default).w + work (tgt h.bits)))] = (N ++ [(⟨h, (N.getD (fnd (hsN N) h.prev) default).path ++ [N.length], (N.getD (fnd (hsN N) h.prev) default).w + work (tgt h.bits)⟩ : Nd)]).map Fs := by
  rw [epar, List.map_append]
  rfl
 rw [eR] at r
 have eH : JC N ++ [.iarr .u8 32 (Ak h)] = JC (N ++ [⟨h, (N.getD (fnd (hsN N) h.prev) default).path ++ [N.length], (N.getD (fnd (hsN N) h.prev) default).w + work (tgt h.bits)⟩]) := by
  unfold JC hsN
  rw [List.map_append, List.map_append]
  rfl
 have gt : (N.map D5 ++ [ndV h (Ak h) ((fnd (hsN N) h.prev : Nat) : Int) (((N.getD (fnd (hsN N) h.prev) default).ht + 1 : Nat) : Int) (uw ((N.getD (fnd (hsN N) h.prev) default).w + work (tgt h.bits)))]).getD (FJ N) .undef = D5 (N.getD (FJ N) default) := by
  rw [AY _ _ _ _ (by rw [List.length_map]; exact htp)]
  exact Md htp
 unfold D5 ndV Hd.pv at gt
 have c7 := Ec (a := (N.getD (fnd (hsN N) h.prev) default).w + work (tgt h.bits)) (b := (N.getD (FJ N) default).w) (by omega) hwt
 have hlen : (N ++ [(⟨h, (N.getD (fnd (hsN N) h.prev) default).path ++ [N.length], (N.getD (fnd (hsN N) h.prev) default).w + work (tgt h.bits)⟩ : Nd)]).length = N.length + 1 := by simp
 have hx : ((N ++ [(⟨h, (N.getD (fnd (hsN N) h.prev) default).path ++ [N.length], (N.getD (fnd (hsN N) h.prev) default).w + work (tgt h.bits)⟩ : Nd)]).getD N.length default) = ⟨h, (N.getD (fnd (hsN N) h.prev) default).path ++ [N.length], (N.getD (fnd (hsN N) h.prev) default).w + work (tgt h.bits)⟩ := BD _ _ _
 refine ⟨.inr ?_, by rw [hlen]; exact r⟩
 rw [hq] at c2 ⊢
 by_cases hc : (N.getD (FJ N) default).w < (N.getD (fnd (hsN N) h.prev) default).w + work (tgt h.bits)
 ·right
  refine ⟨rfl, ?_⟩
  rw [if_pos hc] at hbs
  have hcm : CQ ((N.getD (fnd (hsN N) h.prev) default).w + work (tgt h.bits)) (N.getD (FJ N) default).w > 0 := by
   unfold CQ
   rw [if_neg (by omega), if_pos hc]
   decide
  have eb : BV (N ++ [⟨h, (N.getD (fnd (hsN N) h.prev) default).path ++ [N.length], (N.getD (fnd (hsN N) h.prev) default).w + work (tgt h.bits)⟩]) = (N.getD (fnd (hsN N) h.prev) default).path ++ [N.length] := by
   unfold BV
   rw [hbs, hx]
  have c9 := TE hT2 (n := N.length + 1) hlen (by omega) (H := JC (N ++ [⟨h, (N.getD (fnd (hsN N) h.prev) default).path ++ [N.length], (N.getD (fnd (hsN N) h.prev) default).w + work (tgt h.bits)⟩])) (V := JO (N.length + 1)) (m := q + 1) (B := ints (BV N)) (i := N.length) (by omega) rfl
  rw [hx] at c9
  rw [← eL, ← eH, JV] at c9
  have r := pc_add1 c1 m1 h8 m2 g2 ho c2 hML c3 gN c4 c5 c6 (by simp) (by simp [JC, hsN]) (by simp [JO, ints]) (by omega) (by unfold BV at hq; omega) (by omega) gB htp gt c7 hcm c9
  unfold QT
  rw [eb, hlen, ← eL, ← eH, JV]
  exact r
 ·left
  refine ⟨rfl, ?_⟩
  rw [if_neg hc] at hbs
  have hcm : ¬ CQ ((N.getD (fnd (hsN N) h.prev) default).w + work (tgt h.bits)) (N.getD (FJ N) default).w > 0 := by
   unfold CQ
   by_cases h5 : (N.getD (fnd (hsN N) h.prev) default).w + work (tgt h.bits) < (N.getD (FJ N) default).w
   ·rw [if_pos h5]; decide
   ·rw [if_neg h5, if_neg hc]; decide
  have eb : BV (N ++ [⟨h, (N.getD (fnd (hsN N) h.prev) default).path ++ [N.length], (N.getD (fnd (hsN N) h.prev) default).w + work (tgt h.bits)⟩]) = BV N := by
   unfold BV
   rw [hbs, AY _ _ _ _ htp]
  have r := pc_add0 c1 m1 h8 m2 g2 ho c2 hML c3 gN c4 c5 c6 (by simp) (by simp [JC, hsN]) (by simp [JO, ints]) (by omega) (by unfold BV at hq; omega) (by omega) gB htp gt c7 hcm
  unfold QT
  rw [eb, hq, hlen, ← eL, ← eH, JV]
  exact r
end Go.Proofs
namespace Go.Proofs
open Go Go.Pe Go.Pm
set_option maxRecDepth 100000
set_option linter.unusedVariables false
attribute [local irreducible] Ak lv EP
structure BestOk (N : List Nd) (k : Nat) : Prop where
 len : (BV N).length = k + 1
 lt : ∀ j, j < k + 1 → (BV N).getD j 0 < N.length
 last : (BV N).getD k 0 = FJ N
def K3 : Sh := .st 69 [hsh, .int .i64]
def K4 (x : Hd × Int) : PV := .st 69 [x.1.pv, .int .i64 x.2]
def ET (p : Prm) (nl : Bool) (k : Nat) (I : List PV) : PV := .st 78 [p.pv, .vec nl (.parr 69 k K3 I)]
theorem Qx {p : Prm} {nl : Bool} {k : Nat} {I : Lpz} (c1 : Pt 13 [] [p.pv] [] p.rpv) (c2 : Pt 29 [] [p.rpv] [] (.bool true)) (hk : k ≤ 24) : Pt 9 [] [ET p nl k I] [] (.bool true) := by
 refine pO Tryz.func9 (by kernel_rfl) ?_
 unfold ET
 refine W.rtA [(5, aT), (9, c0 c1), (10, c9 c2)] [] [decide ((k:Int) ≤ 24) = true, _, _] (ac (dT (by omega)) (ac (c1) (ao (c2))))
theorem Xh {p : Prm} {nl : Bool} {k : Nat} {I : Lpz} (c1 : Pt 13 [] [p.pv] [] p.rpv) (c2 : Pt 29 [] [p.rpv] [] (.bool false)) (hk : k ≤ 24) : Pt 9 [] [ET p nl k I] [] (.bool false) := by
 refine pO Tryz.func9 (by kernel_rfl) ?_
 unfold ET
 refine W.rtA [(5, aT), (9, c0 c1), (10, c9 c2)] [] [decide ((k:Int) ≤ 24) = true, _, _] (ac (dT (by omega)) (ac (c1) (ao (c2))))
theorem Wx {p : Prm} {nl : Bool} {k : Nat} {I : Lpz} (hk : ¬ k ≤ 24) : Pt 9 [] [ET p nl k I] [] (.bool false) := by
 refine pO Tryz.func9 (by kernel_rfl) ?_
 have hk' : ¬ (k : Int) ≤ 24 := by omega
 unfold ET
 refine W.rtA [(5, aF)] [] [decide ((k:Int) ≤ 24) = false] (ao (dF (by omega)))
theorem Qu {x : Liz} (hx : x.length = 32) (c1 : Pt 30 [] [] [] AR.pv) (c2 : Pt 11 [] [AR.pv] (trR AR 1 [ndV AR.gen x (-1) 0 (uw 0)] [.iarr .u8 32 x] [0] 1 [0]) (.tup [.at 1 [], .int .i64 ((0 : Nat) : Int)]))
  (c3 : Pt 21 [] [AR.gen.pv] [] (.iarr .u8 32 x)) (c4 : Pt 11 [] [zeroP.pv] [] (.tup [.nilp, .int .i64 1])) : Pt 10 [] [] [] (.bool true) := by
 refine pO Tryz.func10 (by kernel_rfl) ?_
 have hm : BC [.iarr .u8 32 x] (.iarr .u8 32 x) = true := by simp [BC, Du]
 have hv : A7 [.iarr .u8 32 x] [0] (.iarr .u8 32 x) = ((0 : Nat) : Int) := by simp [A7, Du]
 have d1 := pc_tTip (p := AR) (n := 1) (L := [ndV AR.gen x (-1) 0 (uw 0)]) (H := [.iarr .u8 32 x]) (V := [0]) (B := [0]) (q := 0) (t := 0) (by omega) rfl (by omega) (h := AR.gen) (x := x) (a := -1) (b := 0) (w := uw 0) rfl
 have d2 := pc_tLen (p := AR) (n := 1) (L := [ndV AR.gen x (-1) 0 (uw 0)]) (H := [.iarr .u8 32 x]) (V := [0]) (m := 1) (B := [0])
 have d3 := RS (pc_getY (p := AR) (n := 1) (L := [ndV AR.gen x (-1) 0 (uw 0)]) (H := [.iarr .u8 32 x]) (V := [0]) (m := 1) (B := [0]) (y := x) (c := 0) (h := AR.gen) (x := x) (a := -1) (b := 0) (w := uw 0) hm hv (by omega) rfl)
 have d4 : Pt 32 (trR AR 1 [ndV AR.gen x (-1) 0 (uw 0)] [.iarr .u8 32 x] [0] 1 [0]) [.at 1 []] (trR AR 1 [ndV AR.gen x (-1) 0 (uw 0)] [.iarr .u8 32 x] [0] 1 [0] ++ [(5, ⟨.parr 32 1 hsT [.iarr .u8 32 x], false⟩)]) (.ref 5 [] 32 0 1) := by
  refine pO Tryz.func32 (by kernel_rfl) ?_
  have hw := Xj (p := AR) (n := 1) (L := [ndV AR.gen x (-1) 0 (uw 0)]) (H := [.iarr .u8 32 x]) (V := [0]) (m := 1) (B := [0]) (hout := trR AR 1 [ndV AR.gen x (-1) 0 (uw 0)] [.iarr .u8 32 x] [0] 1 [0] ++ [(5, ⟨.parr 32 1 hsT [.iarr .u8 32 x], false⟩)]) (res := .ref 5 [] 32 0 1) (i := 0) (c := 0) (M := []) (h := AR.gen) (x := x) (a := -1) (b := 0) (w := uw 0) (by omega) (by omega) rfl rfl (by omega) rfl W_beEnd
  rw [if_pos rfl] at hw
  refine W.sgA 0 [(6, aV (I6 1))] (rI 4) (dBe0 AR 1 [ndV AR.gen x (-1) 0 (uw 0)] [.iarr .u8 32 x] [0] 1 [0]) [I6 ↑(1 : Nat) = I6 1] (ao (cg (by omega))) ?_
  exact hw
 have d5 := pc_onY (p := AR) (n := 1) (L := [ndV AR.gen x (-1) 0 (uw 0)]) (H := [.iarr .u8 32 x]) (V := [0]) (m := 1) (B := [0]) (y := x) (c := 0) hm hv rfl (by omega)
 rw [decide_eq_true (show EA [0] ((0 : Nat) : Int) < 1 by decide)] at d5
 clear hm hv
 unfold trR at *
 refine W.rtA [(1, c9 c1), (5, c9 c2), (8, aV (I6 0)), (19, cS [145, 146, 147, 148] true [(145, 1), (146, 2), (147, 3), (148, 4)] d1), (22, c9 c3), (23, aF), (27, cS [145, 146, 147, 148] true [(145, 1), (146, 2), (147, 3), (148, 4)] d2), (32, cC true [(145, 1), (146, 2), (147, 3), (148, 4)] d1), (33, cC true [(145, 1), (146, 2), (147, 3), (148, 4)] d3), (36, aV (I6 0)), (40, c9 c4), (58, cC true [(145, 1), (146, 2), (147, 3), (148, 4)] d4), (59, aV (I6 1)), (65, cC true [(145, 1), (146, 2), (147, 3), (148, 4)] d1), (66, cC true [(145, 1), (146, 2), (147, 3), (148, 4)] d5)] [] [_, _, I6 ↑(0 : Nat) = I6 0, rX [(145, 1), (146, 2), (147, 3), (148, 4)] d1 1, rX [(145, 1), (146, 2), (147, 3), (148, 4)] d1 2, rX [(145, 1), (146, 2), (147, 3), (148, 4)] d1 3, rX [(145, 1), (146, 2), (147, 3), (148, 4)] d1 4, _, _, (!decide (x = x)) = false, rX [(145, 1), (146, 2), (147, 3), (148, 4)] d1 1, rX [(145, 1), (146, 2), (147, 3), (148, 4)] d1 2, rX [(145, 1), (146, 2), (147, 3), (148, 4)] d1 3, rX [(145, 1), (146, 2), (147, 3), (148, 4)] d1 4, _, _, _, I6 ↑(0 : Nat) = I6 0, _, _, I6 ↑(1 : Nat) = I6 1, _, _] (ac (c1) (ac (c2) (ac (cg (by omega)) (ac rfl (ac rfl (ac rfl (ac rfl (ac (d1) (ac (c3) (ac (by (simp [*]; done)) (ac rfl (ac rfl (ac rfl (ac rfl (ac (d2) (ac (d1) (ac (d3) (ac (cg (by omega)) (ac (c4) (ac (d4) (ac (cg (by omega)) (ac (d1) (ao (d5))))))))))))))))))))))))
end Go.Proofs
namespace Go.Proofs
open Go Go.Pe Go.Pm
set_option maxRecDepth 100000
set_option linter.unusedVariables false
attribute [local irreducible] Ak lv EP
theorem R5 {I : List (Hd × Int)} {i : Nat} (h : i < I.length) : (I.map K4).getD i .undef = .st 69 [(I.getD i default).1.pv, .int .i64 (I.getD i default).2] := by simp [List.getD_eq_getElem?_getD, h, K4]
theorem it_ok {I : List (Hd × Int)} (ho : ∀ x ∈ I, x.1.Ok) {i : Nat} (h : i < I.length) : (I.getD i default).1.Ok := by
 have : I.getD i default = I[i] := by simp [List.getD_eq_getElem?_getD, h]
 rw [this]; exact ho _ (List.getElem_mem h)
theorem X7 (x : Nd) : FJ [x] = 0 := by simp [FJ, E9]
theorem Py : Pt 10 [] [] [] (.bool true) := by
 have c2 := Kv (p := AR) (NS LM Vp) (Da LM.gen)
 exact Qu (Bq _) VW c2 (Da LM.gen) (QS (UC zero_ok VV))
end Go.Proofs
namespace Go.Proofs
open Go Go.Pe Go.Pm
set_option linter.unusedVariables false
inductive AddC (p : Prm) (N : List Nd) (h : Hd) (r : List Nd × Int) : Prop
 | there : fnd (hsN N) (Ak h) < N.length → r = (N, 7) → AddC p N h r
 | full : ¬ fnd (hsN N) (Ak h) < N.length → p.cap ≤ (N.length : Int) → r = (N, 8) → AddC p N h r
 | no (e : Int) : ¬ fnd (hsN N) (Ak h) < N.length → ¬ p.cap ≤ (N.length : Int) → e ≠ 0 → e ≠ 7 → e ≠ 8 → r = (N, e) → AddC p N h r
 | ok (x : Nd) : ¬ fnd (hsN N) (Ak h) < N.length → ¬ p.cap ≤ (N.length : Int) → r = (N ++ [x], 0) → AddC p N h r
end Go.Proofs
namespace Go.Proofs
open Go Go.Pe Go.Pm
set_option linter.unusedVariables false
theorem Ri {a b : Int} (h : a ≤ b) : held a ≤ held b := by
 unfold held mn mx
 split <;> split <;> (try split) <;> (try split) <;> omega
theorem Sq {p : Prm} {l : List Hd} {h : Hd} {a b : Int} (hab : a ≤ b) (hj : jud p l h a = 0) : jud p l h b = 0 := by
 have hm := Ri hab
 unfold jud at *
 split at hj
 ·cases hj
 ·rename_i g1
  rw [if_neg g1]
  split at hj
  ·cases hj
  ·rename_i g2
   rw [if_neg g2]
   split at hj
   ·cases hj
   ·rename_i g3
    rw [if_neg g3]
    split at hj
    ·cases hj
    ·rename_i g4
     rw [if_neg g4]
     split at hj
     ·cases hj
     ·rw [if_neg (by omega)]
theorem QI : ∀ {a b : List Hd} {s : Nat}, (tot s a).2 = 0 → tot s (a ++ b) = tot (tot s a).1 b
 | [], b, s, _ => rfl
 | x :: a, b, s, h => by
  have e1 : ∀ c, tot s (x :: c) = if tgt x.bits = 0 then (0, 5) else if Aa ≤ s + work (tgt x.bits) then (0, 14) else tot (s + work (tgt x.bits)) c := fun _ => rfl
  rw [List.cons_append, e1, e1]
  rw [e1] at h
  by_cases g : tgt x.bits = 0
  ·rw [if_pos g] at h; cases h
  ·rw [if_neg g] at h
   rw [if_neg g, if_neg g]
   by_cases g2 : Aa ≤ s + work (tgt x.bits)
   ·rw [if_pos g2] at h; cases h
   ·rw [if_neg g2] at h
    rw [if_neg g2, if_neg g2]
    exact QI h
structure TV (p : Prm) (N : List Nd) (now : Int) : Prop where
 sum : ∀ i, i < N.length → tot p.sum ((Be N (N.getD i default).path).drop 1) = ((N.getD i default).w, 0)
 jd : ∀ i, i < N.length → ∀ j, 1 ≤ j → j < (N.getD i default).path.length → jud p ((Be N (N.getD i default).path).take j) ((Be N (N.getD i default).path).getD j default) now = 0
 own : ∀ i, i < N.length → fnd (hsN N) (Ak (N.getD i default).h) = i
 root : ∀ i, i < N.length → (N.getD i default).path.getD 0 0 = 0
theorem JQ {N : List Nd} (x : Nd) {l : List Nat} (h : ∀ k ∈ l, k < N.length) : Be (N ++ [x]) l = Be N l := by
 unfold Be
 refine List.map_congr_left fun k hk => ?_
 rw [AY _ _ _ _ (h k hk)]
theorem TW.Pz {p : Prm} {N : List Nd} (hT : TW p N) {i : Nat} (hi : i < N.length) : ∀ k ∈ (N.getD i default).path, k < N.length := by
 intro k hk
 obtain ⟨j, hj, rfl⟩ := List.getElem_of_mem hk
 have := (hT.pcl i hi j hj).1
 rwa [List.getD_eq_getElem?_getD, List.getElem?_eq_getElem hj] at this
theorem JL (N : List Nd) (l : List Nat) : (Be N l).length = l.length := by simp [Be]
theorem TV.new (p : Prm) (now : Int) : TV p [⟨p.gen, [0], p.sum⟩] now := by
 refine ⟨fun i hi => ?_, fun i hi j h1 hj => ?_, fun i hi => ?_, fun i hi => ?_⟩ <;> (obtain rfl : i = 0 := by simpa using hi)
 ·rfl
 ·have : j < 1 := hj
  omega
 ·simp [hsN, fnd]
 ·rfl
theorem TV.snoc {p : Prm} {N : List Nd} {now a : Int} (hT : TW p N) (h : TV p N now) {o : Nat} {x : Hd} (ho : o < N.length) (hx : ¬ fnd (hsN N) (Ak x) < N.length) (hj : jud p (Be N (N.getD o default).path) x a = 0) (ha : a ≤ now) (ht : tgt x.bits ≠ 0) (hw : ¬ Aa ≤ (N.getD o default).w + work (tgt x.bits)) :
  TV p (N ++ [⟨x, (N.getD o default).path ++ [N.length], (N.getD o default).w + work (tgt x.bits)⟩]) now := by
 have hcase : ∀ i, i < N.length + 1 → i < N.length ∨ i = N.length := fun i hi => by omega
 have hl : (N ++ [(⟨x, (N.getD o default).path ++ [N.length], (N.getD o default).w + work (tgt x.bits)⟩ : Nd)]).length = N.length + 1 := by simp
 have hpo := hT.plen o ho
 have e2 : Be (N ++ [(⟨x, (N.getD o default).path ++ [N.length], (N.getD o default).w + work (tgt x.bits)⟩ : Nd)]) ((N.getD o default).path ++ [N.length]) = Be N (N.getD o default).path ++ [x] := by
  have e := JQ (⟨x, (N.getD o default).path ++ [N.length], (N.getD o default).w + work (tgt x.bits)⟩ : Nd) (hT.Pz ho)
  unfold Be at e ⊢
  rw [List.map_append, e, List.map_singleton, BD]
 have hll := JL N (N.getD o default).path
 refine ⟨fun i hi => ?_, fun i hi j h1 hjl => ?_, fun i hi => ?_, fun i hi => ?_⟩ <;> rw [hl] at hi <;> rcases hcase i hi with hlt | rfl
 ·rw [AY _ _ _ _ hlt, JQ _ (hT.Pz hlt)]
  exact h.sum i hlt
 ·rw [BD]
  dsimp only
  rw [e2, List.drop_append_of_le_length (by omega), QI (by rw [h.sum o ho]), h.sum o ho]
  dsimp only
  rw [tot, if_neg ht, if_neg hw]
  rfl
 ·rw [AY _ _ _ _ hlt] at hjl ⊢
  rw [JQ _ (hT.Pz hlt)]
  exact h.jd i hlt j h1 hjl
 ·rw [BD] at hjl ⊢
  dsimp only at hjl ⊢
  rw [e2]
  rw [List.length_append, List.length_singleton] at hjl
  rcases Nat.lt_or_ge j (N.getD o default).path.length with hk | hk
  ·rw [List.take_append_of_le_length (by omega), AY _ _ _ _ (by omega)]
   exact h.jd o ho j h1 hk
  ·obtain rfl : j = (Be N (N.getD o default).path).length := by omega
   rw [BD, List.take_left]
   exact Sq ha hj
 ·rw [AY _ _ _ _ hlt]
  have e := h.own i hlt
  have hsl : (hsN N).length = N.length := by simp [hsN]
  unfold hsN at e hsl ⊢
  rw [List.map_append, Ue, e, hsl, if_pos hlt]
 ·rw [BD]
  have hsl : (hsN N).length = N.length := by simp [hsN]
  unfold hsN at hx hsl ⊢
  rw [List.map_append, Ue, hsl, if_neg hx]
  simp [fnd]
 ·rw [AY _ _ _ _ hlt]
  exact h.root i hlt
 ·rw [BD]
  dsimp only
  rw [AY _ _ _ _ hpo.1]
  exact h.root o ho
theorem TV.add {p : Prm} {N : List Nd} {now a : Int} (hT : TW p N) (h : TV p N now) {x : Hd} (ha : a ≤ now) : TV p (Gt p N x a).1 now := by
 unfold Gt
 split
 ·exact h
 rename_i g1
 split
 ·exact h
 split
 ·exact h
 rename_i g3
 split
 ·exact h
 rename_i g4
 split
 ·exact h
 rename_i g5
 exact h.snoc hT (by omega) g1 (Classical.not_not.1 g4) ha (NM (Classical.not_not.1 g4)) g5
end Go.Proofs
